import Derived.Test.YtlnilfcjcoclhaaGreatDoorHoC
/- Package keyholetop: kept. -/
namespace Go.Proofs.YtlnilfcjcoclhaaGreatDoor
open Go.RowKit Go.Shelf
attribute [local go_sem] Oper.semAt_some

theorem cnt_two : cntB ((2 : Nat) : Int) = true := by decide
/-- what a region that makes memory keeps of a block of two cells -/
abbrev BdS (w0 : World) (h : Nat) (x y : Value) (w' : World) : Prop := w'.cell? ⟨h, 0, none⟩ = some x ∧ w'.cell? ⟨h, 1, none⟩ = some y ∧ Below w0.heap.size w0 w'
theorem bd_of {w0 w' : World} {h : Nat} {t : TypeId} {x y : Value} (k : KH.Blk w0 h t #[x, y]) (hb : Below w0.heap.size w0 w') : BdS w0 h x y w' := ⟨(k.below hb k.lt).cell 0, (k.below hb k.lt).cell 1, hb⟩
theorem bd_b {w0 w' : World} {h : Nat} {x y : Value} (hs : BdS w0 h x y w') : Below w0.heap.size w0 w' := hs.2.2
theorem bd_call {w0 w' w'' : World} {h : Nat} {t : TypeId} {x y : Value} (k : KH.Blk w0 h t #[x, y]) (hs : BdS w0 h x y w') (hb : Below w'.heap.size w' w'') : BdS w0 h x y w'' := bd_of k ((bd_b hs).trans (hb.mono (bd_b hs).size))
theorem bd_alloc {w0 w' : World} {h : Nat} {t : TypeId} {x y : Value} (k : KH.Blk w0 h t #[x, y]) (hs : BdS w0 h x y w') (o : Obj) : BdS w0 h x y (w'.alloc o) := bd_of k ((bd_b hs).alloc (bd_b hs).size o)
theorem bd_set2 {w0 w' : World} {h q : Nat} {t : TypeId} {x y : Value} (k : KH.Blk w0 h t #[x, y]) (hs : BdS w0 h x y w') (hq : w0.heap.size ≤ q) (u v : Value) : BdS w0 h x y ((w'.setCell ⟨q, 0, none⟩ u).setCell ⟨q, 1, none⟩ v) := bd_of k (((bd_b hs).setCell (p := ⟨q, 0, none⟩) hq u).setCell (p := ⟨q, 1, none⟩) hq v)
/-- what many gives -/
def kcV (c m : Int) : ByteArray := tx m.toNat (fun _ => c.toNat)
theorem kcV_size (c m : Int) : (kcV c m).size = m.toNat := tx_size _ _
theorem kmany (c m : Int) (h : 0 ≤ c) (h' : 0 ≤ m) (h2 : m ≤ 1000) (W : World) : Calls Tryz.prog 14 #[.int .u8 c, .int .i64 m] W fun e w' => e = .returned (.string (kcV c m)) ∧ Below W.heap.size W w' := by
  have := tmany_any c.toNat m.toNat (by omega) W
  rw [Int.toNat_of_nonneg h, Int.toNat_of_nonneg h'] at this
  exact this
theorem str_off {W : World} {B n g : Nat} {A P : Option Addr} {a b : Nat} {Bl : List ByteArray} {t : TypeId} {v : Value} (h : KH.Reads W B 1 A n (Bl.map .string)) (hk : KH.Blk W g t #[.slice P a b, v]) (hn : 1 < n) : ∀ ad, A = some ad → ad.block ≠ g := fun ad e hb => by
  obtain ⟨ad0, u0, e0, -, h0, c0⟩ := h.at_ (show 0 < n by omega)
  obtain ⟨ad1, u1, e1, -, h1, c1⟩ := h.at_ hn
  obtain rfl : ad = ad0 := by rw [e] at e0; exact Option.some.inj e0
  obtain rfl : ad = ad1 := by rw [e] at e1; exact Option.some.inj e1
  obtain ⟨s0, hs0⟩ : ∃ s, u0 = Value.string s := by
    rw [List.getElem?_map] at h0
    obtain ⟨s, _, hs⟩ := Option.map_eq_some_iff.1 h0
    exact ⟨s, hs.symm⟩
  subst hs0
  obtain rfl : ad.block = g := hb
  rw [add_zero'] at c0
  rw [show (1 : Nat) = 1 + 0 from rfl, add_one, hk.cell] at c1
  unfold KH.Blk at hk
  unfold World.cell? at c0
  rw [hk] at c0
  by_cases q : ad.off = 0
  · rw [q] at c0
    by_cases s : ad.spot.isSome
    · simp [s] at c0
    · simp [s] at c0
  · rw [List.getElem?_toArray, List.getElem?_eq_none (by show 2 ≤ ad.off + 1 + 0; omega)] at c1
    cases c1
theorem vlIn_set2 {w : World} {q a b : Nat} {P : Option Addr} {t : TypeId} {x v : Value} {Bl : List ByteArray} {r : ByteArray} (h : VlIn w v Bl r) (hk : KH.Blk w q t #[.slice P a b, x]) (hn : 1 < Bl.length) (u u' : Value) : VlIn ((w.setCell ⟨q, 0, none⟩ u).setCell ⟨q, 1, none⟩ u') v Bl r := by
  obtain ⟨A, c, rfl, hr⟩ := h
  have ho := str_off hr hk hn
  exact ⟨A, c, rfl, KH.Reads.more (KH.Reads.setFar (KH.Reads.setFar hr (p := ⟨q, 0, none⟩) ho u) (p := ⟨q, 1, none⟩) ho u') (by simp)⟩
set_option maxHeartbeats 4000000 in
set_option maxRecDepth 100000 in
theorem kept_any (K : Nat → Nat) {w : World} (hK : RoundsAt K w) (hT : TurnsAt w) :
    Calls Tryz.prog 6 #[] w fun e w' => e = .returned (.bool true) ∧ Below w.heap.size w w' := by
  have hg1 := hK.1
  have hg0 := hT.1
  have HF := KH.hid (vfmt_any K 2 cnt_two hK)
  have HK := KH.hid (And.intro hK hT)
  obtain ⟨h0C, h0V⟩ := fmt_vaS K (n := 2) cnt_two
  rw [h0C] at HF
  obtain ⟨S0, hS0⟩ : ∃ q, q = (fmtD K 2).1 := ⟨_, rfl⟩
  rw [← hS0] at HF h0V
  have HV := KH.hid h0V
  clear hK hT h0C hS0 h0V
  go_enter Tryz.func6, Tryz.ntmps6
  go_wp2_with fail
  refine HF.out.mono ?_; rintro e w1 ⟨v1, rfl, hP1, hb1⟩
  have hP1' := hP1
  obtain ⟨A1, c1, A2, c2, rfl, -, -, -, -⟩ := hP1'
  have k2 := KH.Blk.new w1 35 #[.slice A1 S0.length c1, .slice A2 0 c2]
  have hP2 := hP1.below ((Below.refl w1.heap.size w1).alloc (Nat.le_refl _) (.cells #[.slice A1 S0.length c1, .slice A2 0 c2] 35))
  have hB2 := hb1.alloc hb1.size (.cells #[.slice A1 S0.length c1, .slice A2 0 c2] 35)
  have HL := KH.hid (vload_any K hP2 (HV.out.vaOk (by omega)) (rounds_below HK.out.1 hB2 hg1))
  have hz1 := hb1.size
  obtain ⟨g1, hg1'⟩ : ∃ q, q = w1.heap.size := ⟨_, rfl⟩
  obtain ⟨w2, hw2⟩ : ∃ W, W = w1.alloc (.cells #[.slice A1 S0.length c1, .slice A2 0 c2] 35) := ⟨_, rfl⟩
  rw [← hw2] at k2 hP2 hB2 HL
  rw [← hg1'] at k2
  have HE2 := KH.hid (And.intro hw2 hg1')
  have f0 : w2.cell? ⟨g1, 0, none⟩ = some (.slice A1 S0.length c1) := k2.cell 0
  have f1 : w2.cell? ⟨g1, 1, none⟩ = some (.slice A2 0 c2) := k2.cell 1
  rw [hw2, hg1'] at f0 f1
  clear hP1 hb1 hw2 hg1'
  go_wp2_with fail
  rw [← HE2.out.1, ← HE2.out.2]
  refine HL.out.mono ?_; rintro e w3 ⟨A, c, rfl, hV3, -, hb3⟩
  have k3 := k2.below hb3 k2.lt
  have hP3 := hP2.below hb3
  have hB3 := hB2.trans (hb3.mono hB2.size)
  obtain ⟨rv, hrv⟩ : ∃ r, r = rootV K (List.replicate 2 ⟨#[]⟩) := ⟨_, rfl⟩
  rw [← hrv] at hV3 ⊢
  have hz3 := hB3.size
  have k4 := k3.alloc (.cells #[.slice A 2 c, .string rv] 48)
  have v4 := KH.Blk.new w3 48 #[.slice A 2 c, .string rv]
  have hV4 := hV3.below ((Below.refl w3.heap.size w3).alloc (Nat.le_refl _) (.cells #[.slice A 2 c, .string rv] 48))
  have hP4 := hP3.below ((Below.refl w3.heap.size w3).alloc (Nat.le_refl _) (.cells #[.slice A 2 c, .string rv] 48))
  have hB4 := hB3.alloc hB3.size (.cells #[.slice A 2 c, .string rv] 48)
  obtain ⟨g3, hg3'⟩ : ∃ q, q = w3.heap.size := ⟨_, rfl⟩
  obtain ⟨w4, hw4⟩ : ∃ W, W = w3.alloc (.cells #[.slice A 2 c, .string rv] 48) := ⟨_, rfl⟩
  rw [← hw4] at k4 hP4 hB4 hV4 v4
  rw [← hg3'] at v4
  have hl34 : g1 < g3 := by have := k3.lt; omega
  have HE4 := KH.hid (And.intro hw4 (And.intro hg3' hrv))
  clear hP3 hb3 hB3 hw4 hg3' k2 hP2 hB2 hV3 k3 f0 f1 HL HF hrv
  go_upto_region 3 with fail
  rw [← HE4.out.1, ← HE4.out.2.1]
  have f0 : w4.cell? ⟨g3, 0, none⟩ = some (.slice A 2 c) := v4.cell 0
  have f1 : w4.cell? ⟨g3, 1, none⟩ = some (.string rv) := v4.cell 1
  obtain ⟨key, hkey⟩ : ∃ q, q = kcV 1 32 := ⟨_, rfl⟩
  obtain ⟨non, hnon⟩ : ∃ q, q = kcV 2 12 := ⟨_, rfl⟩
  have hks : key.size = 32 := by rw [hkey]; exact kcV_size _ _
  have hns : non.size = 12 := by rw [hnon]; exact kcV_size _ _
  obtain ⟨abc, habc⟩ : ∃ q : ByteArray, q = ⟨#[97, 98, 99]⟩ := ⟨_, rfl⟩
  have has : abc.size ≤ 64 := by rw [habc]; show 3 ≤ 64; omega
  obtain ⟨Bl1, hBl1⟩ : ∃ q, q = (List.replicate 2 (⟨#[]⟩ : ByteArray)).set 1 (hdV key non 1 abc) := ⟨_, rfl⟩
  obtain ⟨rw1, hrw1⟩ : ∃ q, q = rootV K Bl1 := ⟨_, rfl⟩
  have hB0 := hB4.size
  have HWr : Hid (∀ W, Below w4.heap.size w4 W → Calls Tryz.prog 13 #[.agg #[.slice A 2 c, .string rv], .string (kcV 1 32), .string (kcV 2 12), .int .i64 1, .string ⟨#[97, 98, 99]⟩] W fun e w' => ∃ A' c', ∃ l : Nat, e = .returned (.tuple #[.agg #[.slice A' l c', .string rw1], .int .i64 0]) ∧ VlIn w' (.agg #[.slice A' l c', .string rw1]) Bl1 rw1 ∧ Below W.heap.size W w') := fun W hb => by
    have hv := hV4.below hb
    rw [HE4.out.2.2] at hv ⊢
    have hbw := hB4.trans (hb.mono hB0)
    have := vwrite_yes K (key := key) (nonce := non) (s := abc) (i := 1) hv (by rw [rep_len]; exact cnt_two) (vSz_none 2) (by rw [rep_len]; omega) hks hns has (rounds_below HK.out.1 hbw hg1) (turns_below HK.out.2 hbw hg0)
    rw [← hBl1, ← hrw1] at this
    rw [← habc, ← hkey, ← hnon]
    refine this.mono ?_
    rintro e w' ⟨v', rfl, h1, h2⟩
    have h3 := h1
    obtain ⟨A', c', rfl, -⟩ := h1
    exact ⟨A', c', _, rfl, h3, h2⟩
  have HBl : Hid (1 < Bl1.length) := KH.hid (by rw [hBl1, List.length_set, rep_len]; omega)
  have HX := KH.hid (And.intro hV4 (And.intro hP4 (And.intro k4 hB4)))
  have HY := KH.hid (And.intro hkey (And.intro hnon (And.intro hBl1 (And.intro hrw1 habc))))
  clear hV4 hP4 k4 hB4 hkey hnon hBl1 hrw1 habc
  go_cut [6, 7] from 26 to 32 (fun p e wx => ∃ g6 A' c', ∃ l : Nat, p = .pointer (some ⟨g6, 0, none⟩) ∧ e = .int .i64 0 ∧ KH.Blk wx g6 48 #[.slice A' l c', .string rw1] ∧ VlIn wx (.agg #[.slice A' l c', .string rw1]) Bl1 rw1 ∧ Below w4.heap.size w4 wx)
  case first =>
    go_region_held3 (fun w' => w'.cell? ⟨g3, 0, none⟩ = some (.slice A 2 c) ∧ w'.cell? ⟨g3, 1, none⟩ = some (.string rv) ∧ Below w4.heap.size w4 w') (first
      | exact bd_of v4 (Below.refl w4.heap.size w4).drew | exact bd_call v4 (by assumption) (by assumption) | exact bd_alloc v4 (by assumption) _ | exact bd_of v4 (hbw5.alloc hbw5.size _) | exact bd_set2 v4 (by assumption) (by first | assumption | exact Nat.le_refl _) _ _) (first
      | (go_at_call 14; refine (kmany _ _ (by omega) (by omega) (by omega) _).mono ?_; rintro e wm1 ⟨rfl, hbm1⟩; have hqm := Nat.le_trans (bd_b (x := .slice A 2 c) (y := .string rv) (h := g3) (w0 := w4) (by assumption)).size hbm1.size; first | (have kA := blk_newcall hbm1) | (have kA := blk_newdrew hbm1) | (have kA := kA.below hbm1 kA.lt) | skip)
      | (go_at_call 13; refine (HWr.out _ (bd_b (x := .slice A 2 c) (y := .string rv) (h := g3) (by assumption))).mono ?_; rintro e w5 ⟨A', c', l, rfl, hV5, hb5⟩; have hbw5 := (bd_b (x := .slice A 2 c) (y := .string rv) (h := g3) (w0 := w4) (by assumption)).trans (hb5.mono (bd_b (x := .slice A 2 c) (y := .string rv) (h := g3) (w0 := w4) (by assumption)).size); first | (have kA := blk_newcall hb5; have ka0 := kA.cell 0; have ka1 := kA.cell 1; have ka2 := kA.frozen 0; have ka3 := kA.frozen 1; simp only [List.getElem?_toArray, List.getElem?_cons_zero, List.getElem?_cons_succ] at ka0 ka1) | (have kA := kA.below hb5 kA.lt; have ka0 := kA.cell 0; have ka1 := kA.cell 1; have ka2 := kA.frozen 0; have ka3 := kA.frozen 1; simp only [List.getElem?_toArray, List.getElem?_cons_zero, List.getElem?_cons_succ] at ka0 ka1) | skip))
    all_goals
      go_wp2_with fail
      go_meet
      first
        | exact ⟨_, A', c', l, rfl, rfl, KH.Blk.new _ _ _, hV5.below ((Below.refl w5.heap.size w5).alloc (Nat.le_refl _) _), hbw5.alloc hbw5.size _⟩
        | exact ⟨_, A', c', l, rfl, rfl, by have := (kA.set_ 0 (.slice A' l c')).set_ 1 (.string rw1); simpa using this, vlIn_set2 hV5 kA HBl.out _ _, (hbw5.setCell (p := ⟨_, 0, none⟩) (by first | assumption | exact Nat.le_refl _) _).setCell (p := ⟨_, 1, none⟩) (by first | assumption | exact Nat.le_refl _) _⟩
  case rest =>
    obtain ⟨g6, A', c', l, rfl, rfl, v5, hV5, hb45⟩ := hcut
    have hB5 := HX.out.2.2.2.trans (hb45.mono hB0)
    have hP5 := HX.out.2.1.below hb45
    have k5 := HX.out.2.2.1.below hb45 HX.out.2.2.1.lt
    have hMk := HV.out.head.mk
    have h65 : ∀ i, (Bl1.getD i ⟨#[]⟩).size ≤ 92 := by
      rw [HY.out.2.2.1]
      exact (vSz_none 2).set 1 (by rw [hdV_size _ _ _ _ hns]; omega)
    have hl1 : Bl1.length = 2 := by rw [HY.out.2.2.1, List.length_set, rep_len]
    have hSt := store_any K (t := 7) (deeds := -1) hP5 (HV.out.vaOk (by omega)) hMk (by rw [← HY.out.2.2.2.1]; exact hV5) hl1 h65 (rounds_below HK.out.1 hB5 hg1) (.inl ⟨.inl (by omega), by omega⟩)
    have hDn := sto_done HV.out hl1 h65
    obtain ⟨S1, hS1⟩ : ∃ q, q = (stoD K S0 2 0 0 Bl1 7).1 := ⟨_, rfl⟩
    rw [show (stoD K S0 2 0 0 Bl1 7).2 = [] from hDn.1, ← hS1] at hSt
    have hV1 : VaS K S1 2 1 1 Bl1 := by rw [hS1]; exact hDn.2
    have HSt := KH.hid hSt
    have HV1 := KH.hid hV1
    have f2 : wc.cell? ⟨g1, 0, none⟩ = some (.slice A1 S0.length c1) := k5.cell 0
    have f3 : wc.cell? ⟨g1, 1, none⟩ = some (.slice A2 0 c2) := k5.cell 1
    have f4 : wc.cell? ⟨g6, 0, none⟩ = some (.slice A' l c') := v5.cell 0
    have f5 : wc.cell? ⟨g6, 1, none⟩ = some (.string rw1) := v5.cell 1
    clear hSt hDn hV1 hS1 hMk h65 f0 f1
    go_wp2_with fail
    refine HSt.out.mono ?_; rintro e w6 ⟨v6, rfl, hP6, hb6⟩
    have hP6' := hP6
    obtain ⟨A5, c5, A6, c6, rfl, -, -, -, -⟩ := hP6'
    have hB6 := hB5.trans (hb6.mono hB5.size)
    have hP7 := hP6.below ((Below.refl w6.heap.size w6).alloc (Nat.le_refl _) (.cells #[.slice A5 S1.length c5, .slice A6 0 c6] 35))
    have hB7 := hB6.alloc hB6.size (.cells #[.slice A5 S1.length c5, .slice A6 0 c6] 35)
    have k7 := KH.Blk.new w6 35 #[.slice A5 S1.length c5, .slice A6 0 c6]
    have HL7 := KH.hid (vload_any K hP7 (HV1.out.vaOk (by omega)) (rounds_below HK.out.1 hB7 hg1))
    rw [← HY.out.2.2.2.1] at HL7
    have f6 : (w6.alloc (.cells #[.slice A5 S1.length c5, .slice A6 0 c6] 35)).cell? ⟨w6.heap.size, 0, none⟩ = some (.slice A5 S1.length c5) := k7.cell 0
    have f7 : (w6.alloc (.cells #[.slice A5 S1.length c5, .slice A6 0 c6] 35)).cell? ⟨w6.heap.size, 1, none⟩ = some (.slice A6 0 c6) := k7.cell 1
    clear hP6 hb6 hB6 hP7 f2 f3 f4 f5 HSt hP5 k5
    go_wp2_with fail
    refine HL7.out.mono ?_; rintro e w8 ⟨A7, c7, rfl, hV8, -, hb8⟩
    have hB8 := hB7.trans (hb8.mono hB7.size)
    have v9 := KH.Blk.new w8 48 #[.slice A7 2 c7, .string rw1]
    have hV9 := hV8.below ((Below.refl w8.heap.size w8).alloc (Nat.le_refl _) (.cells #[.slice A7 2 c7, .string rw1] 48))
    have hB9 := hB8.alloc hB8.size (.cells #[.slice A7 2 c7, .string rw1] 48)
    obtain ⟨g9, hg9⟩ : ∃ q, q = w8.heap.size := ⟨_, rfl⟩
    obtain ⟨w9, hw9⟩ : ∃ W, W = w8.alloc (.cells #[.slice A7 2 c7, .string rw1] 48) := ⟨_, rfl⟩
    rw [← hw9] at v9 hV9 hB9
    rw [← hg9] at v9
    have HE9 := KH.hid (And.intro hw9 hg9)
    have HX9 := KH.hid (And.intro hV9 hB9)
    clear hw9 hg9 hV9 hB9 hV8 hb8 hB8 f6 f7 k7 HL7 hB7
    go_upto_region 6 with fail
    rw [← HE9.out.1, ← HE9.out.2]
    have f8 : w9.cell? ⟨g9, 0, none⟩ = some (.slice A7 2 c7) := v9.cell 0
    have f9 : w9.cell? ⟨g9, 1, none⟩ = some (.string rw1) := v9.cell 1
    have HRd : Hid (∀ W, Below w9.heap.size w9 W → Calls Tryz.prog 16 #[.agg #[.slice A7 2 c7, .string rw1], .string (kcV 1 32), .int .i64 1] W fun e w' => e = .returned (.tuple #[.string abc, .int .i64 0]) ∧ Below W.heap.size W w') := fun W hb => by
      have hv := HX9.out.1.below hb
      have hbw := HX9.out.2.trans (hb.mono HX9.out.2.size)
      rw [HY.out.2.2.2.1] at hv ⊢
      rw [← HY.out.1]
      refine vread_yes K (i := 1) hv (by rw [hl1]; exact cnt_two) HV1.out.small (by omega) hks (.inr ⟨has, non, hns, ?_⟩) (rounds_below HK.out.1 hbw hg1) (turns_below HK.out.2 hbw hg0)
      rw [HY.out.2.2.1]
      exact get_set_eq (by rw [rep_len]; omega)
    have hz9 := HX9.out.2.size
    go_region_held3 (fun w' => w'.cell? ⟨g9, 0, none⟩ = some (.slice A7 2 c7) ∧ w'.cell? ⟨g9, 1, none⟩ = some (.string rw1) ∧ Below w9.heap.size w9 w') (first
      | exact bd_of v9 (Below.refl w9.heap.size w9).drew | exact bd_call v9 (by assumption) (by assumption)) (first
      | (go_at_call 14; refine (kmany _ _ (by omega) (by omega) (by omega) _).mono ?_; rintro e wm1 ⟨rfl, hbm1⟩)
      | (go_at_call 16; refine (HRd.out _ (bd_b (x := .slice A7 2 c7) (y := .string rw1) (h := g9) (by assumption))).mono ?_; rintro e w10 ⟨rfl, hb10⟩; have hb910 := (bd_b (x := .slice A7 2 c7) (y := .string rw1) (h := g9) (w0 := w9) (by assumption)).trans (hb10.mono (bd_b (x := .slice A7 2 c7) (y := .string rw1) (h := g9) (w0 := w9) (by assumption)).size)))
    all_goals
      rw [HY.out.2.2.2.2]
      go_wp2
      go_ret
      exact ⟨rfl, HX9.out.2.trans (hb910.mono hz9)⟩
end Go.Proofs.YtlnilfcjcoclhaaGreatDoor
