import Derived.Test.YtlnilfcjcoclhaaGreatDoorVaH
/- Package platter: New. Package vault: Format. -/
namespace Go.Proofs.YtlnilfcjcoclhaaGreatDoor
open Go.RowKit Go.Shelf
attribute [local go_sem] Oper.semAt_some

set_option maxRecDepth 100000 in
theorem pnew_lem {w : World} (S : List ByteArray) (n : Nat) (hS : S = List.replicate n ⟨#[]⟩) (hn : 1 ≤ n) (hn2 : n ≤ 200) :
    Calls Tryz.prog 9 #[.int .i64 n] w fun e w' => ∃ v', e = .returned (.tuple #[v', .int .i64 0]) ∧ PlIn w' w.heap.size v' S [] ∧ Below w.heap.size w w' := by
  obtain ⟨i0, hi, hz0, hz1, hz2⟩ := info_parts str_info
  have hl : S.length = n := by rw [hS]; exact rep_len n
  have hb1 := (Below.refl w.heap.size w).alloc (Nat.le_refl _) (.cells #[.slice none 0 0, .slice none 0 0] 35)
  have k1 := KH.Blk.new w 35 #[.slice none 0 0, .slice none 0 0]
  have hz1' : (w.alloc (.cells #[.slice none 0 0, .slice none 0 0] 35)).heap.size = w.heap.size + 1 := by simp
  have hm := made_none n
  rw [← hS] at hm
  have HM := KH.hid hm
  have HL := KH.hid hl
  clear hm hS hl
  have d1 : decide ((n : Int) < 1) = false := by rw [decide_eq_false_iff_not]; omega
  have d2 : decide ((200 : Int) < (n : Int)) = false := by rw [decide_eq_false_iff_not]; omega
  go_enter Tryz.func9, Tryz.ntmps9
  obtain ⟨w1, hw1⟩ : ∃ w1, w1 = w.alloc (.cells #[.slice none 0 0, .slice none 0 0] 35) := ⟨_, rfl⟩
  rw [← hw1] at hb1 k1 hz1'
  go_wp2_with (rw [← hw1]; at_make; refine wpList_make_full _ rfl _ _ 30 rfl w1.heap.size 9 i0 (.string ⟨#[]⟩) 1 Tryz.underlying30 hi hz0 hz1 .i64 .i64 _ _ n rfl rfl rfl rfl (by rw [hz2]; omega) (by unfold maxLen; omega) (Nat.le_refl _) ?_; intro w3 hown3 hg3; rw [HM.out] at hown3; have hb13 : Below w1.heap.size w1 w3 := (Below.refl _ _).grown hg3 (Nat.le_refl _) (fun _ h => by cases h); have k3 := k1.below hb13 k1.lt; have z0 : w3.cell? ⟨w.heap.size, 0, none⟩ = some (.slice none 0 0) := k3.cell 0; have z1 : w3.cell? ⟨w.heap.size, 1, none⟩ = some (.slice none 0 0) := k3.cell 1; have z2 := k3.frozen 0; have z3 := k3.frozen 1)
  obtain rfl := HL.out
  rw [hz1'] at hown3
  exact ret_pl (lo := w.heap.size + 1) rfl rfl rfl rfl k3 ⟨_, _, none, 0, rfl, fun ad e => by have := own_lo hown3 ad e; omega, fun ad e => (by cases e), KH.Reads.of_own hown3, ⟨rfl, fun h => absurd h (by simp)⟩⟩ (Nat.lt_succ_self _) (Nat.le_succ _) (hb1.trans (hb13.mono (by omega))) (Nat.le_refl _)
theorem pnew_any {w : World} (n : Nat) (hn : 1 ≤ n) (hn2 : n ≤ 200) :
    Calls Tryz.prog 9 #[.int .i64 n] w fun e w' => ∃ v', e = .returned (.tuple #[v', .int .i64 0]) ∧ PlIn w' w.heap.size v' (List.replicate n ⟨#[]⟩) [] ∧ Below w.heap.size w w' := pnew_lem _ n rfl hn hn2
theorem ret_fmt {fn : Func} {a : Act} {w w0 : World} {h : Nat} {x0 y0 x y : Value} {S : List ByteArray} {C : List (Int × ByteArray)} {lo lo' : Nat}
    (hr : fn.results = #[.cell 2 35, .tmp 3]) (hp : a.tmps.getD 2 undef = .pointer (some ⟨h, 0, none⟩)) (hu : a.tmps.getD 3 undef = .int .i64 0) (hd : a.defers = [])
    (hk : KH.Blk w h 35 #[x0, y0]) (hP : PlIn w lo (.agg #[x, y]) S C) (hl : h < lo) (hlo : lo' ≤ lo) (hB : Below w0.heap.size w0 w) (hh : w0.heap.size ≤ h) :
    bodyPost Tryz.prog fn (fun e w' => ∃ v', e = .returned (.tuple #[v', .int .i64 0]) ∧ PlIn w' lo' v' S C ∧ Below w0.heap.size w0 w') .ret a ((w.setCell ⟨h, 0, none⟩ x).setCell ⟨h, 1, none⟩ y) :=
  ret_pl hr hp hu hd hk hP hl hlo hB hh
/-- a new vault's disk -/
def fmtD (K : Nat → Nat) (n : Nat) : Dsk := putD (List.replicate (3 + 2 * n) ⟨#[]⟩) 1 (hdS 0 0 (rootV K (List.replicate n ⟨#[]⟩))) ⟨#[48]⟩ 4
theorem rep_get (m i : Nat) : (List.replicate m (⟨#[]⟩ : ByteArray)).getD i ⟨#[]⟩ = ⟨#[]⟩ := by
  rw [List.getD_eq_getElem?_getD, List.getElem?_replicate]
  split <;> rfl
theorem rep_ok {m : Nat} (h : 1 ≤ m) (h2 : m ≤ 200) : pOk (List.replicate m ⟨#[]⟩) [] :=
  ⟨by rw [rep_len]; exact h, by rw [rep_len]; exact h2, Nat.zero_le _, by intro b hb; rw [(List.mem_replicate.1 hb).2]; exact Nat.zero_le _, by intro p hp; simp at hp⟩
set_option maxHeartbeats 1000000 in
set_option maxRecDepth 100000 in
theorem vfmt_any (K : Nat → Nat) {w : World} (n : Nat) (hn : cntB n = true) (hK : RoundsAt K w) :
    Calls Tryz.prog 8 #[.int .i64 n] w fun e w' => ∃ v', e = .returned (.tuple #[v', .int .i64 0]) ∧ PlIn w' w.heap.size v' (fmtD K n).1 (fmtD K n).2 ∧ Below w.heap.size w w' := by
  have hn' : 1 ≤ n ∧ n ≤ 64 := by obtain ⟨m, hm, h⟩ := cntB_nat hn; omega
  have hb1 := (Below.refl w.heap.size w).alloc (Nat.le_refl _) (.cells #[.slice none 0 0, .slice none 0 0] 35)
  have k1 := KH.Blk.new w 35 #[.slice none 0 0, .slice none 0 0]
  have hz1' : w.heap.size < (w.alloc (.cells #[.slice none 0 0, .slice none 0 0] 35)).heap.size := by simp
  have hg1 := hK.1
  have hsz := rootV_size K (List.replicate n ⟨#[]⟩) (by rw [rep_len]; omega)
  have HF := KH.hid (vformat_yes K n hn (rounds_below hK hb1 hg1))
  obtain ⟨rv, hrv⟩ : ∃ rv, rv = rootV K (List.replicate n ⟨#[]⟩) := ⟨_, rfl⟩
  obtain ⟨Bl, hBl⟩ : ∃ Bl, Bl = List.replicate n (⟨#[]⟩ : ByteArray) := ⟨_, rfl⟩
  obtain ⟨D, hD⟩ : ∃ D, D = fmtD K n := ⟨_, rfl⟩
  have hD2 := hD
  unfold fmtD at hD2
  rw [← hD]
  rw [← hrv] at HF hD2 hsz
  rw [← hBl] at HF
  have HD := KH.hid hD2
  clear hK hD hD2 hrv hBl
  have w1' : IntKind.i64.wrap (2 * (n : Int)) = 2 * (n : Int) := IntWalk.i64_in _ (by omega)
  have w2' : IntKind.i64.wrap (3 + 2 * (n : Int)) = 3 + 2 * (n : Int) := IntWalk.i64_in _ (by omega)
  go_enter Tryz.func8, Tryz.ntmps8
  go_wp2_with fail
  generalize w.alloc (.cells #[.slice none 0 0, .slice none 0 0] 35) = w1 at *
  refine HF.out.mono ?_; rintro e w2 ⟨A, c, rfl, -, hb2⟩
  have k2 := k1.below hb2 k1.lt
  have hB2 := hb1.trans (hb2.mono hb1.size)
  have l2 := k2.lt
  have k3 := k2.alloc (.cells #[.slice A n c, .string rv] 48)
  have v3 := KH.Blk.new w2 48 #[.slice A n c, .string rv]
  have hB3 := hB2.alloc hB2.size (.cells #[.slice A n c, .string rv] 48)
  have HN : Hid (∀ W, Calls Tryz.prog 9 #[.int .i64 (3 + 2 * (n : Int))] W fun e w' => ∃ A1 c1 A2 c2, ∃ l1 l2 : Nat, e = .returned (.tuple #[.agg #[.slice A1 l1 c1, .slice A2 l2 c2], .int .i64 0]) ∧ PlIn w' W.heap.size (.agg #[.slice A1 l1 c1, .slice A2 l2 c2]) (List.replicate (3 + 2 * n) ⟨#[]⟩) [] ∧ Below W.heap.size W w') := fun W => by
    have := pnew_any (w := W) (3 + 2 * n) (by omega) (by omega)
    rw [show ((3 + 2 * n : Nat) : Int) = 3 + 2 * (n : Int) by omega] at this
    refine this.mono ?_
    rintro e w' ⟨v', rfl, h1, h2⟩
    have h3 := h1
    obtain ⟨A1, c1, A2, c2, rfl, -, -, -, -⟩ := h1
    exact ⟨_, _, _, _, _, _, rfl, h3, h2⟩
  clear hb1 k1 k2 hB2 hb2 HF
  go_wp2_with fail
  refine (HN.out _).mono ?_; rintro e w4 ⟨A1, c1, A2, c2, l1, l2', rfl, hP4, hb4⟩
  have k4 := k3.below hb4 k3.lt
  have v4 := v3.below hb4 v3.lt
  have hB4 := hB3.trans (hb4.mono hB3.size)
  have hs4 := hb4.size
  have k5 := k4.alloc (.cells #[.slice A1 l1 c1, .slice A2 l2' c2] 35)
  have v5 := v4.alloc (.cells #[.slice A1 l1 c1, .slice A2 l2' c2] 35)
  have x5 := KH.Blk.new w4 35 #[.slice A1 l1 c1, .slice A2 l2' c2]
  have hB5 := hB4.alloc hB4.size (.cells #[.slice A1 l1 c1, .slice A2 l2' c2] 35)
  have hP5 := hP4.below ((Below.refl w4.heap.size w4).alloc (Nat.le_refl _) (.cells #[.slice A1 l1 c1, .slice A2 l2' c2] 35))
  have hg2 : w2.heap.size < w4.heap.size := by have := v4.lt; omega
  have hg0 : w.heap.size < w4.heap.size := k4.lt
  have HM := HD.out
  clear k4 v4 hB4 k3 v3 hb4 hP4 HN
  obtain ⟨g6, hg6⟩ : ∃ q, q = w4.heap.size := ⟨_, rfl⟩
  obtain ⟨w5, hw5⟩ : ∃ W, W = w4.alloc (.cells #[.slice A1 l1 c1, .slice A2 l2' c2] 35) := ⟨_, rfl⟩
  rw [← hw5] at k5 v5 x5 hB5 hP5
  rw [← hg6] at x5 hg2 hg0
  have HE := KH.hid (And.intro hg6 hw5)
  clear hg6 hw5
  obtain ⟨g4, hg4⟩ : ∃ q, q = w2.heap.size := ⟨_, rfl⟩
  rw [← hg4] at v5 hg2 l2
  have HE4 := KH.hid hg4
  clear hg4
  obtain ⟨Hd, hHd⟩ : ∃ s, s = hdS 0 0 rv := ⟨_, rfl⟩
  have hds : Hd.size = 37 := by rw [hHd]; exact hdS_size _ _ _ hsz
  have HHd : Hid (∀ W', Calls Tryz.prog 22 #[.int .i64 0, .int .i64 0, .string rv] W' fun e w' => e = .returned (.string Hd) ∧ Below W'.heap.size W' w') := fun W' => by
    have := head_yes 0 0 rv W' (by omega) (by omega) hsz
    rw [← hHd] at this
    exact this
  have HPut : Hid (∀ W', Below w5.heap.size w5 W' → Calls Tryz.prog 21 #[.agg #[.slice A1 l1 c1, .slice A2 l2' c2], .int .i64 0, .string Hd, .int .i64 (-1)] W' fun e w' => ∃ B1 e1 B2 e2, ∃ m1 m2 : Nat, e = .returned (.tuple #[.agg #[.slice B1 m1 e1, .slice B2 m2 e2], .bool true, .int .i64 0]) ∧ PlIn w' W'.heap.size (.agg #[.slice B1 m1 e1, .slice B2 m2 e2]) D.1 D.2 ∧ Below W'.heap.size W' w') := fun W' hb => by
    refine (put_none (t := 4) Hd (-1) (hP5.below hb) (rep_ok (by omega) (by omega)) (by rw [rep_len]; omega) (by omega) (rep_get _ _) (.inl ⟨by omega, rfl⟩)).mono ?_
    rintro e w' ⟨v', rfl, h1, h2⟩
    rw [hHd, ← HM] at h1
    have h3 := h1
    obtain ⟨B1, e1, B2, e2, rfl, -, -, -, -⟩ := h1
    exact ⟨_, _, _, _, _, _, rfl, h3, h2⟩
  have f0 : w5.cell? ⟨g6, 0, none⟩ = some (.slice A1 l1 c1) := x5.cell 0
  have f1 : w5.cell? ⟨g6, 1, none⟩ = some (.slice A2 l2' c2) := x5.cell 1
  have f2 : w5.cell? ⟨g4, 1, none⟩ = some (.string rv) := v5.cell 1
  have HK5 := KH.hid (And.intro k5 (And.intro x5 (And.intro v5 hB5)))
  clear k5 x5 v5 hB5 hP5 hHd HM HD hds
  go_upto_region 7 with fail
  rw [← HE.out.2]
  (try rw [← HE.out.1])
  (try rw [← HE4.out])
  go_region_with (first
    | (go_at_call 22; refine (HHd.out _).mono ?_; rintro e w8 ⟨rfl, hb8⟩; have hb58 : Below w5.heap.size w5 w8 := (Below.refl w5.heap.size w5).drew.trans hb8; have x8 := HK5.out.2.1.below hb58 HK5.out.2.1.lt; have e0 : w8.cell? ⟨g6, 0, none⟩ = some (.slice A1 l1 c1) := x8.cell 0; have e1 : w8.cell? ⟨g6, 1, none⟩ = some (.slice A2 l2' c2) := x8.cell 1)
    | (go_at_call 21; refine (HPut.out _ hb58).mono ?_; rintro e w9 ⟨B1, e1, B2, e2, m1, m2, rfl, hP9, hb9⟩; have x9 := x8.below hb9 x8.lt; have h0 : w9.cell? ⟨g6, 0, none⟩ = some (.slice A1 l1 c1) := x9.cell 0; have h1 : w9.cell? ⟨g6, 1, none⟩ = some (.slice A2 l2' c2) := x9.cell 1; have h2 := x9.frozen 0; have h3 := x9.frozen 1))
  all_goals
    have k9 := ((HK5.out.1.below hb58 HK5.out.1.lt).below hb9 (by have := hb58.size; have := HK5.out.1.lt; omega))
    have z9 := hb9.size
    have z8 := hb58.size
    have hB9 := (HK5.out.2.2.2.trans (hb58.mono HK5.out.2.2.2.size)).trans (hb9.mono (by have := HK5.out.2.2.2.size; omega))
    have lx8 := x8.lt
    have x10 : KH.Blk ((w9.setCell ⟨g6, 0, none⟩ (.slice B1 m1 e1)).setCell ⟨g6, 1, none⟩ (.slice B2 m2 e2)) g6 35 #[.slice B1 m1 e1, .slice B2 m2 e2] := by have := (x9.set_ 0 (.slice B1 m1 e1)).set_ 1 (.slice B2 m2 e2); simpa using this
    have k10 := (k9.far (p := ⟨g6, 0, none⟩) (by show w.heap.size ≠ g6; omega) (.slice B1 m1 e1)).far (p := ⟨g6, 1, none⟩) (by show w.heap.size ≠ g6; omega) (.slice B2 m2 e2)
    have hP10 := (hP9.setLow (p := ⟨g6, 0, none⟩) (by show g6 < w8.heap.size; omega) (.slice B1 m1 e1)).setLow (p := ⟨g6, 1, none⟩) (by show g6 < w8.heap.size; omega) (.slice B2 m2 e2)
    have hB10 := (hB9.setCell (p := ⟨g6, 0, none⟩) (by show w.heap.size ≤ g6; omega) (.slice B1 m1 e1)).setCell (p := ⟨g6, 1, none⟩) (by show w.heap.size ≤ g6; omega) (.slice B2 m2 e2)
    clear h0 h1 h2 h3 e0 f0 f1 f2 x8 x9 k9 hB9 hP9 hb9 hb58 HHd HPut HK5 HE HE4
    obtain ⟨W, hW⟩ : ∃ W, W = (w9.setCell ⟨g6, 0, none⟩ (.slice B1 m1 e1)).setCell ⟨g6, 1, none⟩ (.slice B2 m2 e2) := ⟨_, rfl⟩
    rw [← hW] at x10 k10 hP10 hB10 ⊢
    clear hW
    have y0 : W.cell? ⟨g6, 0, none⟩ = some (.slice B1 m1 e1) := x10.cell 0
    have y1 : W.cell? ⟨g6, 1, none⟩ = some (.slice B2 m2 e2) := x10.cell 1
    have y2 : W.cell? ⟨w.heap.size, 0, none⟩ = some (.slice none 0 0) := k10.cell 0
    have y3 : W.cell? ⟨w.heap.size, 1, none⟩ = some (.slice none 0 0) := k10.cell 1
    have y4 := k10.frozen 0
    have y5 := k10.frozen 1
    have HZ := KH.hid (And.intro k10 (And.intro hP10 hB10))
    have hh8 : w.heap.size < w8.heap.size := by omega
    clear k10 hP10 hB10 x10
    go_wp2_with fail
    exact ret_fmt rfl rfl rfl rfl HZ.out.1 HZ.out.2.1 hh8 (Nat.le_of_lt hh8) HZ.out.2.2 (Nat.le_refl _)
end Go.Proofs.YtlnilfcjcoclhaaGreatDoor
