import Derived.Test.YtlnilfcjcoclhaaGreatDoorVoC
/- Package volume: Read, Write, Format. -/
namespace Go.Proofs.YtlnilfcjcoclhaaGreatDoor
open Go.RowKit

/-- a block that reads as a text -/
def BlOk (key : ByteArray) (i : Nat) (b t : ByteArray) : Prop := (b = ⟨#[]⟩ ∧ t = ⟨#[]⟩) ∨ (t.size ≤ 64 ∧ ∃ nonce : ByteArray, nonce.size = 12 ∧ b = hdV key nonce i t)
theorem show_any {key b t : ByteArray} {i : Nat} {w : World} (h : BlOk key i b t) (hk : key.size = 32) (hi : i < 64) (hT : TurnsAt w) :
    Calls Tryz.prog 34 #[.string key, .int .i64 i, .string b] w fun e w' => e = .returned (.tuple #[.string t, .int .i64 0]) ∧ Below w.heap.size w w' := by
  rcases h with ⟨rfl, rfl⟩ | ⟨ht, nonce, hn, rfl⟩
  · exact show_none key i w hi
  · exact show_yes key nonce t i w hk hn hi ht hT
theorem alloc2 (w : World) (t1 t2 : TypeId) (a b : Array Value) (W : World) (hW : W = (w.alloc (.cells a t1)).alloc (.cells b t2)) :
    KH.Blk W w.heap.size t1 a ∧ KH.Blk W (w.heap.size + 1) t2 b ∧ Below w.heap.size w W ∧ W.heap.size = w.heap.size + 2 := by
  subst hW
  obtain ⟨h1, h2, h3⟩ := pack2 w t1 t2 a b
  exact ⟨h1, h2, h3, by simp⟩
set_option maxHeartbeats 1000000 in
set_option maxRecDepth 100000 in
theorem vread_yes (K : Nat → Nat) {w : World} {v : Value} {Bl : List ByteArray} {key t : ByteArray} {i : Nat} (hv : VlIn w v Bl (rootV K Bl)) (hn : cntB Bl.length = true) (hs : vSz Bl) (hi : i < Bl.length) (hk : key.size = 32)
    (ht : BlOk key i (Bl.getD i ⟨#[]⟩) t) (hK : RoundsAt K w) (hT : TurnsAt w) :
    Calls Tryz.prog 16 #[v, .string key, .int .i64 i] w fun e w' => e = .returned (.tuple #[.string t, .int .i64 0]) ∧ Below w.heap.size w w' := by
  have hv0 := hv
  obtain ⟨A, c, rfl, hrd⟩ := hv
  have hn' : 1 ≤ Bl.length ∧ Bl.length ≤ 64 := by obtain ⟨m, hm, h⟩ := cntB_nat hn; omega
  obtain ⟨k1, k2, hb2, hz2⟩ := alloc2 w 48 77 #[.slice A Bl.length c, .string (rootV K Bl)] #[.slice A Bl.length c, .string (rootV K Bl)] _ rfl
  have HX := KH.hid (And.intro hv0 (And.intro hs (And.intro ht (And.intro hK hT))))
  have HL := str_at hi
  clear hv0 hs ht hK hT hrd
  go_enter Tryz.func16, Tryz.ntmps16
  go_wp2_with fail
  generalize (w.alloc (.cells #[.slice A Bl.length c, .string (rootV K Bl)] 48)).alloc (.cells #[.slice A Bl.length c, .string (rootV K Bl)] 77) = W at *
  generalize w.heap.size + 1 = g at *
  have HH := KH.hid (vhas_any i k2)
  have hd : decide ((0 : Int) ≤ (i : Int) ∧ (i : Int) < (Bl.length : Int)) = true := by rw [decide_eq_true_iff]; omega
  unfold Hid at HH
  rw [hd] at HH
  refine HH.mono ?_; rintro e w1 ⟨rfl, rfl⟩
  have hv1 := HX.out.1.below hb2
  have HF := KH.hid (fit_yes K k2 hv1 hn HX.out.2.1 (rounds_below HX.out.2.2.2.1 hb2 HX.out.2.2.2.1.1))
  obtain ⟨A', c', h, hr1⟩ := hv1
  obtain ⟨rfl, rfl⟩ : A = A' ∧ c = c' := by injection h with h; injection h with h; injection h with h _; injection h with h1 _ h2; exact ⟨h1, h2⟩
  clear HH hd h
  go_wp2_with fail
  refine HF.out.mono ?_; rintro e w3 ⟨rfl, hb3⟩
  have k3 := k2.below hb3 k2.lt
  have f0 : w3.cell? ⟨g, 0, none⟩ = some (.slice A Bl.length c) := k3.cell 0
  obtain ⟨ad, u, rfl, hbl, hu, hc⟩ := (hr1.below hb3).at_ hi
  rw [HL] at hu
  obtain rfl := (Option.some.inj hu).symm
  have hB := hb2.trans (hb3.mono hb2.size)
  have HS := KH.hid (show_any (w := w3) HX.out.2.2.1 hk (by omega) (turns_below HX.out.2.2.2.2 hB HX.out.2.2.2.2.1))
  have i0 : (0 : Int) ≤ (i : Int) := by omega
  have i1 : (i : Int) < (Bl.length : Int) := by omega
  clear hb3 hb2 k1 k2 k3 hu hr1 HF HX HL
  generalize Bl.getD i ⟨#[]⟩ = b at *
  go_wp2_with fail
  refine HS.out.mono ?_; rintro e w4 ⟨rfl, hb4⟩
  have hB4 := hB.trans (hb4.mono hB.size)
  go_wp2
  go_ret2
  exact ⟨rfl, hB4⟩
theorem alloc3v (w : World) (t1 t2 t3 : TypeId) (a b c : Array Value) (W : World) (hW : W = ((w.alloc (.cells a t1)).alloc (.cells b t2)).alloc (.cells c t3)) :
    KH.Blk W w.heap.size t1 a ∧ KH.Blk W (w.heap.size + 1) t2 b ∧ KH.Blk W (w.heap.size + 1 + 1) t3 c ∧ Below w.heap.size w W ∧ W.heap.size = w.heap.size + 3 := by
  subst hW
  obtain ⟨h1, h2, h3, h4⟩ := pack3 w t1 t2 t3 a b c
  exact ⟨h1, h2, h3, h4, by simp⟩
theorem VlIn.setFar {w : World} {b n c : Nat} {rr : ByteArray} {v : Value} {Bl : List ByteArray} {r : ByteArray} (h : VlIn w v Bl r) (e : v = .agg #[.slice (some ⟨b, 0, none⟩) n c, .string rr]) {p : Addr} (hp : p.block ≠ b) (u : Value) : VlIn (w.setCell p u) v Bl r := by
  obtain ⟨A, c', rfl, hr⟩ := h
  injection e with e; injection e with e; injection e with e _; injection e with e _ _
  subst e
  refine ⟨_, c', rfl, ?_⟩
  have := KH.Reads.setFar hr (p := p) (fun ad h => by injection h with h; subst h; exact fun e => hp e.symm) u
  exact this.more (by simp)
theorem vl_eq {A A' : Option Addr} {n n' c c' : Nat} {r r' : ByteArray} (h : Value.agg #[.slice A n c, .string r] = .agg #[.slice A' n' c', .string r']) : A = A' ∧ c = c' := by
  injection h with h; injection h with h; injection h with h _; injection h with h1 _ h2; exact ⟨h1, h2⟩
theorem vSz.set {Bl : List ByteArray} (h : vSz Bl) (i : Nat) {b : ByteArray} (hb : b.size ≤ 92) : vSz (Bl.set i b) := fun j => by
  rw [List.getD_eq_getElem?_getD, List.getElem?_set]
  by_cases e : i = j
  · subst e
    by_cases hl : i < Bl.length
    · rw [if_pos rfl, if_pos hl]; exact hb
    · rw [if_pos rfl, if_neg hl]; exact Nat.zero_le _
  · rw [if_neg e, ← List.getD_eq_getElem?_getD]; exact h j
set_option maxHeartbeats 1000000 in
set_option maxRecDepth 100000 in
theorem vwrite_at (K : Nat → Nat) {w : World} {v : Value} {Bl : List ByteArray} {key nonce s : ByteArray} {i : Nat} (hv : VlIn w v Bl (rootV K Bl)) (hn : cntB Bl.length = true) (hs : vSz Bl) (hi : i < Bl.length) (hk : key.size = 32) (hno : nonce.size = 12)
    (hss : s.size ≤ 64) (hK : RoundsAt K w) (hT : TurnsAt w) :
    Calls Tryz.prog 13 #[v, .string key, .string nonce, .int .i64 i, .string s] w fun e w' => ∃ v', e = .returned (.tuple #[v', .int .i64 0]) ∧ VlIn w' v' (Bl.set i (hdV key nonce i s)) (rootV K (Bl.set i (hdV key nonce i s))) ∧ Below w.heap.size w w' ∧ ∃ b c, v' = .agg #[.slice (some ⟨b, 0, none⟩) Bl.length c, .string (rootV K (Bl.set i (hdV key nonce i s)))] ∧ w.heap.size ≤ b := by
  have hv0 := hv
  obtain ⟨A, c, rfl, hrd⟩ := hv
  have hn' : 1 ≤ Bl.length ∧ Bl.length ≤ 64 := by obtain ⟨m, hm, h⟩ := cntB_nat hn; omega
  have hz8 := hdV_size key nonce i s hno
  have hsS := hs.set i (b := hdV key nonce i s) (by omega)
  obtain ⟨k1, k2, k3, hb3, hz3⟩ := alloc3v w 48 48 77 #[.slice A Bl.length c, .string (rootV K Bl)] #[.slice none 0 0, .string ⟨#[]⟩] #[.slice A Bl.length c, .string (rootV K Bl)] _ rfl
  have HX := KH.hid (And.intro hv0 (And.intro hs (And.intro hsS (And.intro hK hT))))
  have HHD := KH.hid fun w hT => hide_yes key nonce s i w hk hno (by omega) hss hT
  have HS : Hid ((Bl.map Value.string).set i (.string (hdV key nonce i s)) = (Bl.set i (hdV key nonce i s)).map .string ∧ (Bl.set i (hdV key nonce i s)).length = Bl.length) := ⟨by simp, by simp⟩
  have hg0 := hT.1
  have hg1 := hK.1
  clear hv0 hs hsS hK hT hrd hz8
  generalize hdV key nonce i s = hd at *
  go_enter Tryz.func13, Tryz.ntmps13
  go_wp2_with fail
  generalize ((w.alloc (.cells #[.slice A Bl.length c, .string (rootV K Bl)] 48)).alloc (.cells #[.slice none 0 0, .string ⟨#[]⟩] 48)).alloc (.cells #[.slice A Bl.length c, .string (rootV K Bl)] 77) = W at *
  have hgg : w.heap.size < w.heap.size + 1 ∧ w.heap.size + 1 < w.heap.size + 1 + 1 ∧ w.heap.size + 1 + 1 < W.heap.size := by omega
  generalize w.heap.size + 1 + 1 = g3 at *
  generalize w.heap.size + 1 = g2 at *
  obtain ⟨hgg1, hgg2, hgg3⟩ := hgg
  have HH := KH.hid (vhas_any i k3)
  have hd1 : decide ((0 : Int) ≤ (i : Int) ∧ (i : Int) < (Bl.length : Int)) = true := by rw [decide_eq_true_iff]; omega
  unfold Hid at HH
  rw [hd1] at HH
  refine HH.mono ?_; rintro e w1 ⟨rfl, rfl⟩
  have hv1 := HX.out.1.below hb3
  have HF := KH.hid (fit_yes K k3 hv1 hn HX.out.2.1 (rounds_below HX.out.2.2.2.1 hb3 hg1))
  clear HH hd1
  go_wp2_with fail
  refine HF.out.mono ?_; rintro e w4 ⟨rfl, hb4⟩
  have j1 := k1.below hb4 k1.lt
  have j2 := k2.below hb4 k2.lt
  have hB4 := hb3.trans (hb4.mono hb3.size)
  have hv4 := hv1.below hb4
  have s4 := hb4.size
  clear HF k1 k2 k3 hb3 hb4 hv1
  go_wp2_with fail
  refine (HHD.out w4 (turns_below HX.out.2.2.2.2 hB4 hg0)).mono ?_; rintro e w5 ⟨rfl, hb5⟩
  have x1 := j1.below hb5 j1.lt
  have x2 := j2.below hb5 j2.lt
  have hB5 := hB4.trans (hb5.mono hB4.size)
  have hv5 := hv4.below hb5
  have s5 := hb5.size
  have s5w := hB5.size
  have f0 : w5.cell? ⟨w.heap.size, 0, none⟩ = some (.slice A Bl.length c) := x1.cell 0
  have f1 : w5.cell? ⟨w.heap.size, 1, none⟩ = some (.string (rootV K Bl)) := x1.cell 1
  have HC := KH.hid (vcopied_any hv5 hn'.1 hn'.2)
  have HV5 := KH.hid hv5
  clear j1 j2 hb5 hB4 hv4 HHD hv5
  go_wp2_with fail
  obtain ⟨rv, hrv⟩ : ∃ rv, rv = rootV K Bl := ⟨_, rfl⟩
  refine HC.out.mono ?_; rintro e w6 ⟨g, b, c6, rfl, k6, hg6, ho6, hb6⟩
  have y2 := x2.below hb6 x2.lt
  have hB6 := hB5.trans (hb6.mono hB5.size)
  have s6 := hb6.size
  have hcell := (ho6.cellAt i (by omega)).trans (str_at hi)
  have hfr := ho6.frozenAt i
  have f2 : w6.cell? ⟨g, 0, none⟩ = some (.slice (some ⟨b, 0, none⟩) Bl.length c6) := k6.cell 0
  have hst := (ho6.stored i (.string hd)).1
  rw [HS.out.1] at hst
  have hbg := ho6.lt b rfl
  have nbg : g ≠ b := fun e => KH.own_blk_ne ho6 k6 (by decide) (by rw [e]; rfl)
  have k7 := k6.far (p := ⟨b, i, none⟩) nbg (.string hd)
  have hB7 := hB6.setCell (p := ⟨b, i, none⟩) (by show w.heap.size ≤ b; have := hB5.size; omega) (.string hd)
  have n2b : g2 ≠ b := by omega
  have y3 := y2.far (p := ⟨b, i, none⟩) n2b (.string hd)
  have i0 : (0 : Int) ≤ (i : Int) := by omega
  have i1 : (i : Int) < (Bl.length : Int) := by omega
  have HRT := KH.hid (vrooted_any K (base := w5.heap.size) k7 (by omega) hst (by exact hn) HX.out.2.2.1 (rounds_below HX.out.2.2.2.1 hB7 hg1))
  have HY := KH.hid (And.intro y3 hB7)
  clear HC x1 x2 hB5 f0 f1 hb6 hB6 y2 k6 ho6 hst k7 hB7 y3 HV5
  generalize Bl.getD i ⟨#[]⟩ = old at *
  go_wp2_with fail
  refine HRT.out.mono ?_; rintro e w8 ⟨rfl, hv8, hb8⟩
  have y8 := HY.out.1.below hb8 (by omega)
  have hB8 := HY.out.2.trans (hb8.mono (by omega))
  have f3 : w8.cell? ⟨g2, 0, none⟩ = some (.slice none 0 0) := y8.cell 0
  have f4 : w8.cell? ⟨g2, 1, none⟩ = some (.string ⟨#[]⟩) := y8.cell 1
  have f5 : w8.frozen? ⟨g2, 0, none⟩ = false := y8.frozen 0
  have f6 : w8.frozen? ⟨g2, 1, none⟩ = false := y8.frozen 1
  have hv9 := ((hv8.setFar (p := ⟨g2, 0, none⟩) rfl (fun e => n2b e) (.slice (some ⟨b, 0, none⟩) Bl.length c6)).setFar (p := ⟨g2, 1, none⟩) rfl (fun e => n2b e) (.string (rootV K (Bl.set i hd))))
  have HZ := KH.hid (And.intro y8 (And.intro hB8 hv9))
  clear HRT y8 hB8 hv8 hv9 HY hb8 hcell hfr f2
  obtain ⟨rs, hrs⟩ : ∃ r, r = rootV K (Bl.set i hd) := ⟨_, rfl⟩
  rw [← hrs] at HZ ⊢
  go_wp2_with fail
  subst hrs
  exact ret_volR (p := 10) (u := 11) HZ.out.1 rfl rfl rfl rfl ⟨_, rfl, HZ.out.2.2, (HZ.out.2.1.setCell (p := ⟨g2, 0, none⟩) (by show w.heap.size ≤ g2; omega) _).setCell (p := ⟨g2, 1, none⟩) (by show w.heap.size ≤ g2; omega) _, b, c6, rfl, by omega⟩
theorem vwrite_yes (K : Nat → Nat) {w : World} {v : Value} {Bl : List ByteArray} {key nonce s : ByteArray} {i : Nat} (hv : VlIn w v Bl (rootV K Bl)) (hn : cntB Bl.length = true) (hs : vSz Bl) (hi : i < Bl.length) (hk : key.size = 32) (hno : nonce.size = 12)
    (hss : s.size ≤ 64) (hK : RoundsAt K w) (hT : TurnsAt w) :
    Calls Tryz.prog 13 #[v, .string key, .string nonce, .int .i64 i, .string s] w fun e w' => ∃ v', e = .returned (.tuple #[v', .int .i64 0]) ∧ VlIn w' v' (Bl.set i (hdV key nonce i s)) (rootV K (Bl.set i (hdV key nonce i s))) ∧ Below w.heap.size w w' :=
  (vwrite_at K hv hn hs hi hk hno hss hK hT).mono fun _ _ ⟨v', h1, h2, h3, _⟩ => ⟨v', h1, h2, h3⟩
set_option maxHeartbeats 1000000 in
set_option maxRecDepth 100000 in
theorem vwrite_no (K : Nat → Nat) {w : World} {v : Value} {Bl : List ByteArray} {key nonce s : ByteArray} {i : Int} (hv : VlIn w v Bl (rootV K Bl)) (hn : cntB Bl.length = true) (hs : vSz Bl)
    (hno : ¬(0 ≤ i ∧ i < (Bl.length : Int) ∧ s.size ≤ 64)) (hK : RoundsAt K w) :
    Calls Tryz.prog 13 #[v, .string key, .string nonce, .int .i64 i, .string s] w fun e w' => ∃ k : Int, k ≠ 0 ∧ e = .returned (.tuple #[.agg #[.slice none 0 0, .string ⟨#[]⟩], .int .i64 k]) ∧ Below w.heap.size w w' := by
  have hv0 := hv
  obtain ⟨A, c, rfl, hrd⟩ := hv
  have hn' : 1 ≤ Bl.length ∧ Bl.length ≤ 64 := by obtain ⟨m, hm, h⟩ := cntB_nat hn; omega
  obtain ⟨k1, k2, k3, hb3, hz3⟩ := alloc3v w 48 48 77 #[.slice A Bl.length c, .string (rootV K Bl)] #[.slice none 0 0, .string ⟨#[]⟩] #[.slice A Bl.length c, .string (rootV K Bl)] _ rfl
  have HX := KH.hid (And.intro hv0 (And.intro hs hK))
  have hg1 := hK.1
  clear hv0 hs hK hrd
  go_enter Tryz.func13, Tryz.ntmps13
  go_wp2_with fail
  generalize ((w.alloc (.cells #[.slice A Bl.length c, .string (rootV K Bl)] 48)).alloc (.cells #[.slice none 0 0, .string ⟨#[]⟩] 48)).alloc (.cells #[.slice A Bl.length c, .string (rootV K Bl)] 77) = W at *
  have hgg : w.heap.size < w.heap.size + 1 ∧ w.heap.size + 1 < w.heap.size + 1 + 1 ∧ w.heap.size + 1 + 1 < W.heap.size := by omega
  generalize w.heap.size + 1 + 1 = g3 at *
  generalize w.heap.size + 1 = g2 at *
  obtain ⟨hgg1, hgg2, hgg3⟩ := hgg
  have HH := KH.hid (vhas_any i k3)
  by_cases hin : 0 ≤ i ∧ i < (Bl.length : Int)
  · have hd1 : decide ((0 : Int) ≤ i ∧ i < (Bl.length : Int)) = true := by rw [decide_eq_true_iff]; exact hin
    unfold Hid at HH
    rw [hd1] at HH
    obtain ⟨m, rfl⟩ : ∃ m : Nat, i = m := ⟨i.toNat, by omega⟩
    have h64 : 64 < s.size := by
      refine Decidable.byContradiction fun h => hno ⟨hin.1, hin.2, by omega⟩
    refine HH.mono ?_; rintro e w1 ⟨rfl, rfl⟩
    have hv1 := HX.out.1.below hb3
    have HF := KH.hid (fit_yes K k3 hv1 hn HX.out.2.1 (rounds_below HX.out.2.2 hb3 hg1))
    clear HH hd1 hno
    go_wp2_with fail
    refine HF.out.mono ?_; rintro e w4 ⟨rfl, hb4⟩
    have j2 := k2.below hb4 k2.lt
    have hB4 := hb3.trans (hb4.mono hb3.size)
    have HN := KH.hid (hide_no key nonce s m w4 (by omega) h64)
    clear HF k1 k2 k3 hb3 hb4 hv1 h64 hin
    go_wp2_with fail
    refine HN.out.mono ?_; rintro e w5 ⟨rfl, hb5⟩
    have x2 := j2.below hb5 j2.lt
    have hB5 := hB4.trans (hb5.mono hB4.size)
    have f3 : w5.cell? ⟨g2, 0, none⟩ = some (.slice none 0 0) := x2.cell 0
    have f4 : w5.cell? ⟨g2, 1, none⟩ = some (.string ⟨#[]⟩) := x2.cell 1
    have f5 : w5.frozen? ⟨g2, 0, none⟩ = false := x2.frozen 0
    have f6 : w5.frozen? ⟨g2, 1, none⟩ = false := x2.frozen 1
    have HZ := KH.hid (And.intro x2 hB5)
    clear j2 x2 hB4 hB5 hb5
    go_wp2_with fail
    exact ret_volR (p := 10) (u := 11) HZ.out.1 rfl rfl rfl rfl ⟨2, by omega, rfl, (HZ.out.2.setCell (p := ⟨g2, 0, none⟩) (by show w.heap.size ≤ g2; omega) _).setCell (p := ⟨g2, 1, none⟩) (by show w.heap.size ≤ g2; omega) _⟩
  · have hd1 : decide ((0 : Int) ≤ i ∧ i < (Bl.length : Int)) = false := by rw [decide_eq_false_iff_not]; exact hin
    unfold Hid at HH
    rw [hd1] at HH
    refine HH.mono ?_; rintro e w1 ⟨rfl, rfl⟩
    have hv1 := HX.out.1.below hb3
    have HF := KH.hid (fit_no K k3 hv1 hn HX.out.2.1)
    clear HH hd1 hno
    go_wp2_with fail
    refine HF.out.mono ?_; rintro e w4 ⟨rfl, hb4⟩
    have j2 := k2.below hb4 k2.lt
    have hB4 := hb3.trans (hb4.mono hb3.size)
    have f3 : w4.cell? ⟨g2, 0, none⟩ = some (.slice none 0 0) := j2.cell 0
    have f4 : w4.cell? ⟨g2, 1, none⟩ = some (.string ⟨#[]⟩) := j2.cell 1
    have f5 : w4.frozen? ⟨g2, 0, none⟩ = false := j2.frozen 0
    have f6 : w4.frozen? ⟨g2, 1, none⟩ = false := j2.frozen 1
    have HZ := KH.hid (And.intro j2 hB4)
    clear HF k1 k2 k3 hb3 hb4 hv1 hin j2 hB4
    go_wp2_with fail
    exact ret_volR (p := 10) (u := 11) HZ.out.1 rfl rfl rfl rfl ⟨1, by omega, rfl, (HZ.out.2.setCell (p := ⟨g2, 0, none⟩) (by show w.heap.size ≤ g2; omega) _).setCell (p := ⟨g2, 1, none⟩) (by show w.heap.size ≤ g2; omega) _⟩
end Go.Proofs.YtlnilfcjcoclhaaGreatDoor
/- Package volume: Format. -/
namespace Go.Proofs.YtlnilfcjcoclhaaGreatDoor
open Go.RowKit

theorem vSz_none (n : Nat) : vSz (List.replicate n ⟨#[]⟩) := fun i => by
  rw [List.getD_eq_getElem?_getD, List.getElem?_replicate]
  split <;> exact Nat.zero_le _
theorem made_none (n : Nat) : (madeCells (Value.string ⟨#[]⟩).cells (n * 1)).toList = (List.replicate n (⟨#[]⟩ : ByteArray)).map .string := by
  rw [show (Value.string ⟨#[]⟩).cells = #[.string ⟨#[]⟩] from rfl, toList_madeCells_one, List.map_replicate, Nat.mul_one]
theorem rep_len (n : Nat) : (List.replicate n (⟨#[]⟩ : ByteArray)).length = n := List.length_replicate
set_option maxHeartbeats 1000000 in
set_option maxRecDepth 100000 in
theorem vformat_yes (K : Nat → Nat) {w : World} (n : Nat) (hn : cntB n = true) (hK : RoundsAt K w) :
    Calls Tryz.prog 20 #[.int .i64 n] w fun e w' => ∃ A c, e = .returned (.tuple #[.agg #[.slice A n c, .string (rootV K (List.replicate n ⟨#[]⟩))], .int .i64 0]) ∧ VlIn w' (.agg #[.slice A n c, .string (rootV K (List.replicate n ⟨#[]⟩))]) (List.replicate n ⟨#[]⟩) (rootV K (List.replicate n ⟨#[]⟩)) ∧ Below w.heap.size w w' := by
  obtain ⟨i0, hi, hz0, hz1, hz2⟩ := info_parts str_info
  have hn' : 1 ≤ n ∧ n ≤ 64 := by obtain ⟨m, hm, h⟩ := cntB_nat hn; omega
  have HI := KH.hid (isCount_any (n : Nat))
  rw [hn] at HI
  have hb1 := (Below.refl w.heap.size w).alloc (Nat.le_refl _) (.cells #[.slice none 0 0, .string ⟨#[]⟩] 48)
  have k1 := KH.Blk.new w 48 #[.slice none 0 0, .string ⟨#[]⟩]
  have hz1' : w.heap.size < (w.alloc (.cells #[.slice none 0 0, .string ⟨#[]⟩] 48)).heap.size := by simp
  have hg1 := hK.1
  have HK := KH.hid hK
  clear hK
  go_enter Tryz.func20, Tryz.ntmps20
  go_wp2_with fail
  generalize w.alloc (.cells #[.slice none 0 0, .string ⟨#[]⟩] 48) = w1 at *
  refine (HI.out w1).mono ?_; rintro e w2 ⟨rfl, rfl⟩
  go_wp2_with (at_make; refine wpList_make_full _ rfl _ _ 30 rfl w1.heap.size 9 i0 (.string ⟨#[]⟩) 1 Tryz.underlying30 hi hz0 hz1 .i64 .i64 _ _ n rfl rfl rfl rfl (by rw [hz2]; omega) (by unfold maxLen; omega) (Nat.le_refl _) ?_; intro w3 hown3 hg3)
  rw [made_none] at hown3
  have hb13 : Below w1.heap.size w1 w3 := (Below.refl _ _).grown hg3 (Nat.le_refl _) (fun _ h => by cases h)
  have k3 := k1.below hb13 k1.lt
  have hB3 := hb1.trans (hb13.mono (by omega))
  have kk := KH.Blk.new w3 77 #[.slice (some ⟨w1.heap.size, 0, none⟩) n n, .string ⟨#[]⟩]
  have kr := k3.alloc (.cells #[.slice (some ⟨w1.heap.size, 0, none⟩) n n, .string ⟨#[]⟩] 77)
  have hown4 := hown3.alloc (.cells #[.slice (some ⟨w1.heap.size, 0, none⟩) n n, .string ⟨#[]⟩] 77)
  have hB4 := hB3.alloc hB3.size (.cells #[.slice (some ⟨w1.heap.size, 0, none⟩) n n, .string ⟨#[]⟩] 77)
  have s3 := hb13.size
  have HR := KH.hid (vrooted_any K (base := w1.heap.size) kk (by omega) hown4 hn (vSz_none n) (rounds_below HK.out hB4 hg1))
  obtain ⟨rv, hrv⟩ : ∃ rv, rv = rootV K (List.replicate n ⟨#[]⟩) := ⟨_, rfl⟩
  rw [← hrv] at HR
  clear hown3 hown4 kk k1 k3 hb1 hb13 hB3 HI hg3
  go_wp2_with fail
  refine HR.out.mono ?_; rintro e w5 ⟨rfl, hv5, hb5⟩
  have k5 := kr.below hb5 (by omega)
  have hB5 := hB4.trans (hb5.mono (by omega))
  have f3 : w5.cell? ⟨w.heap.size, 0, none⟩ = some (.slice none 0 0) := k5.cell 0
  have f4 : w5.cell? ⟨w.heap.size, 1, none⟩ = some (.string ⟨#[]⟩) := k5.cell 1
  have f5 : w5.frozen? ⟨w.heap.size, 0, none⟩ = false := k5.frozen 0
  have f6 : w5.frozen? ⟨w.heap.size, 1, none⟩ = false := k5.frozen 1
  have nn : w.heap.size ≠ w1.heap.size := by omega
  have hv9 := ((hv5.setFar (p := ⟨w.heap.size, 0, none⟩) rfl nn (.slice (some ⟨w1.heap.size, 0, none⟩) n n)).setFar (p := ⟨w.heap.size, 1, none⟩) rfl nn (.string rv))
  have HZ := KH.hid (And.intro k5 (And.intro hB5 hv9))
  clear k5 hB5 hv9 hv5 hb5 kr HR hB4
  go_wp2_with fail
  subst hrv
  exact ret_volR (p := 2) (u := 3) HZ.out.1 rfl rfl rfl rfl ⟨_, _, rfl, HZ.out.2.2, (HZ.out.2.1.setCell (p := ⟨w.heap.size, 0, none⟩) (Nat.le_refl _) _).setCell (p := ⟨w.heap.size, 1, none⟩) (Nat.le_refl _) _⟩
set_option maxRecDepth 100000 in
theorem vformat_no {w : World} (n : Int) (hn : cntB n = false) :
    Calls Tryz.prog 20 #[.int .i64 n] w fun e w' => e = .returned (.tuple #[.agg #[.slice none 0 0, .string ⟨#[]⟩], .int .i64 1]) ∧ Below w.heap.size w w' := by
  have HI := KH.hid (isCount_any n)
  rw [hn] at HI
  have hb1 := (Below.refl w.heap.size w).alloc (Nat.le_refl _) (.cells #[.slice none 0 0, .string ⟨#[]⟩] 48)
  have k1 := KH.Blk.new w 48 #[.slice none 0 0, .string ⟨#[]⟩]
  go_enter Tryz.func20, Tryz.ntmps20
  go_wp2_with fail
  generalize w.alloc (.cells #[.slice none 0 0, .string ⟨#[]⟩] 48) = w1 at *
  refine (HI.out w1).mono ?_; rintro e w2 ⟨rfl, rfl⟩
  have f3 : w1.cell? ⟨w.heap.size, 0, none⟩ = some (.slice none 0 0) := k1.cell 0
  have f4 : w1.cell? ⟨w.heap.size, 1, none⟩ = some (.string ⟨#[]⟩) := k1.cell 1
  have f5 : w1.frozen? ⟨w.heap.size, 0, none⟩ = false := k1.frozen 0
  have f6 : w1.frozen? ⟨w.heap.size, 1, none⟩ = false := k1.frozen 1
  have HZ := KH.hid (And.intro k1 hb1)
  clear k1 hb1
  go_wp2_with fail
  exact ret_volR (p := 2) (u := 3) HZ.out.1 rfl rfl rfl rfl ⟨rfl, (HZ.out.2.setCell (p := ⟨w.heap.size, 0, none⟩) (Nat.le_refl _) _).setCell (p := ⟨w.heap.size, 1, none⟩) (Nat.le_refl _) _⟩
end Go.Proofs.YtlnilfcjcoclhaaGreatDoor
