import Derived.Test.YtlnilfcjcoclhaaGreatDoorWo
/- Package stream: mix, Turn. -/
namespace Go.Proofs.YtlnilfcjcoclhaaGreatDoor
open Go.RowKit

theorem xor_w {x y : Nat} (hx : x < 4294967296) (hy : y < 4294967296) : x ^^^ y < 4294967296 := Nat.xor_lt_two_pow (n := 32) hx hy
def mixC (a b c n : Nat) : Nat := rotV (c ^^^ adV [a, b]) n
theorem mixC_lt {a b c n : Nat} (hc : c < 4294967296) : mixC a b c n < 4294967296 := rotV_lt _ _ (xor_w hc (adV_lt _))
theorem lits_reads (w : World) (L : List Nat) (t : TypeId) : KH.Reads (w.alloc (.cells ((zi L).map (Value.int .i64)).toArray t)) (w.heap.size + 1) 1 (some ⟨w.heap.size, 0, none⟩) L.length ((zi L).map (.int .i64)) := by
  have := reads_lit w (zi L) t w.heap.size rfl
  rwa [zi_length] at this
set_option maxRecDepth 100000 in
theorem mix_any (a b c n : Nat) (w : World) (ha : a < 4294967296) (hb : b < 4294967296) (hc : c < 4294967296) (h1 : 1 ≤ n) (hn : n < 32) :
    Calls Tryz.prog 126 #[.int .i64 a, .int .i64 b, .int .i64 c, .int .i64 n] w fun e w' => e = .returned (.tuple #[.int .i64 (adV [a, b] : Nat), .int .i64 (mixC a b c n : Nat)]) ∧ Below w.heap.size w w' := by
  have hr : KH.Reads (w.alloc (.cells #[.int .i64 a, .int .i64 b] 3)) (w.heap.size + 1) 1 (some ⟨w.heap.size, 0, none⟩) 2 ((zi [a, b]).map (.int .i64)) := lits_reads w [a, b] 3
  have hb1 := (Below.refl w.heap.size w).alloc (Nat.le_refl _) (.cells #[.int .i64 a, .int .i64 b] 3)
  have hL : ∀ x ∈ [a, b], x < 4294967296 := by intro x hx; simp at hx; rcases hx with rfl | rfl <;> assumption
  have hlt := adV_lt [a, b]
  have HM : Hid (mixC a b c n = rotV (c ^^^ adV [a, b]) n) := rfl
  have hx := xor_w hc hlt
  go_enter Tryz.func126, Tryz.ntmps126
  go_wp2_with fail
  generalize w.alloc (.cells #[.int .i64 a, .int .i64 b] 3) = w1 at *
  refine (wadd_yes 2 hr hL (by unfold maxLen; omega)).mono ?_; rintro e w2 ⟨rfl, rfl⟩
  obtain ⟨s, hs⟩ : ∃ s, s = adV [a, b] := ⟨_, rfl⟩
  rw [← hs] at HM hlt hx ⊢
  have HS := KH.hid hs
  clear hs
  go_wp2_with fail
  refine (wxor_yes c s _ hc hlt).mono ?_; rintro e w3 ⟨rfl, hb3⟩
  generalize c ^^^ s = x at *
  go_wp2_with fail
  refine (wrot_yes x n _ hx h1 hn).mono ?_; rintro e w4 ⟨rfl, hb4⟩
  rw [← HM.out]
  go_wp2_with fail
  go_ret2
  rw [← HS.out]
  exact ⟨rfl, hb1.trans ((hb3.trans (hb4.mono hb3.size)).mono hb1.size)⟩
/-- four words, turned -/
def turnV (a b c d : Nat) : Nat × Nat × Nat × Nat :=
  let a1 := adV [a, b]; let d1 := mixC a b d 16; let c1 := adV [c, d1]; let b1 := mixC c d1 b 12
  let a2 := adV [a1, b1]; let d2 := mixC a1 b1 d1 8; let c2 := adV [c1, d2]; let b2 := mixC c1 d2 b1 7
  (a2, b2, c2, d2)
theorem turnV_lt {a b c d : Nat} (hb : b < 4294967296) (hd : d < 4294967296) : (turnV a b c d).1 < 4294967296 ∧ (turnV a b c d).2.1 < 4294967296 ∧ (turnV a b c d).2.2.1 < 4294967296 ∧ (turnV a b c d).2.2.2 < 4294967296 :=
  ⟨adV_lt _, mixC_lt (mixC_lt hb), adV_lt _, mixC_lt (mixC_lt hd)⟩
theorem turnV_eq (a b c d : Nat) : turnV a b c d = (adV [adV [a, b], mixC c (mixC a b d 16) b 12], mixC (adV [c, mixC a b d 16]) (mixC (adV [a, b]) (mixC c (mixC a b d 16) b 12) (mixC a b d 16) 8) (mixC c (mixC a b d 16) b 12) 7,
    adV [adV [c, mixC a b d 16], mixC (adV [a, b]) (mixC c (mixC a b d 16) b 12) (mixC a b d 16) 8], mixC (adV [a, b]) (mixC c (mixC a b d 16) b 12) (mixC a b d 16) 8) := rfl
set_option maxRecDepth 100000 in
theorem turn_any (a b c d : Nat) (w : World) (ha : a < 4294967296) (hb : b < 4294967296) (hc : c < 4294967296) (hd : d < 4294967296) :
    Calls Tryz.prog 107 #[.int .i64 a, .int .i64 b, .int .i64 c, .int .i64 d] w fun e w' =>
      e = .returned (.tuple #[.int .i64 ((turnV a b c d).1 : Nat), .int .i64 ((turnV a b c d).2.1 : Nat), .int .i64 ((turnV a b c d).2.2.1 : Nat), .int .i64 ((turnV a b c d).2.2.2 : Nat), .bool true]) ∧ Below w.heap.size w w' := by
  have hr : KH.Reads (w.alloc (.cells #[.int .i64 a, .int .i64 b, .int .i64 c, .int .i64 d] 3)) (w.heap.size + 1) 1 (some ⟨w.heap.size, 0, none⟩) 4 ((zi [a, b, c, d]).map (.int .i64)) := lits_reads w [a, b, c, d] 3
  have hb1 := (Below.refl w.heap.size w).alloc (Nat.le_refl _) (.cells #[.int .i64 a, .int .i64 b, .int .i64 c, .int .i64 d] 3)
  have hL : ∀ x ∈ [a, b, c, d], x < 4294967296 := by intro x hx; simp at hx; rcases hx with rfl | rfl | rfl | rfl <;> assumption
  have HT := KH.hid (turnV_eq a b c d)
  go_enter Tryz.func107, Tryz.ntmps107
  go_wp2_with fail
  generalize w.alloc (.cells #[.int .i64 a, .int .i64 b, .int .i64 c, .int .i64 d] 3) = w1 at *
  refine (is_yes 4 hr hL (by unfold maxLen; omega)).mono ?_; rintro e w2 ⟨rfl, rfl⟩
  clear hr hL
  go_wp2_with fail
  refine (mix_any a b d 16 _ ha hb hd (by omega) (by omega)).mono ?_; rintro e w3 ⟨rfl, hb3⟩
  have h1 := adV_lt [a, b]
  have h2 := mixC_lt (a := a) (b := b) (n := 16) hd
  generalize adV [a, b] = a1 at *
  generalize mixC a b d 16 = d1 at *
  go_wp2_with fail
  refine (mix_any c d1 b 12 _ hc h2 hb (by omega) (by omega)).mono ?_; rintro e w4 ⟨rfl, hb4⟩
  have h3 := adV_lt [c, d1]
  have h4 := mixC_lt (a := c) (b := d1) (n := 12) hb
  generalize adV [c, d1] = c1 at *
  generalize mixC c d1 b 12 = b2 at *
  go_wp2_with fail
  refine (mix_any a1 b2 d1 8 _ h1 h4 h2 (by omega) (by omega)).mono ?_; rintro e w5 ⟨rfl, hb5⟩
  have h5 := mixC_lt (a := a1) (b := b2) (n := 8) h2
  generalize adV [a1, b2] = a2 at *
  generalize mixC a1 b2 d1 8 = d2 at *
  go_wp2_with fail
  refine (mix_any c1 d2 b2 7 _ h3 h5 h4 (by omega) (by omega)).mono ?_; rintro e w6 ⟨rfl, hb6⟩
  generalize adV [c1, d2] = c2 at *
  generalize mixC c1 d2 b2 7 = b3 at *
  have hB : Below w1.heap.size w1 w6 := hb3.trans ((hb4.trans ((hb5.trans (hb6.mono hb5.size)).mono hb4.size)).mono hb3.size)
  go_wp2_with fail
  refine bodyPost_ret (v := .tuple #[.int .i64 a2, .int .i64 b3, .int .i64 c2, .int .i64 d2, .bool true]) (by simp [results, Tryz.results107, go_sem]) rfl ⟨?_, hb1.trans (hB.mono hb1.size)⟩
  rw [HT.out]
end Go.Proofs.YtlnilfcjcoclhaaGreatDoor
/- Package stream: the state at the start. -/
namespace Go.Proofs.YtlnilfcjcoclhaaGreatDoor
open Go.RowKit

theorem z16 : (#[.int .i64 0, .int .i64 0, .int .i64 0, .int .i64 0, .int .i64 0, .int .i64 0, .int .i64 0, .int .i64 0, .int .i64 0, .int .i64 0, .int .i64 0, .int .i64 0, .int .i64 0, .int .i64 0, .int .i64 0, .int .i64 0] : Array Value) = (bzW 16 fun _ => 0).toArray := by kernel_rfl
theorem results_cell2 {P : Program} {fn : Func} {a b : Nat} {t : TypeId} {v u : Value} {tmps : Array Value} {w : World} {p : Addr} (h : fn.results = #[.cell a t, .tmp b]) (ha : tmps.getD a undef = .pointer (some p)) (hb : tmps.getD b undef = u) (hl : (loadVar t p).run P w = .ok v w) :
    (results fn tmps).run P w = .ok (.tuple #[v, u]) w := by
  subst hb
  unfold results
  rw [h]
  rw [Array.getD_eq_getD_getElem?] at ha
  simp [ha, asAddr, hl, Result.andThen]
theorem bzW_splice_at (F G : Nat → Nat) (n m o : Nat) (h : o + m ≤ n) : splice (bzW n F) o (bzW m G) = bzW n fun j => if o ≤ j ∧ j < o + m then G (j - o) else F j := by
  have h1 := bzW_length n F
  have h2 := bzW_length m G
  refine List.ext_getElem? fun i => ?_
  unfold splice
  rw [h2, List.getElem?_append, List.length_take, h1, Nat.min_eq_left (by omega), List.getElem?_append, h2, List.getElem?_drop]
  by_cases hi : i < n
  · rw [bzW_get _ hi]
    by_cases h3 : i < o
    · rw [if_pos h3, List.getElem?_take_of_lt h3, bzW_get _ hi, if_neg (by omega)]
    · rw [if_neg h3]
      by_cases h4 : i < o + m
      · rw [if_pos (by omega), bzW_get _ (by omega), if_pos (by omega)]
      · rw [if_neg (by omega), show o + m + (i - o - m) = i by omega, bzW_get _ hi, if_neg (by omega)]
  · rw [if_neg (by omega), if_neg (by omega), List.getElem?_eq_none (by omega), List.getElem?_eq_none (by rw [bzW_length]; omega)]
/-- sixteen words -/
def S16 (F : Nat → Nat) : Array Value := #[.int .i64 (F 0 : Nat), .int .i64 (F 1 : Nat), .int .i64 (F 2 : Nat), .int .i64 (F 3 : Nat), .int .i64 (F 4 : Nat), .int .i64 (F 5 : Nat), .int .i64 (F 6 : Nat), .int .i64 (F 7 : Nat), .int .i64 (F 8 : Nat), .int .i64 (F 9 : Nat), .int .i64 (F 10 : Nat), .int .i64 (F 11 : Nat), .int .i64 (F 12 : Nat), .int .i64 (F 13 : Nat), .int .i64 (F 14 : Nat), .int .i64 (F 15 : Nat)]
theorem S16_eq (F : Nat → Nat) : (bzW 16 F).toArray = S16 F := by kernel_rfl
/-- the state at the start -/
def frC (j : Nat) : Nat := if j = 0 then 1634760805 else if j = 1 then 857760878 else if j = 2 then 2036477234 else if j = 3 then 1797285236 else 0
def frV (key nonce : ByteArray) (n j : Nat) : Nat :=
  if 13 ≤ j ∧ j < 13 + 3 then ctF false nonce (j - 13) nonce.size else if j = 12 then n else if 4 ≤ j ∧ j < 4 + 8 then ctF false key (j - 4) key.size else frC j
theorem frV_lt {key nonce : ByteArray} {n : Nat} (hn : n < 4294967296) (j : Nat) : frV key nonce n j < 4294967296 := by
  unfold frV
  split
  · exact ctF_lt _ _ _ _
  · split
    · exact hn
    · split
      · exact ctF_lt _ _ _ _
      · unfold frC; repeat' split
        all_goals omega
theorem fr16 : (#[.int .i64 1634760805, .int .i64 857760878, .int .i64 2036477234, .int .i64 1797285236, .int .i64 0, .int .i64 0, .int .i64 0, .int .i64 0, .int .i64 0, .int .i64 0, .int .i64 0, .int .i64 0, .int .i64 0, .int .i64 0, .int .i64 0, .int .i64 0] : Array Value) = (bzW 16 frC).toArray := by kernel_rfl
theorem info16 : (Tryz.prog.info? 153).map (·.size) = some 16 := by kernel_rfl
theorem blk16 {w : World} {g : Nat} {t : TypeId} {F : Nat → Nat} (hk : KH.Blk w g t (bzW 16 F).toArray) : w.cell? ⟨g, 0, none⟩ = some (.int .i64 (F 0 : Nat)) ∧ w.cell? ⟨g, 1, none⟩ = some (.int .i64 (F 1 : Nat)) ∧ w.cell? ⟨g, 2, none⟩ = some (.int .i64 (F 2 : Nat)) ∧ w.cell? ⟨g, 3, none⟩ = some (.int .i64 (F 3 : Nat)) ∧ w.cell? ⟨g, 4, none⟩ = some (.int .i64 (F 4 : Nat)) ∧ w.cell? ⟨g, 5, none⟩ = some (.int .i64 (F 5 : Nat)) ∧ w.cell? ⟨g, 6, none⟩ = some (.int .i64 (F 6 : Nat)) ∧ w.cell? ⟨g, 7, none⟩ = some (.int .i64 (F 7 : Nat)) ∧ w.cell? ⟨g, 8, none⟩ = some (.int .i64 (F 8 : Nat)) ∧ w.cell? ⟨g, 9, none⟩ = some (.int .i64 (F 9 : Nat)) ∧ w.cell? ⟨g, 10, none⟩ = some (.int .i64 (F 10 : Nat)) ∧ w.cell? ⟨g, 11, none⟩ = some (.int .i64 (F 11 : Nat)) ∧ w.cell? ⟨g, 12, none⟩ = some (.int .i64 (F 12 : Nat)) ∧ w.cell? ⟨g, 13, none⟩ = some (.int .i64 (F 13 : Nat)) ∧ w.cell? ⟨g, 14, none⟩ = some (.int .i64 (F 14 : Nat)) ∧ w.cell? ⟨g, 15, none⟩ = some (.int .i64 (F 15 : Nat)) := by
  rw [S16_eq] at hk
  exact ⟨hk.cell 0, hk.cell 1, hk.cell 2, hk.cell 3, hk.cell 4, hk.cell 5, hk.cell 6, hk.cell 7, hk.cell 8, hk.cell 9, hk.cell 10, hk.cell 11, hk.cell 12, hk.cell 13, hk.cell 14, hk.cell 15⟩
theorem frz16 {w : World} {g : Nat} {t : TypeId} {cs : Array Value} (hk : KH.Blk w g t cs) : w.frozen? ⟨g, 0, none⟩ = false ∧ w.frozen? ⟨g, 1, none⟩ = false ∧ w.frozen? ⟨g, 2, none⟩ = false ∧ w.frozen? ⟨g, 3, none⟩ = false ∧ w.frozen? ⟨g, 4, none⟩ = false ∧ w.frozen? ⟨g, 5, none⟩ = false ∧ w.frozen? ⟨g, 6, none⟩ = false ∧ w.frozen? ⟨g, 7, none⟩ = false ∧ w.frozen? ⟨g, 8, none⟩ = false ∧ w.frozen? ⟨g, 9, none⟩ = false ∧ w.frozen? ⟨g, 10, none⟩ = false ∧ w.frozen? ⟨g, 11, none⟩ = false ∧ w.frozen? ⟨g, 12, none⟩ = false ∧ w.frozen? ⟨g, 13, none⟩ = false ∧ w.frozen? ⟨g, 14, none⟩ = false ∧ w.frozen? ⟨g, 15, none⟩ = false := ⟨hk.frozen 0, hk.frozen 1, hk.frozen 2, hk.frozen 3, hk.frozen 4, hk.frozen 5, hk.frozen 6, hk.frozen 7, hk.frozen 8, hk.frozen 9, hk.frozen 10, hk.frozen 11, hk.frozen 12, hk.frozen 13, hk.frozen 14, hk.frozen 15⟩
theorem set16 {w : World} {h : Nat} {t : TypeId} {F0 F : Nat → Nat} (hk : KH.Blk w h t (bzW 16 F0).toArray) : KH.Blk ((((((((((((((((w.setCell ⟨h, 0, none⟩ (.int .i64 (F 0 : Nat))).setCell ⟨h, 1, none⟩ (.int .i64 (F 1 : Nat))).setCell ⟨h, 2, none⟩ (.int .i64 (F 2 : Nat))).setCell ⟨h, 3, none⟩ (.int .i64 (F 3 : Nat))).setCell ⟨h, 4, none⟩ (.int .i64 (F 4 : Nat))).setCell ⟨h, 5, none⟩ (.int .i64 (F 5 : Nat))).setCell ⟨h, 6, none⟩ (.int .i64 (F 6 : Nat))).setCell ⟨h, 7, none⟩ (.int .i64 (F 7 : Nat))).setCell ⟨h, 8, none⟩ (.int .i64 (F 8 : Nat))).setCell ⟨h, 9, none⟩ (.int .i64 (F 9 : Nat))).setCell ⟨h, 10, none⟩ (.int .i64 (F 10 : Nat))).setCell ⟨h, 11, none⟩ (.int .i64 (F 11 : Nat))).setCell ⟨h, 12, none⟩ (.int .i64 (F 12 : Nat))).setCell ⟨h, 13, none⟩ (.int .i64 (F 13 : Nat))).setCell ⟨h, 14, none⟩ (.int .i64 (F 14 : Nat))).setCell ⟨h, 15, none⟩ (.int .i64 (F 15 : Nat))) h t (S16 F) := by
  rw [S16_eq] at hk
  have h8 := ((((((((((((((((hk.set_ 0 (.int .i64 (F 0 : Nat))).set_ 1 (.int .i64 (F 1 : Nat))).set_ 2 (.int .i64 (F 2 : Nat))).set_ 3 (.int .i64 (F 3 : Nat))).set_ 4 (.int .i64 (F 4 : Nat))).set_ 5 (.int .i64 (F 5 : Nat))).set_ 6 (.int .i64 (F 6 : Nat))).set_ 7 (.int .i64 (F 7 : Nat))).set_ 8 (.int .i64 (F 8 : Nat))).set_ 9 (.int .i64 (F 9 : Nat))).set_ 10 (.int .i64 (F 10 : Nat))).set_ 11 (.int .i64 (F 11 : Nat))).set_ 12 (.int .i64 (F 12 : Nat))).set_ 13 (.int .i64 (F 13 : Nat))).set_ 14 (.int .i64 (F 14 : Nat))).set_ 15 (.int .i64 (F 15 : Nat)))
  simp only [S16, List.setIfInBounds_toArray, List.set_cons_zero, List.set_cons_succ] at h8
  exact h8
theorem below16 {w0 w : World} {h B : Nat} {F : Nat → Nat} (hB : Below B w0 w) (hh : B ≤ h) : Below B w0 ((((((((((((((((w.setCell ⟨h, 0, none⟩ (.int .i64 (F 0 : Nat))).setCell ⟨h, 1, none⟩ (.int .i64 (F 1 : Nat))).setCell ⟨h, 2, none⟩ (.int .i64 (F 2 : Nat))).setCell ⟨h, 3, none⟩ (.int .i64 (F 3 : Nat))).setCell ⟨h, 4, none⟩ (.int .i64 (F 4 : Nat))).setCell ⟨h, 5, none⟩ (.int .i64 (F 5 : Nat))).setCell ⟨h, 6, none⟩ (.int .i64 (F 6 : Nat))).setCell ⟨h, 7, none⟩ (.int .i64 (F 7 : Nat))).setCell ⟨h, 8, none⟩ (.int .i64 (F 8 : Nat))).setCell ⟨h, 9, none⟩ (.int .i64 (F 9 : Nat))).setCell ⟨h, 10, none⟩ (.int .i64 (F 10 : Nat))).setCell ⟨h, 11, none⟩ (.int .i64 (F 11 : Nat))).setCell ⟨h, 12, none⟩ (.int .i64 (F 12 : Nat))).setCell ⟨h, 13, none⟩ (.int .i64 (F 13 : Nat))).setCell ⟨h, 14, none⟩ (.int .i64 (F 14 : Nat))).setCell ⟨h, 15, none⟩ (.int .i64 (F 15 : Nat))) := ((((((((((((((((hB.setCell (p := ⟨h, 0, none⟩) hh (.int .i64 (F 0 : Nat))).setCell (p := ⟨h, 1, none⟩) hh (.int .i64 (F 1 : Nat))).setCell (p := ⟨h, 2, none⟩) hh (.int .i64 (F 2 : Nat))).setCell (p := ⟨h, 3, none⟩) hh (.int .i64 (F 3 : Nat))).setCell (p := ⟨h, 4, none⟩) hh (.int .i64 (F 4 : Nat))).setCell (p := ⟨h, 5, none⟩) hh (.int .i64 (F 5 : Nat))).setCell (p := ⟨h, 6, none⟩) hh (.int .i64 (F 6 : Nat))).setCell (p := ⟨h, 7, none⟩) hh (.int .i64 (F 7 : Nat))).setCell (p := ⟨h, 8, none⟩) hh (.int .i64 (F 8 : Nat))).setCell (p := ⟨h, 9, none⟩) hh (.int .i64 (F 9 : Nat))).setCell (p := ⟨h, 10, none⟩) hh (.int .i64 (F 10 : Nat))).setCell (p := ⟨h, 11, none⟩) hh (.int .i64 (F 11 : Nat))).setCell (p := ⟨h, 12, none⟩) hh (.int .i64 (F 12 : Nat))).setCell (p := ⟨h, 13, none⟩) hh (.int .i64 (F 13 : Nat))).setCell (p := ⟨h, 14, none⟩) hh (.int .i64 (F 14 : Nat))).setCell (p := ⟨h, 15, none⟩) hh (.int .i64 (F 15 : Nat)))
theorem ret_first {w w0 : World} {h : Nat} {F : Nat → Nat} {a : Act} (hk : KH.Blk w h 153 (bzW 16 fun _ => 0).toArray) (hh : w0.heap.size ≤ h) (hB : Below w0.heap.size w0 w)
    (h6 : a.tmps.getD 6 undef = .pointer (some ⟨h, 0, none⟩)) (h7 : a.tmps.getD 7 undef = .bool true) (hd : a.defers = []) :
    bodyPost Tryz.prog Tryz.f95 (fun e w' => e = .returned (.tuple #[.agg (S16 F), .bool true]) ∧ Below w0.heap.size w0 w') .ret a ((((((((((((((((w.setCell ⟨h, 0, none⟩ (.int .i64 (F 0 : Nat))).setCell ⟨h, 1, none⟩ (.int .i64 (F 1 : Nat))).setCell ⟨h, 2, none⟩ (.int .i64 (F 2 : Nat))).setCell ⟨h, 3, none⟩ (.int .i64 (F 3 : Nat))).setCell ⟨h, 4, none⟩ (.int .i64 (F 4 : Nat))).setCell ⟨h, 5, none⟩ (.int .i64 (F 5 : Nat))).setCell ⟨h, 6, none⟩ (.int .i64 (F 6 : Nat))).setCell ⟨h, 7, none⟩ (.int .i64 (F 7 : Nat))).setCell ⟨h, 8, none⟩ (.int .i64 (F 8 : Nat))).setCell ⟨h, 9, none⟩ (.int .i64 (F 9 : Nat))).setCell ⟨h, 10, none⟩ (.int .i64 (F 10 : Nat))).setCell ⟨h, 11, none⟩ (.int .i64 (F 11 : Nat))).setCell ⟨h, 12, none⟩ (.int .i64 (F 12 : Nat))).setCell ⟨h, 13, none⟩ (.int .i64 (F 13 : Nat))).setCell ⟨h, 14, none⟩ (.int .i64 (F 14 : Nat))).setCell ⟨h, 15, none⟩ (.int .i64 (F 15 : Nat))) := by
  have k := set16 (F := F) hk
  have b := below16 (F := F) hB hh
  generalize ((((((((((((((((w.setCell ⟨h, 0, none⟩ (.int .i64 (F 0 : Nat))).setCell ⟨h, 1, none⟩ (.int .i64 (F 1 : Nat))).setCell ⟨h, 2, none⟩ (.int .i64 (F 2 : Nat))).setCell ⟨h, 3, none⟩ (.int .i64 (F 3 : Nat))).setCell ⟨h, 4, none⟩ (.int .i64 (F 4 : Nat))).setCell ⟨h, 5, none⟩ (.int .i64 (F 5 : Nat))).setCell ⟨h, 6, none⟩ (.int .i64 (F 6 : Nat))).setCell ⟨h, 7, none⟩ (.int .i64 (F 7 : Nat))).setCell ⟨h, 8, none⟩ (.int .i64 (F 8 : Nat))).setCell ⟨h, 9, none⟩ (.int .i64 (F 9 : Nat))).setCell ⟨h, 10, none⟩ (.int .i64 (F 10 : Nat))).setCell ⟨h, 11, none⟩ (.int .i64 (F 11 : Nat))).setCell ⟨h, 12, none⟩ (.int .i64 (F 12 : Nat))).setCell ⟨h, 13, none⟩ (.int .i64 (F 13 : Nat))).setCell ⟨h, 14, none⟩ (.int .i64 (F 14 : Nat))).setCell ⟨h, 15, none⟩ (.int .i64 (F 15 : Nat))) = W at *
  have c0 : W.cell? ⟨h, 0, none⟩ = some (.int .i64 (F 0 : Nat)) := k.cell 0
  have c1 : W.cell? ⟨h, 1, none⟩ = some (.int .i64 (F 1 : Nat)) := k.cell 1
  have c2 : W.cell? ⟨h, 2, none⟩ = some (.int .i64 (F 2 : Nat)) := k.cell 2
  have c3 : W.cell? ⟨h, 3, none⟩ = some (.int .i64 (F 3 : Nat)) := k.cell 3
  have c4 : W.cell? ⟨h, 4, none⟩ = some (.int .i64 (F 4 : Nat)) := k.cell 4
  have c5 : W.cell? ⟨h, 5, none⟩ = some (.int .i64 (F 5 : Nat)) := k.cell 5
  have c6 : W.cell? ⟨h, 6, none⟩ = some (.int .i64 (F 6 : Nat)) := k.cell 6
  have c7 : W.cell? ⟨h, 7, none⟩ = some (.int .i64 (F 7 : Nat)) := k.cell 7
  have c8 : W.cell? ⟨h, 8, none⟩ = some (.int .i64 (F 8 : Nat)) := k.cell 8
  have c9 : W.cell? ⟨h, 9, none⟩ = some (.int .i64 (F 9 : Nat)) := k.cell 9
  have c10 : W.cell? ⟨h, 10, none⟩ = some (.int .i64 (F 10 : Nat)) := k.cell 10
  have c11 : W.cell? ⟨h, 11, none⟩ = some (.int .i64 (F 11 : Nat)) := k.cell 11
  have c12 : W.cell? ⟨h, 12, none⟩ = some (.int .i64 (F 12 : Nat)) := k.cell 12
  have c13 : W.cell? ⟨h, 13, none⟩ = some (.int .i64 (F 13 : Nat)) := k.cell 13
  have c14 : W.cell? ⟨h, 14, none⟩ = some (.int .i64 (F 14 : Nat)) := k.cell 14
  have c15 : W.cell? ⟨h, 15, none⟩ = some (.int .i64 (F 15 : Nat)) := k.cell 15
  rw [Array.getD_eq_getD_getElem?] at h6 h7
  refine bodyPost_ret (v := .tuple #[.agg (S16 F), .bool true]) (by simp [results, Tryz.results95, h6, h7, go_sem, S16, c0, c1, c2, c3, c4, c5, c6, c7, c8, c9, c10, c11, c12, c13, c14, c15]) hd ⟨rfl, b⟩
theorem own_srcW {w : World} {base g n : Nat} {F : Nat → Nat} (ho : w.ownsRow base 3 1 (.slice (some ⟨g, 0, none⟩) n n) n (bzW n F)) : ∀ j v, (bzW n F)[j]? = some v → w.cell? ((⟨g, 0, none⟩ : Addr).add j) = some v := fun j v hv => by
  have hj : j < n := by
    rcases Nat.lt_or_ge j n with h | h
    · exact h
    · rw [List.getElem?_eq_none (by rw [bzW_length]; exact h)] at hv; cases hv
  rw [addr_at, ho.cellAt j (by omega)]; exact hv
set_option maxHeartbeats 1000000 in
set_option maxRecDepth 100000 in
theorem first_yes (key nonce : ByteArray) (n : Nat) (w : World) (hk : key.size = 32) (hn : nonce.size = 12) (h32 : n < 4294967296) :
    Calls Tryz.prog 95 #[.string key, .string nonce, .int .i64 n] w fun e w' => e = .returned (.tuple #[.agg (S16 (frV key nonce n)), .bool true]) ∧ Below w.heap.size w w' := by
  have e1 : ((key.size : Int) != 32) = false := by rw [hk]; rfl
  have e2 : ((nonce.size : Int) != 12) = false := by rw [hn]; rfl
  have hk9 : key.size ≤ 1000 := by omega
  have hn9 : nonce.size ≤ 1000 := by omega
  have HK := KH.hid (And.intro hk hn)
  clear hk hn
  go_enter Tryz.func95, Tryz.ntmps95
  go_wp2_with fail
  rw [z16]
  have hr : KH.Reads ((w.alloc (.cells (bzW 16 fun _ => 0).toArray 153)).alloc (.cells #[.int .i64 n] 3)) ((w.alloc (.cells (bzW 16 fun _ => 0).toArray 153)).heap.size + 1) 1 (some ⟨(w.alloc (.cells (bzW 16 fun _ => 0).toArray 153)).heap.size, 0, none⟩) 1 ((zi [n]).map (.int .i64)) := lits_reads _ [n] 3
  rw [World.size_alloc] at hr
  have h0 := (KH.Blk.new w 153 (bzW 16 fun _ => 0).toArray).alloc (.cells #[.int .i64 n] 3)
  have hb0 := ((Below.refl w.heap.size w).alloc (Nat.le_refl _) (.cells (bzW 16 fun _ => 0).toArray 153)).alloc (by simp) (.cells #[.int .i64 n] 3)
  generalize ((w.alloc (.cells (bzW 16 fun _ => 0).toArray 153)).alloc (.cells #[.int .i64 n] 3)) = w1 at *
  refine (is_yes 1 hr (by intro x hx; simp at hx; omega) (by unfold maxLen; omega)).mono ?_; rintro e w2 ⟨rfl, rfl⟩
  clear hr
  go_wp2_with fail
  rw [fr16]
  have g0 := h0.alloc (.cells (bzW 16 frC).toArray 153)
  have g1 := KH.Blk.new w1 153 (bzW 16 frC).toArray
  have hb1 := hb0.alloc hb0.size (.cells (bzW 16 frC).toArray 153)
  have hne : w.heap.size < w1.heap.size := h0.lt
  obtain ⟨g, hg⟩ : ∃ g, g = w1.heap.size := ⟨_, rfl⟩
  rw [← hg] at g1 hne ⊢
  generalize w1.alloc (.cells (bzW 16 frC).toArray 153) = w2 at *
  clear hg h0 hb0
  refine (cut_no key w2 8 (by have := HK.out.1; omega) (by omega)).mono ?_; rintro e w3 ⟨rfl, ho3, hb3⟩
  have hs3 := hb3.size
  have k0 := g0.below hb3 g0.lt
  have k1 := g1.below hb3 g1.lt
  have hB3 := hb1.trans (hb3.mono hb1.size)
  have HCS := KH.hid (own_srcW ho3)
  have HSPL := KH.hid (bzW_splice_at frC (fun q => ctF false key q key.size) 16 8 4 (by omega))
  have hg2 := g1.lt
  clear g0 g1 hb1 hb3 ho3
  go_wp2_with ((with_reducible show wpList _ _ _ (⟨some 36, _, _, _, _, _⟩ :: _) _ _); refine wpList_copy_splice rfl (.tmp 34) (.tmp 35) 29 29 rfl 3 Tryz.underlying29 int_size _ _ 8 _ 8 _ rfl rfl g 4 (bzW 16 frC) 153 k1 (bzW 8 fun q => ctF false key q key.size) (by rw [bzW_length]; rfl) (fun _ => ⟨rfl, _, rfl, HCS.out⟩) (by rw [bzW_length, bzW_length]; omega) bzW_one g w3 (Below.refl _ _) (Nat.le_refl _) ?_; intro w4 hg4 hb4; have hk4 : KH.Blk w4 g 153 _ := hg4.out; rw [HSPL.out] at hk4; have c12 : w4.cell? ⟨g, 12, none⟩ = some (.int .i64 (frC 12 : Nat)) := (hk4.cell 12).trans ((List.getElem?_toArray).trans (bzW_get _ (by omega))); have z12 : w4.frozen? ⟨g, 12, none⟩ = false := hk4.frozen 12)
  have k5 := hk4.set_ 12 (.int .i64 (n : Nat))
  rw [List.setIfInBounds_toArray, bzW_set] at k5
  have k05 := (k0.below hb4 hne).far (p := ⟨g, 12, none⟩) (by show w.heap.size ≠ g; omega) (.int .i64 (n : Nat))
  have hB5 := (hB3.trans (hb4.mono (show w.heap.size ≤ g by omega))).setCell (p := ⟨g, 12, none⟩) (show w.heap.size ≤ g by omega) (.int .i64 (n : Nat))
  clear hk4 hg4 c12 z12 k0 k1 hb4 HCS HSPL hB3
  generalize w4.setCell ⟨g, 12, none⟩ (.int .i64 (n : Nat)) = w5 at *
  refine (cut_no nonce w5 3 (by have := HK.out.2; omega) (by omega)).mono ?_; rintro e w6 ⟨rfl, ho6, hb6⟩
  have m0 := k05.below hb6 k05.lt
  have m1 := k5.below hb6 k5.lt
  have hB6 := hB5.trans (hb6.mono hB5.size)
  have HCS := KH.hid (own_srcW ho6)
  have HSPL := KH.hid (bzW_splice_at (fun p => if p = 12 then n else if 4 ≤ p ∧ p < 4 + 8 then ctF false key (p - 4) key.size else frC p) (fun q => ctF false nonce q nonce.size) 16 3 13 (by omega))
  have HV : Hid ((fun j => if 13 ≤ j ∧ j < 13 + 3 then ctF false nonce (j - 13) nonce.size else if j = 12 then n else if 4 ≤ j ∧ j < 4 + 8 then ctF false key (j - 4) key.size else frC j) = frV key nonce n) := rfl
  clear k05 k5 hB5 hb6 ho6
  go_wp2_with ((with_reducible show wpList _ _ _ (⟨some 46, _, _, _, _, _⟩ :: _) _ _); refine wpList_copy_splice rfl (.tmp 44) (.tmp 45) 29 29 rfl 3 Tryz.underlying29 int_size _ _ 3 _ 3 _ rfl rfl g 13 (bzW 16 fun p => if p = 12 then n else if 4 ≤ p ∧ p < 4 + 8 then ctF false key (p - 4) key.size else frC p) 153 m1 (bzW 3 fun q => ctF false nonce q nonce.size) (by rw [bzW_length]; rfl) (fun _ => ⟨rfl, _, rfl, HCS.out⟩) (by rw [bzW_length, bzW_length]; omega) bzW_one g w6 (Below.refl _ _) (Nat.le_refl _) ?_; intro w7 hg7 hb7; have hk7 : KH.Blk w7 g 153 _ := hg7.out; rw [HSPL.out, HV.out] at hk7; have k07 := m0.below hb7 hne; obtain ⟨c0, c1, c2, c3, c4, c5, c6, c7, c8, c9, c10, c11, c12, c13, c14, c15⟩ := blk16 hk7; obtain ⟨d0, d1, d2, d3, d4, d5, d6, d7, d8, d9, d10, d11, d12, d13, d14, d15⟩ := blk16 k07; obtain ⟨z0, z1, z2, z3, z4, z5, z6, z7, z8, z9, z10, z11, z12, z13, z14, z15⟩ := frz16 k07; have HBB := KH.hid (And.intro (hB6.trans (hb7.mono (show w.heap.size ≤ g by omega))) k07); clear hk7 hg7 k07 m0 m1 HCS HSPL HV hB6 hb7)
  refine ret_first HBB.out.2 (Nat.le_refl _) HBB.out.1 ?_ ?_ ?_ <;> rfl
end Go.Proofs.YtlnilfcjcoclhaaGreatDoor
