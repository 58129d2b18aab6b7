/- The walks of package digest's small functions. -/
import Derived.Test.YtdeoibgedjbeiaaDoorWordA
namespace Go.Proofs.YtdeoibgedjbeiaaDoor
open Go.RowKit

set_option maxRecDepth 100000 in
theorem dfall_yes (x n : Nat) (w : World) (hn : n ≤ 32) :
    Calls Tryd.prog 62 #[.int .i64 x, .int .i64 n] w fun e w' => e = .returned (.int .i64 (x / 2 ^ n : Nat)) ∧ w = w' := by
  go_enter Tryd.func62, Tryd.ntmps62
  go_wp2
  go_ret
  refine ⟨KH.ret_int ?_, rfl⟩
  simp
set_option maxRecDepth 100000 in
theorem dback_yes (x n : Nat) (w : World) (hx : x < 4294967296) (h1 : 1 ≤ n) (hn : n < 32) :
    Calls Tryd.prog 58 #[.int .i64 x, .int .i64 n] w fun e w' => e = .returned (.int .i64 (rotV x (32 - n) : Nat)) ∧ Below w.heap.size w w' := by
  have e1 : (32 : Int) - (n : Int) = ((32 - n : Nat) : Int) := by omega
  obtain ⟨m, hm⟩ : ∃ m, 32 - n = m := ⟨_, rfl⟩
  rw [hm] at e1 ⊢
  have m1 : 1 ≤ m := by omega
  have m2 : m < 32 := by omega
  clear hm
  go_enter Tryd.func58, Tryd.ntmps58
  go_wp2_with fail
  refine (wrot_yes x m _ hx m1 m2).mono ?_; rintro e w' ⟨rfl, hb⟩
  go_wp2
  go_ret
  exact ⟨rfl, hb⟩
set_option maxRecDepth 100000 in
theorem dand_yes (x y : Nat) (w : World) (hx : x < 4294967296) (hy : y < 4294967296) :
    Calls Tryd.prog 59 #[.int .i64 x, .int .i64 y] w fun e w' => e = .returned (.int .i64 (x &&& y : Nat)) ∧ Below w.heap.size w w' := by
  go_enter Tryd.func59, Tryd.ntmps59
  go_wp2_with fail
  refine (wand_yes x y _ hx hy).mono ?_; rintro e w' ⟨rfl, hb⟩
  go_wp2
  go_ret
  exact ⟨rfl, hb⟩
set_option maxRecDepth 100000 in
theorem dadd_yes {B n : Nat} {A : Option Addr} (c : Nat) {L : List Nat} {w : World} (h : KH.Reads w B 1 A n ((zi L).map (.int .i64))) (hL : ∀ x ∈ L, x < 4294967296) (hn : n ≤ maxLen) :
    Calls Tryd.prog 56 #[.slice A n c] w fun e w' => e = .returned (.int .i64 (adV L : Nat)) ∧ w = w' := by
  go_enter Tryd.func56, Tryd.ntmps56
  go_wp2_with fail
  refine (wadd_yes c h hL hn).mono ?_; rintro e w' ⟨rfl, rfl⟩
  go_wp2
  go_ret
  exact ⟨rfl, rfl⟩

/-- the words held against one another -/
def xoV : List Nat → Nat := List.foldl (· ^^^ ·) 0
theorem xoV_snoc (l : List Nat) (x : Nat) : xoV (l ++ [x]) = xoV l ^^^ x := by unfold xoV; rw [List.foldl_append]; rfl
theorem xoV_take_lt {l : List Nat} (h : ∀ x ∈ l, x < 4294967296) (k : Nat) : xoV (l.take k) < 4294967296 := by
  induction k with
  | zero => exact (by omega : 0 < 4294967296)
  | succ k ih =>
    rw [List.take_add_one]
    cases hk : l[k]? with
    | none => simpa using ih
    | some x => exact (xoV_snoc _ x).symm ▸ Nat.xor_lt_two_pow (n := 32) ih (h x (List.mem_of_getElem? hk))
theorem xoV_lt {l : List Nat} (h : ∀ x ∈ l, x < 4294967296) : xoV l < 4294967296 := by
  have := xoV_take_lt h l.length
  rwa [List.take_length] at this
set_option maxRecDepth 100000 in
theorem dxor_yes {n : Nat} {A : Option Addr} (c : Nat) {L : List Nat} {w : World} (h : KH.Reads w w.heap.size 1 A n ((zi L).map (.int .i64))) (hL : ∀ x ∈ L, x < 4294967296) (hn : n ≤ maxLen) :
    Calls Tryd.prog 57 #[.slice A n c] w fun e w' => e = .returned (.int .i64 (xoV L : Nat)) ∧ Below w.heap.size w w' := by
  have hl : L.length = n := by have := h.1; simpa [zi] using this
  have HL := KH.hid (And.intro hl hL); clear hl hL
  have hn9 : n ≤ 9223372036854775807 := by unfold maxLen at hn; exact hn
  go_enter Tryd.func57, Tryd.ntmps57
  go_wp2
  go_loopw [3, 8] (fun v i wr => ∃ k : Nat, k ≤ n ∧ i = .int .i64 k ∧ v = .int .i64 (xoV (L.take k) : Nat) ∧ Below w.heap.size w wr) (fun _ i _ => n - (intOf i).toNat)
  case atStart => exact ⟨0, Nat.zero_le _, rfl, rfl, Below.refl _ _⟩
  case round =>
    obtain ⟨k, hk, rfl, rfl, hb⟩ := hrel
    by_cases hlt : k < n
    · obtain ⟨ad, z, rfl, _, hx, hc⟩ := KH.Reads.int (h.below hb) hlt
      have hz : z = ((L.getD k 0 : Nat) : Int) := by
        rw [zi_get (by rw [HL.out.1]; omega)] at hx; injection hx with hx; exact hx.symm
      subst hz
      have hbb : L.getD k 0 < 4294967296 := by
        rw [KH.getD_eq (by rw [HL.out.1]; omega)]; exact HL.out.2 _ (List.getElem_mem _)
      have hkl : k < L.length := by rw [HL.out.1]; omega
      have HS : Hid (xoV (L.take (k + 1)) = xoV (L.take k) ^^^ L.getD k 0) := by
        unfold Hid
        rw [List.take_add_one, List.getElem?_eq_getElem hkl, KH.getD_eq hkl]; exact xoV_snoc _ _
      have ha := xoV_take_lt HL.out.2 k
      have hsz := hb.size
      clear hx hkl
      generalize L.getD k 0 = y at *
      generalize xoV (L.take k) = s at *
      go_wp2_with fail
      refine (wxor_yes s y _ ha hbb).mono ?_; rintro e w2 ⟨rfl, hb2⟩
      go_wp2
      go_roundw
      case rel => exact ⟨k + 1, by omega, by go_num, by rw [HS.out], hb.trans (hb2.mono hsz)⟩
      case measure => simp [intOf]; omega
    · obtain rfl : k = n := by omega
      have HF : Hid (L.take k = L) := List.take_of_length_le (by rw [HL.out.1]; exact Nat.le_refl _)
      rw [HF.out]
      go_wp2
      go_ret
      exact ⟨rfl, hb⟩

/-! ### of words that are laid just so -/
theorem words_lit (w : World) (L : List Nat) : KH.Reads (w.alloc (.cells ((zi L).map (Value.int .i64)).toArray 3)) (w.alloc (.cells ((zi L).map (Value.int .i64)).toArray 3)).heap.size 1 (some ⟨w.heap.size, 0, none⟩) L.length ((zi L).map (.int .i64)) := by
  have h := reads_lit w (zi L) 3 w.heap.size rfl
  rw [zi_length] at h
  exact h.more (by simp)
theorem lits_add (L : List Nat) (w : World) (hL : ∀ x ∈ L, x < 4294967296) (hn : L.length ≤ 10) (c : Nat) :
    Calls Tryd.prog 56 #[.slice (some ⟨w.heap.size, 0, none⟩) L.length c] (w.alloc (.cells ((zi L).map (Value.int .i64)).toArray 3)) fun e w' => e = .returned (.int .i64 (adV L : Nat)) ∧ w.alloc (.cells ((zi L).map (Value.int .i64)).toArray 3) = w' :=
  dadd_yes c (words_lit w L) hL (by unfold maxLen; omega)
theorem lits_xor (L : List Nat) (w : World) (hL : ∀ x ∈ L, x < 4294967296) (hn : L.length ≤ 10) (c : Nat) :
    Calls Tryd.prog 57 #[.slice (some ⟨w.heap.size, 0, none⟩) L.length c] (w.alloc (.cells ((zi L).map (Value.int .i64)).toArray 3)) fun e w' => e = .returned (.int .i64 (xoV L : Nat)) ∧ Below w.heap.size w w' :=
  (dxor_yes c (words_lit w L) hL (by unfold maxLen; omega)).mono fun _ _ ⟨he, hb⟩ => ⟨he, ((Below.refl _ _).alloc (Nat.le_refl _) _).trans (hb.mono (by simp))⟩
theorem all2 {p : Nat → Prop} {a b : Nat} (ha : p a) (hb : p b) : ∀ x ∈ [a, b], p x := by
  intro x hx; simp at hx; rcases hx with rfl | rfl <;> assumption
theorem all3 {p : Nat → Prop} {a b c : Nat} (ha : p a) (hb : p b) (hc : p c) : ∀ x ∈ [a, b, c], p x := by
  intro x hx; simp at hx; rcases hx with rfl | rfl | rfl <;> assumption
theorem all4 {p : Nat → Prop} {a b c d : Nat} (ha : p a) (hb : p b) (hc : p c) (hd : p d) : ∀ x ∈ [a, b, c, d], p x := by
  intro x hx; simp at hx; rcases hx with rfl | rfl | rfl | rfl <;> assumption
theorem all5 {p : Nat → Prop} {a b c d e : Nat} (ha : p a) (hb : p b) (hc : p c) (hd : p d) (he : p e) : ∀ x ∈ [a, b, c, d, e], p x := by
  intro x hx; simp at hx; rcases hx with rfl | rfl | rfl | rfl | rfl <;> assumption
theorem add2_any (a b : Nat) (w : World) (ha : a < 4294967296) (hb : b < 4294967296) :
    Calls Tryd.prog 56 #[.slice (some ⟨w.heap.size, 0, none⟩) 2 2] (w.alloc (.cells #[.int .i64 a, .int .i64 b] 3)) fun e w' => e = .returned (.int .i64 (adV [a, b] : Nat)) ∧ Below w.heap.size w w' :=
  (lits_add [a, b] w (all2 ha hb) (by simp) 2).mono fun _ _ ⟨he, hw⟩ => ⟨he, hw ▸ (Below.refl _ _).alloc (Nat.le_refl _) _⟩
theorem add4_any (a b c d : Nat) (w : World) (ha : a < 4294967296) (hb : b < 4294967296) (hc : c < 4294967296) (hd : d < 4294967296) :
    Calls Tryd.prog 56 #[.slice (some ⟨w.heap.size, 0, none⟩) 4 4] (w.alloc (.cells #[.int .i64 a, .int .i64 b, .int .i64 c, .int .i64 d] 3)) fun e w' => e = .returned (.int .i64 (adV [a, b, c, d] : Nat)) ∧ Below w.heap.size w w' :=
  (lits_add [a, b, c, d] w (all4 ha hb hc hd) (by simp) 4).mono fun _ _ ⟨he, hw⟩ => ⟨he, hw ▸ (Below.refl _ _).alloc (Nat.le_refl _) _⟩
theorem add5_any (a b c d f : Nat) (w : World) (ha : a < 4294967296) (hb : b < 4294967296) (hc : c < 4294967296) (hd : d < 4294967296) (hf : f < 4294967296) :
    Calls Tryd.prog 56 #[.slice (some ⟨w.heap.size, 0, none⟩) 5 5] (w.alloc (.cells #[.int .i64 a, .int .i64 b, .int .i64 c, .int .i64 d, .int .i64 f] 3)) fun e w' => e = .returned (.int .i64 (adV [a, b, c, d, f] : Nat)) ∧ Below w.heap.size w w' :=
  (lits_add [a, b, c, d, f] w (all5 ha hb hc hd hf) (by simp) 5).mono fun _ _ ⟨he, hw⟩ => ⟨he, hw ▸ (Below.refl _ _).alloc (Nat.le_refl _) _⟩
theorem xor2_any (a b : Nat) (w : World) (ha : a < 4294967296) (hb : b < 4294967296) :
    Calls Tryd.prog 57 #[.slice (some ⟨w.heap.size, 0, none⟩) 2 2] (w.alloc (.cells #[.int .i64 a, .int .i64 b] 3)) fun e w' => e = .returned (.int .i64 (xoV [a, b] : Nat)) ∧ Below w.heap.size w w' :=
  lits_xor [a, b] w (all2 ha hb) (by simp) 2
theorem xor3_any (a b c : Nat) (w : World) (ha : a < 4294967296) (hb : b < 4294967296) (hc : c < 4294967296) :
    Calls Tryd.prog 57 #[.slice (some ⟨w.heap.size, 0, none⟩) 3 3] (w.alloc (.cells #[.int .i64 a, .int .i64 b, .int .i64 c] 3)) fun e w' => e = .returned (.int .i64 (xoV [a, b, c] : Nat)) ∧ Below w.heap.size w w' :=
  lits_xor [a, b, c] w (all3 ha hb hc) (by simp) 3
end Go.Proofs.YtdeoibgedjbeiaaDoor
