/- The walk of field.New. -/
import Derived.Test.YtdeoibgedjbeiaaDoorFieldA
import Derived.Outline
namespace Go.Proofs.YtdeoibgedjbeiaaDoor
open Go.RowKit

/-- after k rounds of New the block b of the field -/
structure FieldTo (b k : Nat) (w : World) : Prop where
  num : ∀ j, j < 256 → w.cell? ⟨b, j, none⟩ = some (.int .i64 (if j ≠ 0 ∧ KH.lg j < k then KH.lg j else 0 : Nat))
  dig : ∀ j, j < 255 → w.cell? ⟨b, 256 + j, none⟩ = some (.int .i64 (if j < k then KH.ex j else 0 : Nat))
  free : ∀ j, w.frozen? ⟨b, j, none⟩ = false

theorem zero_field : Tryd.zeroCells77 = Array.replicate 511 (.int .i64 0) := by kernel_rfl

theorem FieldTo.start (w : World) : FieldTo w.heap.size 0 (w.alloc (.cells Tryd.zeroCells77 77)) := by
  rw [zero_field]
  refine ⟨fun j hj => ?_, fun j hj => ?_, fun j => World.frozen?_alloc_at _ _ _ _ rfl⟩
  · rw [World.cell?_alloc_at _ _ _ _ rfl, Array.getElem?_replicate, if_pos (by omega), if_neg (by omega)]; rfl
  · rw [World.cell?_alloc_at _ _ _ _ rfl, Array.getElem?_replicate, if_pos (by omega), if_neg (by omega)]; rfl

theorem FieldTo.step {b k : Nat} {w : World} (h : FieldTo b k w) (hk : k < 255) :
    FieldTo b (k + 1) ((w.setCell ⟨b, KH.ex k, none⟩ (.int .i64 (k : Nat))).setCell ⟨b, 256 + k, none⟩ (.int .i64 (KH.ex k : Nat))) := by
  have hx := KH.ex_lt k
  have h0 := KH.ex_ne_zero k
  refine ⟨fun j hj => ?_, fun j hj => ?_, fun j => by rw [World.frozen?_setCell, World.frozen?_setCell]; exact h.free j⟩
  · rw [KH.cell_put_other (by omega)]
    by_cases e : j = KH.ex k
    · subst e
      rw [KH.cell_put_same (h.num _ hj), KH.lg_ex k hk, if_pos ⟨h0, by omega⟩]
    · rw [KH.cell_put_other (fun e' => e e'.symm), h.num j hj]
      by_cases hj0 : j = 0
      · simp [hj0]
      · have : KH.lg j ≠ k := by rintro rfl; exact e (KH.ex_lg j hj hj0).symm
        simp only [ne_eq, hj0, not_false_eq_true, true_and]
        by_cases hl : KH.lg j < k
        · rw [if_pos hl, if_pos (by omega)]
        · rw [if_neg hl, if_neg (by omega)]
  · by_cases e : j = k
    · subst e
      rw [KH.cell_put_same (v := .int .i64 (KH.ex j : Nat)) (u := .int .i64 (if j < j then KH.ex j else 0 : Nat)), if_pos (by omega)]
      rw [KH.cell_put_other (by omega)]; exact h.dig j hj
    · rw [KH.cell_put_other (by omega), KH.cell_put_other (by omega), h.dig j hj]
      by_cases hl : j < k
      · rw [if_pos hl, if_pos (by omega)]
      · rw [if_neg hl, if_neg (by omega)]

/-- a field that is made, behind a pointer -/
structure FieldAt (b : Nat) (w : World) : Prop where
  num : ∀ j, j < 256 → w.cell? ⟨b, j, none⟩ = some (.int .i64 (KH.lg j : Nat))
  dig : ∀ j, j < 255 → w.cell? ⟨b, 256 + j, none⟩ = some (.int .i64 (KH.ex j : Nat))

theorem FieldTo.made {b : Nat} {w : World} (h : FieldTo b 255 w) : FieldAt b w := by
  refine ⟨fun j hj => ?_, fun j hj => ?_⟩
  · rw [h.num j hj]
    by_cases e : j = 0
    · subst e; rfl
    · rw [if_pos ⟨e, KH.lg_lt j hj⟩]
  · rw [h.dig j hj, if_pos hj]

set_option maxRecDepth 100000 in
theorem new_any (w : World) :
    Calls Tryd.prog 23 #[] w fun e w' => e = .returned (.pointer (some ⟨w.heap.size, 0, none⟩)) ∧ FieldAt w.heap.size w' ∧ Below w.heap.size w w' ∧ w.heap.size < w'.heap.size := by
  go_enter Tryd.func23, Tryd.ntmps23
  go_wp2
  go_loopw [2, 5] (fun x i wr => ∃ k : Nat, k ≤ 255 ∧ i = .int .i64 k ∧ x = .int .i64 (KH.ex k : Nat) ∧ FieldTo w.heap.size k wr ∧ Below w.heap.size w wr ∧ w.heap.size < wr.heap.size) (fun _ i _ => 255 - (intOf i).toNat)
  case atStart => exact ⟨0, by omega, rfl, rfl, FieldTo.start w, (Below.refl _ _).alloc (Nat.le_refl _) _, by simp⟩
  case round =>
    obtain ⟨k, hk, rfl, rfl, hf, hb, hs⟩ := hrel
    by_cases hlt : k < 255
    · have hx := KH.ex_lt k
      obtain ⟨o1, hn⟩ : ∃ o : Int, wr.cell? ⟨w.heap.size, KH.ex k, none⟩ = some (.int .i64 o) := ⟨_, hf.num _ hx⟩
      obtain ⟨o2, hd⟩ : ∃ o : Int, wr.cell? ⟨w.heap.size, 256 + k, none⟩ = some (.int .i64 o) := ⟨_, hf.dig _ hlt⟩
      have hz1 := hf.free (KH.ex k)
      have hz2 := hf.free (256 + k)
      have hf' := hf.step hlt
      have hb' : Below w.heap.size w ((wr.setCell ⟨w.heap.size, KH.ex k, none⟩ (.int .i64 (k : Nat))).setCell ⟨w.heap.size, 256 + k, none⟩ (.int .i64 (KH.ex k : Nat))) := (hb.setCell (Nat.le_refl _) _).setCell (Nat.le_refl _) _
      have hxor : bits .xor .i64 (KH.ex k : Nat) (KH.dbl (KH.ex k) : Nat) = (KH.ex (k + 1) : Nat) := by
        rw [KH.bits_xor_i64_nat _ _ (by omega) (by have := KH.dbl_lt _ hx; omega)]; rfl
      have HXO := KH.hid hxor; clear hxor
      generalize hX : KH.ex k = x at *
      have HX := KH.hid hX; clear hX
      clear hf hb
      go_wp2_with fail
      refine (double_in _ _ (by omega) (by omega)).mono ?_; rintro e w' ⟨rfl, rfl⟩
      rw [Int.toNat_natCast]
      go_wp2
      go_roundw
      case rel => exact ⟨k + 1, by omega, by go_num, by rw [HXO.out], hf', hb', by simpa using hs⟩
      case measure => simp [intOf]; omega
    · obtain rfl : k = 255 := by omega
      clear hk hlt
      have hf' := hf.made; clear hf
      go_wp2
      go_ret
      exact ⟨rfl, hf', hb, hs⟩
end Go.Proofs.YtdeoibgedjbeiaaDoor
