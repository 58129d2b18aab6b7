/- The chosen shares; texts held against one another. -/
import Derived.Test.YtdeoibgedjbeiaaDoorShareH
import Derived.Test.YtdeoibgedjbeiaaDoorArgs
import Derived.Deep.AppendLies
import Derived.Deep.DrawnRows
namespace Go.Proofs.YtdeoibgedjbeiaaDoor
open Go.RowKit

/-- what is unlike in two texts -/
def xbF (s t : ByteArray) (o : Nat) : Nat := sb s o ^^^ sb t o
theorem xbF_lt (s t : ByteArray) (o : Nat) : xbF s t o < 256 := KH.xor_lt (sb_lt _ _) (sb_lt _ _)
def xbS (s t : ByteArray) : ByteArray := tx (min s.size t.size) (xbF s t)

/-- the chosen of the first k shares -/
def chs (l : List (Int × ByteArray)) (wh : List Bool) : Nat → List (Int × ByteArray)
  | 0 => []
  | k + 1 => chs l wh k ++ if wh.getD k false then [l.getD k (0, ⟨#[]⟩)] else []
def chsL (l : List (Int × ByteArray)) (wh : List Bool) : List (Int × ByteArray) := chs l wh (min l.length wh.length)
theorem chs_le (l : List (Int × ByteArray)) (wh : List Bool) (k : Nat) : (chs l wh k).length ≤ k := by
  induction k with
  | zero => exact Nat.le_refl _
  | succ k ih => unfold chs; rw [List.length_append]; split <;> simp <;> omega
theorem shC_append (l m : List (Int × ByteArray)) : shC (l ++ m) = shC l ++ shC m := List.flatMap_append

theorem bool_at {w : World} {B n : Nat} {A : Option Addr} {l : List Bool} (h : KH.Reads w B 1 A n (l.map .bool)) {k : Nat} (hk : k < n) :
    ∃ ad x, A = some ad ∧ ad.block < B ∧ l[k]? = some x ∧ w.cell? (ad.add k) = some (.bool x) := by
  obtain ⟨ad, u, hA, hb, hx, hc⟩ := h.at_ hk
  rw [List.getElem?_map] at hx
  cases hl : l[k]? with
  | none => rw [hl] at hx; cases hx
  | some x => rw [hl] at hx; injection hx with hx; subst hx; exact ⟨ad, x, hA, hb, rfl, hc⟩

end Go.Proofs.YtdeoibgedjbeiaaDoor
