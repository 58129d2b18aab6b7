/- The document's rows of package share. -/
import Derived.Test.YtdeoibgedjbeiaaDoorShareG
namespace Go.Proofs.YtdeoibgedjbeiaaDoor
open Go.RowKit

def mny (c : Nat) : ByteArray := tx 32 fun _ => c
theorem mny_size (c : Nat) : (mny c).size = 32 := tx_size _ _
theorem row_split : splitK (mny 5) 3 2 (mny 2) = true ∧ splitV (mny 5) 3 2 (mny 2) = [(1, mny 7), (2, mny 1), (3, mny 3)] := by decide +kernel
theorem row_comb : combV [(1, mny 7), (3, mny 3)] = mny 5 ∧ combE [(1, mny 7), (3, mny 3)] = 0 := by decide +kernel
theorem row_none : combV [] = ⟨#[]⟩ ∧ combE [] = 90 := by decide +kernel

theorem shin_lit (w : World) (l : List (Int × ByteArray)) (t : TypeId) (g : Nat) (hg : w.heap.size = g) : ShIn (w.alloc (.cells (shC l).toArray t)) (g + 1) (some ⟨g, 0, none⟩) l.length l := by
  subst hg
  refine ⟨shC_length l, fun _ => ⟨_, rfl, by show w.heap.size < _; omega, fun j u hu => ?_⟩⟩
  have : (⟨w.heap.size, 0, none⟩ : Addr).add j = ⟨w.heap.size, j, none⟩ := by unfold Addr.add; split <;> simp_all
  rw [this, World.cell?_alloc_at _ _ _ _ rfl]
  simpa using hu

end Go.Proofs.YtdeoibgedjbeiaaDoor
