/- The walks of poly.Degree, of the document's All and Places, and the document's rows of package poly. -/
import Derived.Test.YtdeoibgedjbeiaaDoorPolyD
namespace Go.Proofs.YtdeoibgedjbeiaaDoor
open Go.RowKit

def dgN (l : List Int) : Nat → Int
  | 0 => -1
  | k + 1 => if l.getD k 0 ≠ 0 then (k : Int) else dgN l k
def degL (l : List Int) : Int := dgN l l.length
theorem dgN_le (l : List Int) (k : Nat) : -1 ≤ dgN l k ∧ dgN l k < k := by
  induction k with
  | zero => exact ⟨by show (-1 : Int) ≤ -1; omega, by show (-1 : Int) < ((0 : Nat) : Int); omega⟩
  | succ k ih => unfold dgN; split <;> omega

theorem reads_lit (w : World) (xs : List Int) (t : TypeId) (g : Nat) (hg : w.heap.size = g) : KH.Reads (w.alloc (.cells (xs.map (Value.int .i64)).toArray t)) (g + 1) 1 (some ⟨g, 0, none⟩) xs.length (xs.map (.int .i64)) := by
  subst hg
  refine ⟨by simp, fun _ => ⟨_, rfl, by show w.heap.size < _; omega, fun j u hu => ?_⟩⟩
  have : (⟨w.heap.size, 0, none⟩ : Addr).add j = ⟨w.heap.size, j, none⟩ := by unfold Addr.add; split <;> simp_all
  rw [this, World.cell?_alloc_at _ _ _ _ rfl]
  simpa using hu

theorem row_e3 : evalV [5, 2, 1] 3 = 6 ∧ evalK [5, 2, 1] 3 = true := by decide +kernel
theorem row_t : throughV [1, 2, 3] [evalV [5, 2, 1] 1, evalV [5, 2, 1] 2, evalV [5, 2, 1] 3] 0 = 5 ∧ throughK [1, 2, 3] [evalV [5, 2, 1] 1, evalV [5, 2, 1] 2, evalV [5, 2, 1] 3] 0 = true := by decide +kernel
theorem row_t1 : throughV [1, 1] [1, 1] 0 = 0 ∧ throughK [1, 1] [1, 1] 0 = false := by decide +kernel
theorem row_d1 : degL [1, 0, 0] = 0 := by decide +kernel
theorem row_d2 : degL [] = -1 := by decide +kernel

/-- the row's values so far -/
def pys (k : Nat) : List Int := ([evalV [5, 2, 1] 1, evalV [5, 2, 1] 2, evalV [5, 2, 1] 3]).take k
theorem pys_step (k : Nat) (hk : k < 3) : pys (k + 1) = pys k ++ [evalV [5, 2, 1] ((k : Int) + 1)] := by
  match k, hk with
  | 0, _ => rfl
  | 1, _ => rfl
  | 2, _ => rfl

end Go.Proofs.YtdeoibgedjbeiaaDoor
