/- Contracts of digest's small functions, as the drawn regions meet them. -/
import Derived.Test.YtdeoibgedjbeiaaDoorDigB
import Derived.Deep.RegionHeld3
import Derived.Deep.DrawnRows
import Derived.Laws.CopyOwn
namespace Go.Proofs.YtdeoibgedjbeiaaDoor
open Go.RowKit

def falV (x n : Nat) : Nat := x / 2 ^ n
theorem falV_lt (x n : Nat) (hx : x < 4294967296) : falV x n < 4294967296 := Nat.lt_of_le_of_lt (Nat.div_le_self _ _) hx
def anV (x y : Nat) : Nat := x &&& y
theorem anV_lt (x y : Nat) (hx : x < 4294967296) : anV x y < 4294967296 := Nat.lt_of_le_of_lt Nat.and_le_left hx
theorem dback_at (x n m : Nat) (w : World) (hx : x < 4294967296) (h1 : 1 ≤ n) (hn : n < 32) (hm : 32 - n = m) :
    Calls Tryd.prog 58 #[.int .i64 x, .int .i64 (OfNat.ofNat n)] w fun e w' => e = .returned (.int .i64 (rotV x m : Nat)) ∧ Below w.heap.size w w' := by
  subst hm; exact dback_yes x n w hx h1 hn
theorem dfall_at (x n : Nat) (w : World) (hn : n ≤ 32) :
    Calls Tryd.prog 62 #[.int .i64 x, .int .i64 (OfNat.ofNat n)] w fun e w' => e = .returned (.int .i64 (falV x n : Nat)) ∧ Below w.heap.size w w' :=
  (dfall_yes x n w hn).mono fun _ _ ⟨he, hw⟩ => ⟨he, hw ▸ Below.refl _ _⟩
theorem dand_at (x y : Nat) (w : World) (hx : x < 4294967296) (hy : y < 4294967296) :
    Calls Tryd.prog 59 #[.int .i64 x, .int .i64 y] w fun e w' => e = .returned (.int .i64 (anV x y : Nat)) ∧ Below w.heap.size w w' := dand_yes x y w hx hy
theorem xo2 {a b : Nat} (ha : a < 4294967296) (hb : b < 4294967296) : xoV [a, b] < 4294967296 := xoV_lt (all2 ha hb)
theorem xo3 {a b c : Nat} (ha : a < 4294967296) (hb : b < 4294967296) (hc : c < 4294967296) : xoV [a, b, c] < 4294967296 := xoV_lt (all3 ha hb hc)
end Go.Proofs.YtdeoibgedjbeiaaDoor
