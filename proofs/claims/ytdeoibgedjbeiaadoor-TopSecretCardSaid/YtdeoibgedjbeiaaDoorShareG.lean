/- The document's Split. -/
import Derived.Test.YtdeoibgedjbeiaaDoorShareF
namespace Go.Proofs.YtdeoibgedjbeiaaDoor
open Go.RowKit

theorem bl_snoc (k : Nat) (F : Nat → Nat) : bl (k + 1) F = bl k F ++ [.int .u8 (F k : Nat)] := by
  unfold bl; rw [List.range_succ, List.map_append]; rfl
theorem splitL_snoc (secret tape : ByteArray) (i k : Nat) : shC (splitL secret tape (i + 1) k) = shC (splitL secret tape i k) ++ [.int .i64 ((i : Int) + 1), .string (tx 32 (shv secret tape k i))] := by
  unfold splitL shC; rw [List.range_succ, List.map_append, List.flatMap_append]; rfl
theorem splitL_length (secret tape : ByteArray) (n k : Nat) : (splitL secret tape n k).length = n := by simp [splitL]

end Go.Proofs.YtdeoibgedjbeiaaDoor
