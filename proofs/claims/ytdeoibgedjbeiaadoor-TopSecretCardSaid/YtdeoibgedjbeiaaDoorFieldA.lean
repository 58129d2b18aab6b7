/- The walks of package field: digits, sums, doubling. -/
import Derived.Test.YtdeoibgedjbeiaaDoorRows
import Derived.Test.YtdeoibgedjbeiaaDoorGf
import Derived.Test.YtdeoibgedjbeiaaDoorInts
import Derived.WalkKit
import Derived.WalkSpells
import Derived.WalkLawsBesides
namespace Go.Proofs.YtdeoibgedjbeiaaDoor
open Go.RowKit

theorem isDigit_in (a : Int) (w : World) (h0 : 0 ≤ a) (h1 : a ≤ 255) :
    Calls Tryd.prog 40 #[.int .i64 a] w fun e w' => e = .returned (.bool true) ∧ w = w' := by
  go_enter Tryd.func40, Tryd.ntmps40
  go_wp2
  go_ret
  exact ⟨rfl, rfl⟩

theorem isDigit_out (a : Int) (w : World) (h : a < 0 ∨ 255 < a) :
    Calls Tryd.prog 40 #[.int .i64 a] w fun e w' => e = .returned (.bool false) ∧ w = w' := by
  rcases h with h | h
  · go_enter Tryd.func40, Tryd.ntmps40
    go_wp2
    go_ret
    exact ⟨rfl, rfl⟩
  · have h' : ¬ a < 0 := by omega
    have hd : decide (a ≤ 255) = false := by simp; omega
    go_enter Tryd.func40, Tryd.ntmps40
    go_wp2
    go_ret
    exact ⟨rfl, rfl⟩

theorem double_in (a : Int) (w : World) (h0 : 0 ≤ a) (h1 : a ≤ 255) :
    Calls Tryd.prog 38 #[.int .i64 a] w fun e w' => e = .returned (.int .i64 (KH.dbl a.toNat : Nat)) ∧ w = w' := by
  by_cases h : 2 * a < 256
  · go_enter Tryd.func38, Tryd.ntmps38
    go_wp2
    go_ret
    exact ⟨KH.ret_int (by unfold KH.dbl; rw [if_pos (by omega)]; omega), rfl⟩
  · go_enter Tryd.func38, Tryd.ntmps38
    go_wp2
    go_ret
    refine ⟨KH.ret_int ?_, rfl⟩
    rw [KH.bits_xor_i64 _ _ (by omega) (by omega) (by omega) (by omega)]
    unfold KH.dbl; rw [if_neg (by omega)]
    rw [show (2 * a - 256).toNat = 2 * a.toNat - 256 by omega]; rfl

theorem fadd_in (a b : Int) (w : World) (h0 : 0 ≤ a) (h1 : a ≤ 255) (h2 : 0 ≤ b) (h3 : b ≤ 255) :
    Calls Tryd.prog 39 #[.int .i64 a, .int .i64 b] w fun e w' => e = .returned (.tuple #[.int .i64 (a.toNat ^^^ b.toNat : Nat), .bool true]) ∧ w = w' := by
  go_enter Tryd.func39, Tryd.ntmps39
  go_wp2
  go_ret2
  exact ⟨KH.ret_int_bool (KH.bits_xor_i64 _ _ (by omega) (by omega) (by omega) (by omega)) rfl, rfl⟩

theorem fadd_out (a b : Int) (w : World) (h : (a < 0 ∨ 255 < a) ∨ (b < 0 ∨ 255 < b)) :
    Calls Tryd.prog 39 #[.int .i64 a, .int .i64 b] w fun e w' => e = .returned (.tuple #[.int .i64 0, .bool false]) ∧ w = w' := by
  by_cases ha : a < 0 ∨ 255 < a
  · go_enter Tryd.func39, Tryd.ntmps39
    go_wp2_with (go_at_call 40; refine (isDigit_out _ _ ha).mono ?_; rintro e w' ⟨rfl, rfl⟩)
    go_ret2
    exact ⟨rfl, rfl⟩
  · have hb : b < 0 ∨ 255 < b := by omega
    have ha0 : 0 ≤ a := by omega
    have ha1 : a ≤ 255 := by omega
    go_enter Tryd.func39, Tryd.ntmps39
    go_wp2_with fail
    refine (isDigit_in _ _ ha0 ha1).mono ?_; rintro e w' ⟨rfl, rfl⟩
    go_wp2_with fail
    refine (isDigit_out _ _ hb).mono ?_; rintro e w' ⟨rfl, rfl⟩
    go_wp2
    go_ret2
    exact ⟨rfl, rfl⟩
end Go.Proofs.YtdeoibgedjbeiaaDoor
