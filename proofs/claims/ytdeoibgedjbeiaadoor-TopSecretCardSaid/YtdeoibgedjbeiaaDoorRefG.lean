/- The walks of the document's answer for package field. -/
import Derived.Test.YtdeoibgedjbeiaaDoorFieldA
import Derived.Test.YtdeoibgedjbeiaaDoorGf
namespace Go.Proofs.YtdeoibgedjbeiaaDoor
open Go.RowKit

theorem xor_mod2 (x y : Nat) : (x ^^^ y) % 2 = if x % 2 = y % 2 then 0 else 1 := by
  have := Nat.xor_mod_two_pow (a := x) (b := y) (n := 1)
  simp only [Nat.pow_one] at this
  rw [this]
  rcases Nat.mod_two_eq_zero_or_one x with h | h <;> rcases Nat.mod_two_eq_zero_or_one y with h' | h' <;> rw [h, h'] <;> rfl

theorem unlike_step (a b k : Nat) : (a ^^^ b) % 2 ^ (k + 1) = (a ^^^ b) % 2 ^ k + if a / 2 ^ k % 2 = b / 2 ^ k % 2 then 0 else 2 ^ k := by
  have h := xor_mod2 (a / 2 ^ k) (b / 2 ^ k)
  rw [← Nat.xor_div_two_pow] at h
  rw [Nat.pow_succ, Nat.mod_mul, h]
  split <;> simp


theorem times_step (n a b : Nat) (ha : a < 256) (hb : b < 256) : (n ^^^ if b % 2 = 1 then a else 0) ^^^ KH.mul (KH.dbl a) (b / 2) = n ^^^ KH.mul a b := by
  rw [KH.mul_half ha hb, Nat.xor_assoc, Nat.xor_comm (KH.mul _ _)]

end Go.Proofs.YtdeoibgedjbeiaaDoor
