/- The walks of package field: quotients, powers; the document's rows. -/
import Derived.Test.YtdeoibgedjbeiaaDoorFieldC
namespace Go.Proofs.YtdeoibgedjbeiaaDoor
open Go.RowKit

theorem FieldAt.drewN {b : Nat} {w : World} (h : FieldAt b w) (n : Nat) : FieldAt b (w.drewN n) := ⟨h.num, h.dig⟩

theorem div_in (b : Nat) (x y : Int) (w : World) (h : FieldAt b w) (hx0 : 0 ≤ x) (hx1 : x ≤ 255) (hy0 : 1 ≤ y) (hy1 : y ≤ 255) :
    Calls Tryd.prog 52 #[.pointer (some ⟨b, 0, none⟩), .int .i64 x, .int .i64 y] w fun e w' => e = .returned (.tuple #[.int .i64 (KH.mul x.toNat (KH.inv y.toNat) : Nat), .bool true]) ∧ ∃ n, w' = w.drewN n := by
  have hi := KH.inv_lt y.toNat
  go_enter Tryd.func52, Tryd.ntmps52
  go_wp2_with fail
  refine (inv_in _ _ _ h hy0 hy1).mono ?_; rintro e w' ⟨rfl, n1, rfl⟩
  go_wp2_with fail
  refine (mul_in _ _ _ _ (h.drewN _) hx0 hx1 (by omega) (by omega)).mono ?_; rintro e w' ⟨rfl, n2, rfl⟩
  rw [Int.toNat_natCast]
  go_wp2
  go_ret2
  exact ⟨rfl, _, rfl⟩

theorem div_out (b : Nat) (x y : Int) (w : World) (h : FieldAt b w) (ho : (x < 0 ∨ 255 < x) ∨ (y ≤ 0 ∨ 255 < y)) :
    Calls Tryd.prog 52 #[.pointer (some ⟨b, 0, none⟩), .int .i64 x, .int .i64 y] w fun e w' => e = .returned (.tuple #[.int .i64 0, .bool false]) ∧ ∃ n, w' = w.drewN n := by
  by_cases hy : y ≤ 0 ∨ 255 < y
  · clear ho
    go_enter Tryd.func52, Tryd.ntmps52
    go_wp2_with fail
    refine (inv_out _ _ _ hy).mono ?_; rintro e w' ⟨rfl, rfl⟩
    go_wp2
    go_ret2
    exact ⟨rfl, 0, rfl⟩
  · have hy0 : 1 ≤ y := by omega
    have hy1 : y ≤ 255 := by omega
    have hx : x < 0 ∨ 255 < x := by omega
    clear ho hy
    go_enter Tryd.func52, Tryd.ntmps52
    go_wp2_with fail
    refine (inv_in _ _ _ h hy0 hy1).mono ?_; rintro e w' ⟨rfl, n1, rfl⟩
    go_wp2_with fail
    refine (mul_out _ _ _ _ (Or.inl hx)).mono ?_; rintro e w' ⟨rfl, rfl⟩
    go_wp2
    go_ret2
    exact ⟨rfl, _, rfl⟩

theorem div_nil (x y : Int) (w : World) :
    Calls Tryd.prog 52 #[.pointer none, .int .i64 x, .int .i64 y] w fun e w' => e = .returned (.tuple #[.int .i64 0, .bool false]) ∧ w = w' := by
  go_enter Tryd.func52, Tryd.ntmps52
  go_wp2_with fail
  refine (inv_nil _ _).mono ?_; rintro e w' ⟨rfl, rfl⟩
  go_wp2
  go_ret2
  exact ⟨rfl, rfl⟩

theorem pow_mul_i64 (p m : Nat) (hp : p < 255) (hm : m ≤ 1000000) : IntKind.i64.wrap ((p : Int) * (m : Int)) = ((p * m : Nat) : Int) ∧ p * m ≤ 254000000 := by
  have h : p * m ≤ 254 * 1000000 := Nat.mul_le_mul (by omega) hm
  refine ⟨?_, by omega⟩
  rw [← Int.natCast_mul]
  exact IntWalk.i64_in _ (by omega)

theorem row_mul1 : KH.mul 83 202 = 1 := by decide +kernel
theorem row_mul2 : KH.mul 2 128 = 27 := by decide +kernel
theorem row_inv : KH.inv 3 = 246 := by decide +kernel
end Go.Proofs.YtdeoibgedjbeiaaDoor
