/- The walks of package field: quotients, powers; the document's rows. -/
import Derived.Test.YtdeoibgedjbeiaaFieldC
namespace Go.Proofs.Ytdeoibgedjbeiaa
open Go.RowKit

theorem FieldAt.drewN {b : Nat} {w : World} (h : FieldAt b w) (n : Nat) : FieldAt b (w.drewN n) := ⟨h.num, h.dig⟩

theorem div_in (b : Nat) (x y : Int) (w : World) (h : FieldAt b w) (hx0 : 0 ≤ x) (hx1 : x ≤ 255) (hy0 : 1 ≤ y) (hy1 : y ≤ 255) :
    Calls Try.prog 26 #[.pointer (some ⟨b, 0, none⟩), .int .i64 x, .int .i64 y] w fun e w' => e = .returned (.tuple #[.int .i64 (KH.mul x.toNat (KH.inv y.toNat) : Nat), .bool true]) ∧ ∃ n, w' = w.drewN n := by
  have hi := KH.inv_lt y.toNat
  go_enter Try.func26, Try.ntmps26
  go_wp2_with fail
  refine (inv_in _ _ _ h hy0 hy1).mono ?_; rintro e w' ⟨rfl, n1, rfl⟩
  go_wp2_with fail
  refine (mul_in _ _ _ _ (h.drewN _) hx0 hx1 (by omega) (by omega)).mono ?_; rintro e w' ⟨rfl, n2, rfl⟩
  rw [Int.toNat_natCast]
  go_wp2
  go_ret2
  exact ⟨rfl, _, rfl⟩

theorem div_out (b : Nat) (x y : Int) (w : World) (h : FieldAt b w) (ho : (x < 0 ∨ 255 < x) ∨ (y ≤ 0 ∨ 255 < y)) :
    Calls Try.prog 26 #[.pointer (some ⟨b, 0, none⟩), .int .i64 x, .int .i64 y] w fun e w' => e = .returned (.tuple #[.int .i64 0, .bool false]) ∧ ∃ n, w' = w.drewN n := by
  by_cases hy : y ≤ 0 ∨ 255 < y
  · clear ho
    go_enter Try.func26, Try.ntmps26
    go_wp2_with fail
    refine (inv_out _ _ _ hy).mono ?_; rintro e w' ⟨rfl, rfl⟩
    go_wp2
    go_ret2
    exact ⟨rfl, 0, rfl⟩
  · have hy0 : 1 ≤ y := by omega
    have hy1 : y ≤ 255 := by omega
    have hx : x < 0 ∨ 255 < x := by omega
    clear ho hy
    go_enter Try.func26, Try.ntmps26
    go_wp2_with fail
    refine (inv_in _ _ _ h hy0 hy1).mono ?_; rintro e w' ⟨rfl, n1, rfl⟩
    go_wp2_with fail
    refine (mul_out _ _ _ _ (Or.inl hx)).mono ?_; rintro e w' ⟨rfl, rfl⟩
    go_wp2
    go_ret2
    exact ⟨rfl, _, rfl⟩

theorem div_nil (x y : Int) (w : World) :
    Calls Try.prog 26 #[.pointer none, .int .i64 x, .int .i64 y] w fun e w' => e = .returned (.tuple #[.int .i64 0, .bool false]) ∧ w = w' := by
  go_enter Try.func26, Try.ntmps26
  go_wp2_with fail
  refine (inv_nil _ _).mono ?_; rintro e w' ⟨rfl, rfl⟩
  go_wp2
  go_ret2
  exact ⟨rfl, rfl⟩

theorem pow_mul_i64 (p m : Nat) (hp : p < 255) (hm : m ≤ 1000000) : IntKind.i64.wrap ((p : Int) * (m : Int)) = ((p * m : Nat) : Int) ∧ p * m ≤ 254000000 := by
  have h : p * m ≤ 254 * 1000000 := Nat.mul_le_mul (by omega) hm
  refine ⟨?_, by omega⟩
  rw [← Int.natCast_mul]
  exact IntWalk.i64_in _ (by omega)

set_option maxRecDepth 100000 in
theorem pow_in (b : Nat) (x y : Int) (w : World) (h : FieldAt b w) (hx0 : 0 ≤ x) (hx1 : x ≤ 255) (hy0 : 0 ≤ y) (hy1 : y ≤ 1000000) :
    Calls Try.prog 28 #[.pointer (some ⟨b, 0, none⟩), .int .i64 x, .int .i64 y] w fun e w' => e = .returned (.tuple #[.int .i64 (KH.pow x.toNat y.toNat : Nat), .bool true]) ∧ ∃ n, w' = w.drewN n := by
  obtain ⟨n, rfl⟩ := Int.eq_ofNat_of_zero_le hx0
  obtain ⟨m, rfl⟩ := Int.eq_ofNat_of_zero_le hy0
  rw [Int.toNat_natCast, Int.toNat_natCast]
  by_cases hm : m = 0
  · subst hm
    go_enter Try.func28, Try.ntmps28
    go_wp2_with fail
    refine (isDigit_in _ _ (by omega) (by omega)).mono ?_; rintro e w' ⟨rfl, rfl⟩
    go_wp2
    go_ret2
    exact ⟨KH.ret_int_bool (by simp [KH.pow]) rfl, 0, rfl⟩
  · have hm' : ((m : Int) == 0) = false := by simp; omega
    by_cases hn : n = 0
    · subst hn
      have HP : Hid (KH.pow 0 m = 0) := by unfold KH.pow; rw [if_neg hm]; rfl
      clear hm
      go_enter Try.func28, Try.ntmps28
      go_wp2_with fail
      refine (isDigit_in _ _ (by omega) (by omega)).mono ?_; rintro e w' ⟨rfl, rfl⟩
      go_wp2
      go_ret2
      exact ⟨KH.ret_int_bool (by rw [HP.out]; rfl) rfl, 0, rfl⟩
    · have hn' : ((n : Int) == 0) = false := by simp; omega
      have hc1 := h.num n (by omega)
      have hl1 := KH.lg_lt n (by omega)
      have hc3 := h.dig (KH.lg n * m % 255) (by omega)
      have HN : Hid (KH.pow n m = KH.ex (KH.lg n * m % 255)) := by unfold KH.pow; rw [if_neg hm, if_neg hn]; rfl
      clear hm hn
      generalize KH.lg n = p at *
      obtain ⟨hw, hw2⟩ := pow_mul_i64 p m hl1 (by omega)
      have HW := KH.hid hw; clear hw
      go_enter Try.func28, Try.ntmps28
      go_wp2_with fail
      refine (isDigit_in _ _ (by omega) (by omega)).mono ?_; rintro e w' ⟨rfl, rfl⟩
      go_wp2_with fail
      refine (made_any _ _ h).mono ?_; rintro e w' ⟨rfl, rfl⟩
      go_wp2
      have hw := HW.out
      go_quiet (fail)
      go_wp2
      go_ret2
      exact ⟨KH.ret_int_bool (by rw [HN.out]) rfl, _, rfl⟩

theorem pow_out (b : Nat) (x y : Int) (w : World) (ho : (x < 0 ∨ 255 < x) ∨ (y < 0 ∨ 1000000 < y)) :
    Calls Try.prog 28 #[.pointer (some ⟨b, 0, none⟩), .int .i64 x, .int .i64 y] w fun e w' => e = .returned (.tuple #[.int .i64 0, .bool false]) ∧ w = w' := by
  by_cases hx : x < 0 ∨ 255 < x
  · clear ho
    go_enter Try.func28, Try.ntmps28
    go_wp2_with fail
    refine (isDigit_out _ _ hx).mono ?_; rintro e w' ⟨rfl, rfl⟩
    go_wp2
    go_ret2
    exact ⟨rfl, rfl⟩
  · have hx0 : 0 ≤ x := by omega
    have hx1 : x ≤ 255 := by omega
    rcases (show y < 0 ∨ 1000000 < y by omega) with hy | hy
    all_goals
      clear ho hx
      go_enter Try.func28, Try.ntmps28
      go_wp2_with fail
      refine (isDigit_in _ _ hx0 hx1).mono ?_; rintro e w' ⟨rfl, rfl⟩
      go_wp2
      go_ret2
      exact ⟨rfl, rfl⟩

theorem pow_nil (x y : Int) (w : World) :
    Calls Try.prog 28 #[.pointer none, .int .i64 x, .int .i64 y] w fun e w' => e = .returned (.tuple #[.int .i64 0, .bool false]) ∧ w = w' := by
  go_enter Try.func28, Try.ntmps28
  go_wp2
  go_ret2
  exact ⟨rfl, rfl⟩

theorem row_mul1 : KH.mul 83 202 = 1 := by decide +kernel
theorem row_mul2 : KH.mul 2 128 = 27 := by decide +kernel
theorem row_inv : KH.inv 3 = 246 := by decide +kernel
theorem fields_any (w : World) :
    Calls Try.prog 19 #[] w fun e w' => e = .returned (.bool true) ∧ Below w.heap.size w w' := by
  go_enter Try.func19, Try.ntmps19
  go_wp2_with fail
  refine (new_any _).mono ?_; rintro e w1 ⟨rfl, hF, hb, hs⟩
  go_wp2_with fail
  refine (fadd_in _ _ _ (by omega) (by omega) (by omega) (by omega)).mono ?_; rintro e w' ⟨rfl, rfl⟩
  go_wp2_with fail
  refine (mul_in _ _ _ _ hF (by omega) (by omega) (by omega) (by omega)).mono ?_; rintro e w' ⟨rfl, n1, rfl⟩
  go_wp2_with fail
  refine (mul_in _ _ _ _ (hF.drewN _) (by omega) (by omega) (by omega) (by omega)).mono ?_; rintro e w' ⟨rfl, n2, rfl⟩
  go_wp2_with fail
  refine (inv_in _ _ _ (hF.drewN _) (by omega) (by omega)).mono ?_; rintro e w' ⟨rfl, n3, rfl⟩
  go_wp2_with fail
  refine (inv_out _ _ _ (by omega)).mono ?_; rintro e w' ⟨rfl, rfl⟩
  go_wp2_with fail
  refine (mul_out _ _ _ _ (by omega)).mono ?_; rintro e w' ⟨rfl, rfl⟩
  have e2 : KH.mul 83 202 = 1 := row_mul1
  have e3 : KH.mul 2 128 = 27 := row_mul2
  have e4 : KH.inv 3 = 246 := row_inv
  go_wp2
  go_ret
  exact ⟨rfl, below_drewN hb _⟩
end Go.Proofs.Ytdeoibgedjbeiaa
