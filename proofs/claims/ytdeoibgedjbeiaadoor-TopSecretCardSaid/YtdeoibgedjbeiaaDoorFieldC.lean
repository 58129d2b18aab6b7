/- The walks of package field: products, inverses, quotients, powers. -/
import Derived.Test.YtdeoibgedjbeiaaDoorFieldB
import Derived.Outline
import Derived.Deep.QuietTactic
import Derived.BigQuiet
namespace Go.Proofs.YtdeoibgedjbeiaaDoor
open Go.RowKit

theorem FieldAt.below {b : Nat} {w w' : World} (h : FieldAt b w) (hb : Below w.heap.size w w') (hl : b < w.heap.size) : FieldAt b w' :=
  ⟨fun j hj => by rw [hb.cell (p := ⟨b, j, none⟩) hl]; exact h.num j hj, fun j hj => by rw [hb.cell (p := ⟨b, 256 + j, none⟩) hl]; exact h.dig j hj⟩

theorem made_any (b : Nat) (w : World) (h : FieldAt b w) :
    Calls Tryd.prog 41 #[.pointer (some ⟨b, 0, none⟩)] w fun e w' => e = .returned (.pointer (some ⟨b, 0, none⟩)) ∧ w = w' := by
  have h0 : w.cell? ⟨b, 256, none⟩ = some (.int .i64 1) := h.dig 0 (by omega)
  go_enter Tryd.func41, Tryd.ntmps41
  go_wp2
  go_ret
  exact ⟨rfl, rfl⟩

set_option maxRecDepth 100000 in
theorem mul_in (b : Nat) (x y : Int) (w : World) (h : FieldAt b w) (hx0 : 0 ≤ x) (hx1 : x ≤ 255) (hy0 : 0 ≤ y) (hy1 : y ≤ 255) :
    Calls Tryd.prog 27 #[.pointer (some ⟨b, 0, none⟩), .int .i64 x, .int .i64 y] w fun e w' => e = .returned (.tuple #[.int .i64 (KH.mul x.toNat y.toNat : Nat), .bool true]) ∧ ∃ n, w' = w.drewN n := by
  obtain ⟨n, rfl⟩ := Int.eq_ofNat_of_zero_le hx0
  obtain ⟨m, rfl⟩ := Int.eq_ofNat_of_zero_le hy0
  rw [Int.toNat_natCast, Int.toNat_natCast]
  by_cases hn : n = 0
  · subst hn
    go_enter Tryd.func27, Tryd.ntmps27
    go_wp2_with fail
    refine (isDigit_in _ _ (by omega) (by omega)).mono ?_; rintro e w' ⟨rfl, rfl⟩
    go_wp2_with fail
    refine (isDigit_in _ _ (by omega) (by omega)).mono ?_; rintro e w' ⟨rfl, rfl⟩
    go_wp2
    go_ret2
    exact ⟨by rw [KH.zero_mul]; rfl, 0, rfl⟩
  · have hn' : ((n : Int) == 0) = false := by simp; omega
    by_cases hm : m = 0
    · subst hm
      have HN := KH.hid hn; clear hn
      go_enter Tryd.func27, Tryd.ntmps27
      go_wp2_with fail
      refine (isDigit_in _ _ (by omega) (by omega)).mono ?_; rintro e w' ⟨rfl, rfl⟩
      go_wp2_with fail
      refine (isDigit_in _ _ (by omega) (by omega)).mono ?_; rintro e w' ⟨rfl, rfl⟩
      go_wp2
      go_ret2
      exact ⟨by rw [KH.mul_zero]; rfl, 0, rfl⟩
    · have hm' : ((m : Int) == 0) = false := by simp; omega
      have hc1 := h.num n (by omega)
      have hc2 := h.num m (by omega)
      have hl1 := KH.lg_lt n (by omega)
      have hl2 := KH.lg_lt m (by omega)
      have hc3 := h.dig ((KH.lg n + KH.lg m) % 255) (by omega)
      have HN := KH.hid (KH.mul_ne hn hm); clear hn hm
      generalize KH.lg n = p at *
      generalize KH.lg m = q at *
      go_enter Tryd.func27, Tryd.ntmps27
      go_wp2_with fail
      refine (isDigit_in _ _ (by omega) (by omega)).mono ?_; rintro e w' ⟨rfl, rfl⟩
      go_wp2_with fail
      refine (isDigit_in _ _ (by omega) (by omega)).mono ?_; rintro e w' ⟨rfl, rfl⟩
      go_wp2_with fail
      refine (made_any _ _ h).mono ?_; rintro e w' ⟨rfl, rfl⟩
      go_wp2
      go_quiet (fail)
      go_wp2
      go_ret2
      exact ⟨KH.ret_int_bool (by rw [HN.out]) rfl, _, rfl⟩

/-- what is no digit, or no field -/
theorem mul_out (b : Nat) (x y : Int) (w : World) (h : (x < 0 ∨ 255 < x) ∨ (y < 0 ∨ 255 < y)) :
    Calls Tryd.prog 27 #[.pointer (some ⟨b, 0, none⟩), .int .i64 x, .int .i64 y] w fun e w' => e = .returned (.tuple #[.int .i64 0, .bool false]) ∧ w = w' := by
  by_cases ha : x < 0 ∨ 255 < x
  · go_enter Tryd.func27, Tryd.ntmps27
    go_wp2_with (go_at_call 40; refine (isDigit_out _ _ ha).mono ?_; rintro e w' ⟨rfl, rfl⟩)
    go_ret2
    exact ⟨rfl, rfl⟩
  · have hb : y < 0 ∨ 255 < y := by omega
    have ha0 : 0 ≤ x := by omega
    have ha1 : x ≤ 255 := by omega
    go_enter Tryd.func27, Tryd.ntmps27
    go_wp2_with fail
    refine (isDigit_in _ _ ha0 ha1).mono ?_; rintro e w' ⟨rfl, rfl⟩
    go_wp2_with fail
    refine (isDigit_out _ _ hb).mono ?_; rintro e w' ⟨rfl, rfl⟩
    go_wp2
    go_ret2
    exact ⟨rfl, rfl⟩

theorem mul_nil (x y : Int) (w : World) :
    Calls Tryd.prog 27 #[.pointer none, .int .i64 x, .int .i64 y] w fun e w' => e = .returned (.tuple #[.int .i64 0, .bool false]) ∧ w = w' := by
  go_enter Tryd.func27, Tryd.ntmps27
  go_wp2
  go_ret2
  exact ⟨rfl, rfl⟩

set_option maxRecDepth 100000 in
theorem inv_in (b : Nat) (x : Int) (w : World) (h : FieldAt b w) (hx0 : 1 ≤ x) (hx1 : x ≤ 255) :
    Calls Tryd.prog 28 #[.pointer (some ⟨b, 0, none⟩), .int .i64 x] w fun e w' => e = .returned (.tuple #[.int .i64 (KH.inv x.toNat : Nat), .bool true]) ∧ ∃ n, w' = w.drewN n := by
  obtain ⟨n, rfl⟩ := Int.eq_ofNat_of_zero_le (show 0 ≤ x by omega)
  rw [Int.toNat_natCast]
  have hn' : ((n : Int) == 0) = false := by simp; omega
  have hc1 := h.num n (by omega)
  have hl1 := KH.lg_lt n (by omega)
  have hc3 := h.dig ((255 - KH.lg n) % 255) (by omega)
  have HN : Hid (KH.inv n = KH.ex ((255 - KH.lg n) % 255)) := rfl
  generalize KH.lg n = p at *
  have hs : (255 : Int) - (p : Int) = ((255 - p : Nat) : Int) := by omega
  have HS := KH.hid hs; clear hs
  go_enter Tryd.func28, Tryd.ntmps28
  go_wp2_with fail
  refine (isDigit_in _ _ (by omega) (by omega)).mono ?_; rintro e w' ⟨rfl, rfl⟩
  go_wp2_with fail
  refine (made_any _ _ h).mono ?_; rintro e w' ⟨rfl, rfl⟩
  go_wp2
  have hs := HS.out
  go_quiet (fail)
  go_wp2
  go_ret2
  exact ⟨KH.ret_int_bool (by rw [HN.out]) rfl, _, rfl⟩

theorem inv_out (b : Nat) (x : Int) (w : World) (h : x ≤ 0 ∨ 255 < x) :
    Calls Tryd.prog 28 #[.pointer (some ⟨b, 0, none⟩), .int .i64 x] w fun e w' => e = .returned (.tuple #[.int .i64 0, .bool false]) ∧ w = w' := by
  by_cases h0 : x = 0
  · subst h0
    go_enter Tryd.func28, Tryd.ntmps28
    go_wp2_with fail
    refine (isDigit_in _ _ (by omega) (by omega)).mono ?_; rintro e w' ⟨rfl, rfl⟩
    go_wp2
    go_ret2
    exact ⟨rfl, rfl⟩
  · have h' : x < 0 ∨ 255 < x := by omega
    clear h h0
    go_enter Tryd.func28, Tryd.ntmps28
    go_wp2_with fail
    refine (isDigit_out _ _ h').mono ?_; rintro e w' ⟨rfl, rfl⟩
    go_wp2
    go_ret2
    exact ⟨rfl, rfl⟩

theorem inv_nil (x : Int) (w : World) :
    Calls Tryd.prog 28 #[.pointer none, .int .i64 x] w fun e w' => e = .returned (.tuple #[.int .i64 0, .bool false]) ∧ w = w' := by
  go_enter Tryd.func28, Tryd.ntmps28
  go_wp2
  go_ret2
  exact ⟨rfl, rfl⟩
end Go.Proofs.YtdeoibgedjbeiaaDoor
