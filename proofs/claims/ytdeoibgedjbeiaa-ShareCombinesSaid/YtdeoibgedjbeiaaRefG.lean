/- The walks of the document's answer for package field. -/
import Derived.Test.YtdeoibgedjbeiaaFieldA
import Derived.Test.YtdeoibgedjbeiaaGf
namespace Go.Proofs.Ytdeoibgedjbeiaa
open Go.RowKit

theorem xor_mod2 (x y : Nat) : (x ^^^ y) % 2 = if x % 2 = y % 2 then 0 else 1 := by
  have := Nat.xor_mod_two_pow (a := x) (b := y) (n := 1)
  simp only [Nat.pow_one] at this
  rw [this]
  rcases Nat.mod_two_eq_zero_or_one x with h | h <;> rcases Nat.mod_two_eq_zero_or_one y with h' | h' <;> rw [h, h'] <;> rfl

theorem unlike_step (a b k : Nat) : (a ^^^ b) % 2 ^ (k + 1) = (a ^^^ b) % 2 ^ k + if a / 2 ^ k % 2 = b / 2 ^ k % 2 then 0 else 2 ^ k := by
  have h := xor_mod2 (a / 2 ^ k) (b / 2 ^ k)
  rw [← Nat.xor_div_two_pow] at h
  rw [Nat.pow_succ, Nat.mod_mul, h]
  split <;> simp

set_option maxHeartbeats 400000 in
set_option maxRecDepth 100000 in
theorem unlike_any (a b : Int) (w : World) (ha0 : 0 ≤ a) (ha1 : a < 4294967296) (hb0 : 0 ≤ b) (hb1 : b < 4294967296) :
    Calls Try.prog 76 #[.int .i64 a, .int .i64 b] w fun e w' => e = .returned (.int .i64 (a.toNat ^^^ b.toNat : Nat)) ∧ w = w' := by
  obtain ⟨a, rfl⟩ := Int.eq_ofNat_of_zero_le ha0
  obtain ⟨b, rfl⟩ := Int.eq_ofNat_of_zero_le hb0
  rw [Int.toNat_natCast, Int.toNat_natCast]
  have HF : Hid ((a ^^^ b) % 2 ^ 32 = a ^^^ b) := Nat.mod_eq_of_lt (Nat.xor_lt_two_pow (by omega) (by omega))
  have hA : a ≤ 4294967296 := by omega
  have hB : b ≤ 4294967296 := by omega
  clear ha0 ha1 hb0 hb1
  go_enter Try.func76, Try.ntmps76
  go_wp2
  go_loop [0, 1, 5, 6, 7] (fun p q n r i => ∃ k : Nat, k ≤ 32 ∧ i = .int .i64 k ∧ p = .int .i64 (a / 2 ^ k : Nat) ∧ q = .int .i64 (b / 2 ^ k : Nat) ∧ n = .int .i64 ((a ^^^ b) % 2 ^ k : Nat) ∧ r = .int .i64 (2 ^ k : Nat)) (fun _ _ _ _ i => 32 - (intOf i).toNat)
  case atStart => exact ⟨0, by omega, rfl, by simp, by simp, by simp [Nat.mod_one], rfl⟩
  case round =>
    obtain ⟨k, hk, rfl, rfl, rfl, rfl, rfl⟩ := hrel
    by_cases hlt : k < 32
    · have hp : 2 ^ k ≤ 2 ^ 32 := Nat.pow_le_pow_right (by omega) hk
      have hp0 : 0 < 2 ^ k := Nat.pow_pos (by omega)
      have hs := unlike_step a b k
      have hx : a / 2 ^ k ≤ a := Nat.div_le_self _ _
      have hy : b / 2 ^ k ≤ b := Nat.div_le_self _ _
      have hz : (a ^^^ b) % 2 ^ k < 2 ^ k := Nat.mod_lt _ hp0
      have HA : Hid (a / 2 ^ (k + 1) = a / 2 ^ k / 2) := by unfold Hid; rw [Nat.pow_succ, Nat.div_div_eq_div_mul]
      have HB : Hid (b / 2 ^ (k + 1) = b / 2 ^ k / 2) := by unfold Hid; rw [Nat.pow_succ, Nat.div_div_eq_div_mul]
      have HP : Hid (2 ^ (k + 1) = 2 * 2 ^ k) := by unfold Hid; rw [Nat.pow_succ, Nat.mul_comm]
      have HS := KH.hid hs; clear hs
      have hp' : 2 ^ k ≤ 4294967296 := hp
      clear hp
      generalize a / 2 ^ k = x at *
      generalize b / 2 ^ k = y at *
      generalize (a ^^^ b) % 2 ^ k = z at *
      generalize 2 ^ k = p at *
      by_cases hxy : x % 2 = y % 2
      · have hne : ((x : Int) % 2 != (y : Int) % 2) = false := by simp; omega
        have HS2 : Hid ((a ^^^ b) % 2 ^ (k + 1) = z) := by unfold Hid; rw [HS.out, if_pos hxy]; rfl
        clear hxy
        go_wp2
        go_round
        case rel => exact ⟨k + 1, by omega, by go_num, by rw [HA.out]; go_num, by rw [HB.out]; go_num, by rw [HS2.out], by rw [HP.out]; go_num⟩
        case measure => simp [intOf]; omega
      · have hne : ((x : Int) % 2 != (y : Int) % 2) = true := by simp; omega
        have HS2 : Hid ((a ^^^ b) % 2 ^ (k + 1) = z + p) := by unfold Hid; rw [HS.out, if_neg hxy]
        clear hxy
        go_wp2
        go_round
        case rel => exact ⟨k + 1, by omega, by go_num, by rw [HA.out]; go_num, by rw [HB.out]; go_num, by rw [HS2.out]; go_num, by rw [HP.out]; go_num⟩
        case measure => simp [intOf]; omega
    · obtain rfl : k = 32 := by omega
      rw [HF.out]
      go_wp2
      go_ret
      exact ⟨rfl, rfl⟩

theorem sum_any (a b : Int) (w : World) (ha0 : 0 ≤ a) (ha1 : a < 4294967296) (hb0 : 0 ≤ b) (hb1 : b < 4294967296) :
    Calls Try.prog 57 #[.int .i64 a, .int .i64 b] w fun e w' => e = .returned (.int .i64 (a.toNat ^^^ b.toNat : Nat)) ∧ w = w' := by
  go_enter Try.func57, Try.ntmps57
  go_wp2_with fail
  refine (unlike_any _ _ _ ha0 ha1 hb0 hb1).mono ?_; rintro e w' ⟨rfl, rfl⟩
  go_wp2
  go_ret
  exact ⟨rfl, rfl⟩

theorem rDigit_in (a : Int) (w : World) (h0 : 0 ≤ a) (h1 : a ≤ 255) :
    Calls Try.prog 56 #[.int .i64 a] w fun e w' => e = .returned (.bool true) ∧ w = w' := by
  go_enter Try.func56, Try.ntmps56
  go_wp2
  go_ret
  exact ⟨rfl, rfl⟩

theorem rDigit_out (a : Int) (w : World) (h : a < 0 ∨ 255 < a) :
    Calls Try.prog 56 #[.int .i64 a] w fun e w' => e = .returned (.bool false) ∧ w = w' := by
  rcases h with h | h
  · go_enter Try.func56, Try.ntmps56
    go_wp2
    go_ret
    exact ⟨rfl, rfl⟩
  · have h' : ¬ a < 0 := by omega
    have hd : decide (a ≤ 255) = false := by simp; omega
    go_enter Try.func56, Try.ntmps56
    go_wp2
    go_ret
    exact ⟨rfl, rfl⟩

theorem rdouble_in (a : Int) (w : World) (h0 : 0 ≤ a) (h1 : a ≤ 255) :
    Calls Try.prog 84 #[.int .i64 a] w fun e w' => e = .returned (.int .i64 (KH.dbl a.toNat : Nat)) ∧ w = w' := by
  by_cases h : 2 * a < 256
  · go_enter Try.func84, Try.ntmps84
    go_wp2
    go_ret
    exact ⟨KH.ret_int (by unfold KH.dbl; rw [if_pos (by omega)]; omega), rfl⟩
  · go_enter Try.func84, Try.ntmps84
    go_wp2_with fail
    refine (sum_any _ _ _ (by omega) (by omega) (by omega) (by omega)).mono ?_; rintro e w' ⟨rfl, rfl⟩
    have hv : KH.dbl a.toNat = (2 * a - 256).toNat ^^^ Int.toNat 27 := by
      unfold KH.dbl; rw [if_neg (by omega)]
      rw [show (2 * a - 256).toNat = 2 * a.toNat - 256 by omega]; rfl
    rw [← hv]
    clear hv
    go_wp2
    go_ret
    exact ⟨rfl, rfl⟩

theorem times_step (n a b : Nat) (ha : a < 256) (hb : b < 256) : (n ^^^ if b % 2 = 1 then a else 0) ^^^ KH.mul (KH.dbl a) (b / 2) = n ^^^ KH.mul a b := by
  rw [KH.mul_half ha hb, Nat.xor_assoc, Nat.xor_comm (KH.mul _ _)]

theorem times_any (a b : Int) (w : World) (ha0 : 0 ≤ a) (ha1 : a ≤ 255) (hb0 : 0 ≤ b) (hb1 : b ≤ 255) :
    Calls Try.prog 58 #[.int .i64 a, .int .i64 b] w fun e w' => e = .returned (.int .i64 (KH.mul a.toNat b.toNat : Nat)) ∧ w = w' := by
  obtain ⟨a, rfl⟩ := Int.eq_ofNat_of_zero_le ha0
  obtain ⟨b, rfl⟩ := Int.eq_ofNat_of_zero_le hb0
  rw [Int.toNat_natCast, Int.toNat_natCast]
  go_enter Try.func58, Try.ntmps58
  go_wp2
  go_loop [0, 1, 5] (fun p q s => ∃ x y n : Nat, x ≤ 255 ∧ y ≤ 255 ∧ n ≤ 255 ∧ p = .int .i64 x ∧ q = .int .i64 y ∧ s = .int .i64 n ∧ Hid (n ^^^ KH.mul x y = KH.mul a b)) (fun _ q _ => (intOf q).toNat)
  case atStart => exact ⟨a, b, 0, by omega, by omega, by omega, rfl, rfl, rfl, by unfold Hid; rw [Nat.zero_xor]⟩
  case round =>
    obtain ⟨x, y, n, hx, hy, hn, rfl, rfl, rfl, HR⟩ := hrel
    by_cases h0 : 0 < y
    · have HS := KH.hid (times_step n x y (by omega) (by omega))
      have hd := KH.dbl_lt x (by omega)
      by_cases h1 : y % 2 = 1
      · have hb1 : ((y : Int) % 2 == 1) = true := by simp; omega
        have HS2 : Hid ((n ^^^ x) ^^^ KH.mul (KH.dbl x) (y / 2) = KH.mul a b) := by
          unfold Hid; rw [← HR.out, ← HS.out, if_pos h1]
        have hnx := KH.xor_lt (a := n) (b := x) (by omega) (by omega)
        clear h1
        go_wp2_with fail
        refine (sum_any _ _ _ (by omega) (by omega) (by omega) (by omega)).mono ?_; rintro e w' ⟨rfl, rfl⟩
        go_wp2_with fail
        refine (rdouble_in _ _ (by omega) (by omega)).mono ?_; rintro e w' ⟨rfl, rfl⟩
        rw [Int.toNat_natCast]
        go_wp2
        go_round
        case rel => exact ⟨KH.dbl x, y / 2, n ^^^ x, by omega, by omega, by omega, rfl, by go_num, rfl, HS2⟩
        case measure => simp [intOf]; omega
      · have hb1 : ((y : Int) % 2 == 1) = false := by simp; omega
        have HS2 : Hid (n ^^^ KH.mul (KH.dbl x) (y / 2) = KH.mul a b) := by
          unfold Hid; rw [← HR.out, ← HS.out, if_neg h1, Nat.xor_zero]
        clear h1
        go_wp2_with fail
        refine (rdouble_in _ _ (by omega) (by omega)).mono ?_; rintro e w' ⟨rfl, rfl⟩
        rw [Int.toNat_natCast]
        go_wp2
        go_round
        case rel => exact ⟨KH.dbl x, y / 2, n, by omega, by omega, by omega, rfl, by go_num, rfl, HS2⟩
        case measure => simp [intOf]; omega
    · obtain rfl : y = 0 := by omega
      have HE : Hid (n = KH.mul a b) := by have := HR.out; rw [KH.mul_zero, Nat.xor_zero] at this; exact this
      go_wp2
      go_ret
      exact ⟨KH.ret_int (by rw [← HE.out]), rfl⟩
end Go.Proofs.Ytdeoibgedjbeiaa
