/- The walks of the document's answer for package field: sums, products, inverses, quotients, powers, told or refused. -/
import Derived.Test.YtdeoibgedjbeiaaRefG
namespace Go.Proofs.Ytdeoibgedjbeiaa
open Go.RowKit

theorem rAdd_in (a b : Int) (w : World) (h0 : 0 ≤ a) (h1 : a ≤ 255) (h2 : 0 ≤ b) (h3 : b ≤ 255) :
    Calls Try.prog 22 #[.int .i64 a, .int .i64 b] w fun e w' => e = .returned (.tuple #[.int .i64 (a.toNat ^^^ b.toNat : Nat), .bool true]) ∧ w = w' := by
  go_enter Try.func22, Try.ntmps22
  go_wp2_with fail
  refine (rDigit_in _ _ h0 h1).mono ?_; rintro e w' ⟨rfl, rfl⟩
  go_wp2_with fail
  refine (rDigit_in _ _ h2 h3).mono ?_; rintro e w' ⟨rfl, rfl⟩
  go_wp2_with fail
  refine (sum_any _ _ _ (by omega) (by omega) (by omega) (by omega)).mono ?_; rintro e w' ⟨rfl, rfl⟩
  go_wp2
  go_ret2
  exact ⟨rfl, rfl⟩

theorem rAdd_out (a b : Int) (w : World) (h : (a < 0 ∨ 255 < a) ∨ (b < 0 ∨ 255 < b)) :
    Calls Try.prog 22 #[.int .i64 a, .int .i64 b] w fun e w' => e = .returned (.tuple #[.int .i64 0, .bool false]) ∧ w = w' := by
  by_cases ha : a < 0 ∨ 255 < a
  · clear h
    go_enter Try.func22, Try.ntmps22
    go_wp2_with fail
    refine (rDigit_out _ _ ha).mono ?_; rintro e w' ⟨rfl, rfl⟩
    go_wp2
    go_ret2
    exact ⟨rfl, rfl⟩
  · have hb : b < 0 ∨ 255 < b := by omega
    have ha0 : 0 ≤ a := by omega
    have ha1 : a ≤ 255 := by omega
    clear h ha
    go_enter Try.func22, Try.ntmps22
    go_wp2_with fail
    refine (rDigit_in _ _ ha0 ha1).mono ?_; rintro e w' ⟨rfl, rfl⟩
    go_wp2_with fail
    refine (rDigit_out _ _ hb).mono ?_; rintro e w' ⟨rfl, rfl⟩
    go_wp2
    go_ret2
    exact ⟨rfl, rfl⟩

theorem rMul_in (a b : Int) (w : World) (h0 : 0 ≤ a) (h1 : a ≤ 255) (h2 : 0 ≤ b) (h3 : b ≤ 255) :
    Calls Try.prog 23 #[.int .i64 a, .int .i64 b] w fun e w' => e = .returned (.tuple #[.int .i64 (KH.mul a.toNat b.toNat : Nat), .bool true]) ∧ w = w' := by
  go_enter Try.func23, Try.ntmps23
  go_wp2_with fail
  refine (rDigit_in _ _ h0 h1).mono ?_; rintro e w' ⟨rfl, rfl⟩
  go_wp2_with fail
  refine (rDigit_in _ _ h2 h3).mono ?_; rintro e w' ⟨rfl, rfl⟩
  go_wp2_with fail
  refine (times_any _ _ _ h0 h1 h2 h3).mono ?_; rintro e w' ⟨rfl, rfl⟩
  go_wp2
  go_ret2
  exact ⟨rfl, rfl⟩

theorem rMul_out (a b : Int) (w : World) (h : (a < 0 ∨ 255 < a) ∨ (b < 0 ∨ 255 < b)) :
    Calls Try.prog 23 #[.int .i64 a, .int .i64 b] w fun e w' => e = .returned (.tuple #[.int .i64 0, .bool false]) ∧ w = w' := by
  by_cases ha : a < 0 ∨ 255 < a
  · clear h
    go_enter Try.func23, Try.ntmps23
    go_wp2_with fail
    refine (rDigit_out _ _ ha).mono ?_; rintro e w' ⟨rfl, rfl⟩
    go_wp2
    go_ret2
    exact ⟨rfl, rfl⟩
  · have hb : b < 0 ∨ 255 < b := by omega
    have ha0 : 0 ≤ a := by omega
    have ha1 : a ≤ 255 := by omega
    clear h ha
    go_enter Try.func23, Try.ntmps23
    go_wp2_with fail
    refine (rDigit_in _ _ ha0 ha1).mono ?_; rintro e w' ⟨rfl, rfl⟩
    go_wp2_with fail
    refine (rDigit_out _ _ hb).mono ?_; rintro e w' ⟨rfl, rfl⟩
    go_wp2
    go_ret2
    exact ⟨rfl, rfl⟩

theorem rInv_in (a : Int) (w : World) (h0 : 1 ≤ a) (h1 : a ≤ 255) :
    Calls Try.prog 25 #[.int .i64 a] w fun e w' => e = .returned (.tuple #[.int .i64 (KH.inv a.toNat : Nat), .bool true]) ∧ w = w' := by
  obtain ⟨a, rfl⟩ := Int.eq_ofNat_of_zero_le (show 0 ≤ a by omega)
  rw [Int.toNat_natCast]
  have hz : ((a : Int) == 0) = false := by simp; omega
  have hi := KH.inv_lt a
  have hi0 := KH.inv_ne_zero a
  have HI : Hid (KH.mul a (KH.inv a) = 1) := KH.mul_inv (by omega) (by omega)
  have HU : Hid (∀ n, n < 256 → KH.mul a n = 1 → n = KH.inv a) := fun n hn e => KH.inv_unique (by omega) hn e
  have hi1 : 1 ≤ KH.inv a := by omega
  clear hi0
  generalize KH.inv a = v at *
  go_enter Try.func25, Try.ntmps25
  go_wp2_with fail
  refine (rDigit_in _ _ (by omega) (by omega)).mono ?_; rintro e w' ⟨rfl, rfl⟩
  go_wp2_with fail
  go_loop [4] (fun n => ∃ k : Nat, 1 ≤ k ∧ k ≤ v ∧ n = .int .i64 k) (fun n => v - (intOf n).toNat)
  case atStart => exact ⟨1, by omega, by omega, rfl⟩
  case round =>
    obtain ⟨k, hk1, hk, rfl⟩ := hrel
    by_cases hkv : KH.mul a k = 1
    · have HK : Hid (k = v) := HU.out k (by omega) hkv
      have hne : (((KH.mul a k : Nat) : Int) != 1) = false := by simp [hkv]
      clear hkv
      go_wp2_with fail
      refine (times_any _ _ _ (by omega) (by omega) (by omega) (by omega)).mono ?_; rintro e w' ⟨rfl, rfl⟩
      go_wp2
      go_ret2
      exact ⟨KH.ret_int_bool (by rw [HK.out]) rfl, rfl⟩
    · have hlt : k < v := by
        rcases Nat.lt_or_ge k v with h | h
        · exact h
        · exact absurd (by rw [show k = v by omega]; exact HI.out) hkv
      have hne : (((KH.mul a k : Nat) : Int) != 1) = true := by rw [bne_iff_ne]; intro h; exact hkv (by omega)
      clear hkv
      go_wp2_with fail
      refine (times_any _ _ _ (by omega) (by omega) (by omega) (by omega)).mono ?_; rintro e w' ⟨rfl, rfl⟩
      go_wp2
      go_round
      case rel => exact ⟨k + 1, by omega, by omega, by go_num⟩
      case measure => simp [intOf]; omega

theorem rInv_out (a : Int) (w : World) (h : a ≤ 0 ∨ 255 < a) :
    Calls Try.prog 25 #[.int .i64 a] w fun e w' => e = .returned (.tuple #[.int .i64 0, .bool false]) ∧ w = w' := by
  by_cases h0 : a = 0
  · subst h0
    clear h
    go_enter Try.func25, Try.ntmps25
    go_wp2_with fail
    refine (rDigit_in _ _ (by omega) (by omega)).mono ?_; rintro e w' ⟨rfl, rfl⟩
    go_wp2
    go_ret2
    exact ⟨rfl, rfl⟩
  · have h' : a < 0 ∨ 255 < a := by omega
    clear h h0
    go_enter Try.func25, Try.ntmps25
    go_wp2_with fail
    refine (rDigit_out _ _ h').mono ?_; rintro e w' ⟨rfl, rfl⟩
    go_wp2
    go_ret2
    exact ⟨rfl, rfl⟩

theorem rDiv_in (a b : Int) (w : World) (h0 : 0 ≤ a) (h1 : a ≤ 255) (h2 : 1 ≤ b) (h3 : b ≤ 255) :
    Calls Try.prog 27 #[.int .i64 a, .int .i64 b] w fun e w' => e = .returned (.tuple #[.int .i64 (KH.mul a.toNat (KH.inv b.toNat) : Nat), .bool true]) ∧ w = w' := by
  have hi := KH.inv_lt b.toNat
  go_enter Try.func27, Try.ntmps27
  go_wp2_with fail
  refine (rInv_in _ _ h2 h3).mono ?_; rintro e w' ⟨rfl, rfl⟩
  go_wp2_with fail
  refine (rDigit_in _ _ h0 h1).mono ?_; rintro e w' ⟨rfl, rfl⟩
  go_wp2_with fail
  refine (times_any _ _ _ h0 h1 (by omega) (by omega)).mono ?_; rintro e w' ⟨rfl, rfl⟩
  go_wp2
  go_ret2
  exact ⟨rfl, rfl⟩

theorem rDiv_out (a b : Int) (w : World) (h : (a < 0 ∨ 255 < a) ∨ (b ≤ 0 ∨ 255 < b)) :
    Calls Try.prog 27 #[.int .i64 a, .int .i64 b] w fun e w' => e = .returned (.tuple #[.int .i64 0, .bool false]) ∧ w = w' := by
  by_cases hb : b ≤ 0 ∨ 255 < b
  · clear h
    go_enter Try.func27, Try.ntmps27
    go_wp2_with fail
    refine (rInv_out _ _ hb).mono ?_; rintro e w' ⟨rfl, rfl⟩
    go_wp2
    go_ret2
    exact ⟨rfl, rfl⟩
  · have ha : a < 0 ∨ 255 < a := by omega
    have hb0 : 1 ≤ b := by omega
    have hb1 : b ≤ 255 := by omega
    clear h hb
    go_enter Try.func27, Try.ntmps27
    go_wp2_with fail
    refine (rInv_in _ _ hb0 hb1).mono ?_; rintro e w' ⟨rfl, rfl⟩
    go_wp2_with fail
    refine (rDigit_out _ _ ha).mono ?_; rintro e w' ⟨rfl, rfl⟩
    go_wp2
    go_ret2
    exact ⟨rfl, rfl⟩

theorem rPow_in (a n : Int) (w : World) (h0 : 0 ≤ a) (h1 : a ≤ 255) (h2 : 0 ≤ n) (h3 : n ≤ 1000000) :
    Calls Try.prog 29 #[.int .i64 a, .int .i64 n] w fun e w' => e = .returned (.tuple #[.int .i64 (KH.pow a.toNat n.toNat : Nat), .bool true]) ∧ w = w' := by
  obtain ⟨a, rfl⟩ := Int.eq_ofNat_of_zero_le h0
  obtain ⟨n, rfl⟩ := Int.eq_ofNat_of_zero_le h2
  rw [Int.toNat_natCast, Int.toNat_natCast]
  by_cases hc : a = 0 ∧ 0 < n
  · obtain ⟨rfl, hn⟩ := hc
    have HP : Hid (KH.pow 0 n = 0) := by unfold Hid KH.pow; rw [if_neg (by omega)]; rfl
    go_enter Try.func29, Try.ntmps29
    go_wp2_with fail
    refine (rDigit_in _ _ (by omega) (by omega)).mono ?_; rintro e w' ⟨rfl, rfl⟩
    go_wp2
    go_ret2
    exact ⟨KH.ret_int_bool (by rw [HP.out]; rfl) rfl, rfl⟩
  · have HP : Hid (KH.pow a (n % 255) = KH.pow a n) := by
      unfold Hid
      by_cases ha : a = 0
      · obtain rfl : n = 0 := by omega
        rfl
      · exact KH.pow_mod ha n
    have hm : n % 255 < 255 := Nat.mod_lt _ (by omega)
    have HM : Hid ((n : Int) % 255 = ((n % 255 : Nat) : Int)) := by unfold Hid; omega
    have hcase : (((a : Int) == 0) = false) ∨ (((a : Int) == 0) = true ∧ ¬ 0 < n) := by
      by_cases ha : a = 0
      · right; exact ⟨by simp [ha], fun h => hc ⟨ha, h⟩⟩
      · left; simpa using ha
    clear hc
    rcases hcase with hz | ⟨hz, hn0⟩
    · generalize hR : n % 255 = r at *
      have HR := KH.hid hR; clear hR
      go_enter Try.func29, Try.ntmps29
      go_wp2_with fail
      refine (rDigit_in _ _ (by omega) (by omega)).mono ?_; rintro e w' ⟨rfl, rfl⟩
      go_wp2_with fail
      go_loop [6, 7] (fun s i => ∃ k : Nat, k ≤ r ∧ i = .int .i64 k ∧ s = .int .i64 (KH.pow a k : Nat)) (fun _ i => r - (intOf i).toNat)
      case atStart => exact ⟨0, by omega, rfl, rfl⟩
      case round =>
        obtain ⟨k, hk, rfl, rfl⟩ := hrel
        have hp := KH.pow_lt a k
        by_cases hlt : k < r
        · have HS := KH.hid (KH.pow_succ (a := a) (by omega) k)
          have hm1 : (k : Int) < (n : Int) % 255 := by rw [HM.out]; omega
          generalize KH.pow a k = s at *
          go_wp2_with fail
          refine (times_any _ _ _ (by omega) (by omega) (by omega) (by omega)).mono ?_; rintro e w' ⟨rfl, rfl⟩
          go_wp2
          go_round
          case rel => exact ⟨k + 1, by omega, by go_num, by rw [HS.out]⟩
          case measure => simp [intOf]; omega
        · obtain rfl : k = r := by omega
          have hm1 : ¬ (k : Int) < (n : Int) % 255 := by rw [HM.out]; omega
          rw [HP.out]
          go_wp2
          go_ret2
          exact ⟨rfl, rfl⟩
    · obtain rfl : n = 0 := by omega
      clear HM hm hn0 HP
      have hd : decide ((0 : Int) > 0) = false := by simp
      go_enter Try.func29, Try.ntmps29
      go_wp2_with fail
      refine (rDigit_in _ _ (by omega) (by omega)).mono ?_; rintro e w' ⟨rfl, rfl⟩
      go_wp2_with fail
      go_loop [6, 7] (fun s i => s = .int .i64 1 ∧ i = .int .i64 0) (fun _ _ => 0)
      case atStart => exact ⟨rfl, rfl⟩
      case round =>
        obtain ⟨rfl, rfl⟩ := hrel
        go_wp2
        go_ret2
        exact ⟨KH.ret_int_bool (by unfold KH.pow; rw [if_pos rfl]; rfl) rfl, rfl⟩

theorem rPow_out (a n : Int) (w : World) (h : (a < 0 ∨ 255 < a) ∨ (n < 0 ∨ 1000000 < n)) :
    Calls Try.prog 29 #[.int .i64 a, .int .i64 n] w fun e w' => e = .returned (.tuple #[.int .i64 0, .bool false]) ∧ w = w' := by
  by_cases ha : a < 0 ∨ 255 < a
  · clear h
    go_enter Try.func29, Try.ntmps29
    go_wp2_with fail
    refine (rDigit_out _ _ ha).mono ?_; rintro e w' ⟨rfl, rfl⟩
    go_wp2
    go_ret2
    exact ⟨rfl, rfl⟩
  · have ha0 : 0 ≤ a := by omega
    have ha1 : a ≤ 255 := by omega
    rcases (show n < 0 ∨ 1000000 < n by omega) with hn | hn
    all_goals
      clear h ha
      go_enter Try.func29, Try.ntmps29
      go_wp2_with fail
      refine (rDigit_in _ _ ha0 ha1).mono ?_; rintro e w' ⟨rfl, rfl⟩
      go_wp2
      go_ret2
      exact ⟨rfl, rfl⟩
end Go.Proofs.Ytdeoibgedjbeiaa
