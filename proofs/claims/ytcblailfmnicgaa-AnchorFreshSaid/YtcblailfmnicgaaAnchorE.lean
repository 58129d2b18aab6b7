/- The walks over rows held against one another, and of Enough. -/
import Derived.Test.YtcblailfmnicgaaAnchorD
namespace Go.Proofs.Ytcblailfmnicgaa
open Go.RowKit

theorem take_eq_snoc {l m : List Int} {k : Nat} {x : Int} (h : l.take k = m.take k) (h1 : l[k]? = some x) (h2 : m[k]? = some x) : l.take (k + 1) = m.take (k + 1) := by
  rw [List.take_add_one, List.take_add_one, h, h1, h2]

theorem ints_any {B B' n m : Nat} {A A' : Option Addr} (c c' : Nat) {l l' : List Int} {w : World} (h : KH.Reads w B 1 A n (l.map (.int .i64))) (h' : KH.Reads w B' 1 A' m (l'.map (.int .i64))) (hn : n ≤ maxLen) (hm : m ≤ maxLen) :
    Calls Try.prog 17 #[.slice A n c, .slice A' m c'] w fun e w' => e = .returned (.bool (decide (l = l'))) ∧ ∃ q, w' = w.drewN q := by
  unfold maxLen at hn hm
  have hl : l.length = n := by have := h.1; simpa using this
  have hl' : l'.length = m := by have := h'.1; simpa using this
  by_cases hnm : n = m
  · subst hnm
    have HL := KH.hid (And.intro hl hl'); clear hl hl'
    go_enter Try.func17, Try.ntmps17
    go_wp2
    go_loopw [5] (fun i wr => ∃ k q : Nat, k ≤ n ∧ i = .int .i64 k ∧ l.take k = l'.take k ∧ wr = w.drewN q) (fun i _ => n - (intOf i).toNat)
    case atStart => exact ⟨0, 0, Nat.zero_le _, rfl, rfl, rfl⟩
    case round =>
      obtain ⟨k, q, hk, rfl, htk, rfl⟩ := hrel
      have HT := KH.hid htk; clear htk
      by_cases hlt : k < n
      · obtain ⟨ad, x, rfl, _, hx, hc⟩ := h.int hlt
        obtain ⟨ad', y, rfl, _, hy, hc'⟩ := h'.int hlt
        have HX := KH.hid (And.intro hx hy); clear hx hy
        by_cases hxy : x = y
        · subst hxy
          have hne : (x != x) = false := by simp
          go_wp2
          go_quiet (fail)
          go_wp2
          go_roundw
          case rel => exact ⟨k + 1, _, by omega, by go_num, take_eq_snoc HT.out HX.out.1 HX.out.2, rfl⟩
          case measure => simp [intOf]; omega
        · have hne : (x != y) = true := by simpa using hxy
          have HF : Hid (decide (l = l') = false) := by
            unfold Hid
            rw [decide_eq_false_iff_not]; rintro rfl
            have h1 := HX.out.1; rw [HX.out.2] at h1; injection h1 with h1; exact hxy h1.symm
          clear hxy
          go_wp2
          go_quiet (fail)
          go_wp2
          go_ret
          exact ⟨KH.ret_bool HF.out.symm, _, KH.dd⟩
      · obtain rfl : k = n := by omega
        have HF : Hid (decide (l = l') = true) := by
          unfold Hid
          rw [decide_eq_true_iff]
          have h1 := HT.out
          rw [List.take_of_length_le (by have := HL.out.1; omega), List.take_of_length_le (by have := HL.out.2; omega)] at h1
          exact h1
        go_wp2
        go_ret
        exact ⟨KH.ret_bool HF.out.symm, _, rfl⟩
  · have HF : Hid (decide (l = l') = false) := by
      unfold Hid
      rw [decide_eq_false_iff_not]; rintro rfl; omega
    have hne : ((n : Int) != (m : Int)) = true := by simp; omega
    clear hl hl' hnm
    go_enter Try.func17, Try.ntmps17
    go_wp2
    go_ret
    exact ⟨KH.ret_bool HF.out.symm, 0, rfl⟩

/-- are they enough? -/
def enoughB (n k a f : Int) : Bool := decide (n ≤ 16 ∧ 1 ≤ k ∧ k ≤ n ∧ 1 ≤ a ∧ a ≤ n ∧ 0 ≤ f ∧ f < k ∧ f ≤ k + a - n - 1)

theorem enough_any (n k a f : Int) (w : World) :
    Calls Try.prog 9 #[.int .i64 n, .int .i64 k, .int .i64 a, .int .i64 f] w fun e w' => e = .returned (.bool (enoughB n k a f)) ∧ w = w' := by
  by_cases h : n ≤ 16 ∧ 1 ≤ k ∧ k ≤ n ∧ 1 ≤ a ∧ a ≤ n
  · obtain ⟨h1, h2, h3, h4, h5⟩ := h
    by_cases h6 : 0 ≤ f
    · by_cases h7 : f < k
      · by_cases h8 : f ≤ k + a - n - 1
        · have HE : Hid (enoughB n k a f = true) := by unfold Hid enoughB; rw [decide_eq_true_iff]; omega
          go_enter Try.func9, Try.ntmps9
          go_wp2
          go_ret
          exact ⟨KH.ret_bool HE.out.symm, rfl⟩
        · have HE : Hid (enoughB n k a f = false) := by unfold Hid enoughB; rw [decide_eq_false_iff_not]; omega
          have hd : decide (f ≤ k + a - n - 1) = false := by simp; omega
          go_enter Try.func9, Try.ntmps9
          go_wp2
          go_ret
          exact ⟨KH.ret_bool HE.out.symm, rfl⟩
      · have HE : Hid (enoughB n k a f = false) := by unfold Hid enoughB; rw [decide_eq_false_iff_not]; omega
        have hd : decide (f < k) = false := by simp; omega
        go_enter Try.func9, Try.ntmps9
        go_wp2
        go_ret
        exact ⟨KH.ret_bool HE.out.symm, rfl⟩
    · have HE : Hid (enoughB n k a f = false) := by unfold Hid enoughB; rw [decide_eq_false_iff_not]; omega
      have hd : decide (0 ≤ f) = false := by simp; omega
      go_enter Try.func9, Try.ntmps9
      go_wp2
      go_ret
      exact ⟨KH.ret_bool HE.out.symm, rfl⟩
  · have HE : Hid (enoughB n k a f = false) := by unfold Hid enoughB; rw [decide_eq_false_iff_not]; omega
    have h' : 16 < n ∨ (n ≤ 16 ∧ k < 1) ∨ (n ≤ 16 ∧ 1 ≤ k ∧ n < k) ∨ (n ≤ 16 ∧ 1 ≤ k ∧ k ≤ n ∧ a < 1) ∨ (n ≤ 16 ∧ 1 ≤ k ∧ k ≤ n ∧ 1 ≤ a ∧ n < a) := by omega
    clear h
    rcases h' with h' | ⟨h1, h'⟩ | ⟨h1, h2, h'⟩ | ⟨h1, h2, h3, h'⟩ | ⟨h1, h2, h3, h4, h'⟩
    all_goals
      go_enter Try.func9, Try.ntmps9
      go_wp2
      go_ret
      exact ⟨KH.ret_bool HE.out.symm, rfl⟩

theorem rEnough_any (n k a f : Int) (w : World) :
    Calls Try.prog 10 #[.int .i64 n, .int .i64 k, .int .i64 a, .int .i64 f] w fun e w' => e = .returned (.bool (enoughB n k a f)) ∧ w = w' := by
  by_cases h : n ≤ 16 ∧ 1 ≤ k ∧ k ≤ n ∧ 1 ≤ a ∧ a ≤ n ∧ 0 ≤ f ∧ f < k
  · obtain ⟨h1, h2, h3, h4, h5, h6, h7⟩ := h
    by_cases h8 : f ≤ k + a - n - 1
    · have HE : Hid (enoughB n k a f = true) := by unfold Hid enoughB; rw [decide_eq_true_iff]; omega
      go_enter Try.func10, Try.ntmps10
      go_wp2
      go_ret
      exact ⟨KH.ret_bool HE.out.symm, rfl⟩
    · have HE : Hid (enoughB n k a f = false) := by unfold Hid enoughB; rw [decide_eq_false_iff_not]; omega
      have hd : decide (f ≤ k + a - n - 1) = false := by simp; omega
      go_enter Try.func10, Try.ntmps10
      go_wp2
      go_ret
      exact ⟨KH.ret_bool HE.out.symm, rfl⟩
  · have HE : Hid (enoughB n k a f = false) := by unfold Hid enoughB; rw [decide_eq_false_iff_not]; omega
    by_cases h1 : 1 ≤ k
    · by_cases h2 : k ≤ n
      · by_cases h3 : 1 ≤ a
        · by_cases h4 : a ≤ n
          · by_cases h5 : n ≤ 16
            · by_cases h6 : 0 ≤ f
              · have hd : decide (f < k) = false := by simp; omega
                clear h
                go_enter Try.func10, Try.ntmps10
                go_wp2
                go_ret
                exact ⟨KH.ret_bool HE.out.symm, rfl⟩
              · have hd : decide (0 ≤ f) = false := by simp; omega
                clear h
                go_enter Try.func10, Try.ntmps10
                go_wp2
                go_ret
                exact ⟨KH.ret_bool HE.out.symm, rfl⟩
            · have hd : decide (n ≤ 16) = false := by simp; omega
              clear h
              go_enter Try.func10, Try.ntmps10
              go_wp2
              go_ret
              exact ⟨KH.ret_bool HE.out.symm, rfl⟩
          · have hd : decide (a ≤ n) = false := by simp; omega
            clear h
            go_enter Try.func10, Try.ntmps10
            go_wp2
            go_ret
            exact ⟨KH.ret_bool HE.out.symm, rfl⟩
        · have hd : decide (1 ≤ a) = false := by simp; omega
          clear h
          go_enter Try.func10, Try.ntmps10
          go_wp2
          go_ret
          exact ⟨KH.ret_bool HE.out.symm, rfl⟩
      · have hd : decide (k ≤ n) = false := by simp; omega
        clear h
        go_enter Try.func10, Try.ntmps10
        go_wp2
        go_ret
        exact ⟨KH.ret_bool HE.out.symm, rfl⟩
    · have hd : decide (1 ≤ k) = false := by simp; omega
      clear h
      go_enter Try.func10, Try.ntmps10
      go_wp2
      go_ret
      exact ⟨KH.ret_bool HE.out.symm, rfl⟩
end Go.Proofs.Ytcblailfmnicgaa
