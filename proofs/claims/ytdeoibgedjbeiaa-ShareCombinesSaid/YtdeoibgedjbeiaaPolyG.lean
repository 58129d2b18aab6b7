/- The walk of the document's Places. -/
import Derived.Test.YtdeoibgedjbeiaaPolyF
namespace Go.Proofs.Ytdeoibgedjbeiaa
open Go.RowKit

set_option maxRecDepth 100000 in
theorem rPlaces_any {B n : Nat} {A : Option Addr} (c : Nat) {l : List Int} {w : World} (h : KH.Reads w B 1 A n (l.map (.int .i64))) (hn : n ≤ maxLen) :
    Calls Try.prog 35 #[.slice A n c] w fun e w' => e = .returned (.bool (placesB l)) ∧ ∃ q, w' = w.drewN q := by
  have hn9 : n ≤ 9223372036854775807 := by unfold maxLen at hn; omega
  have hl : l.length = n := by have := h.1; simpa using this
  have HL := KH.hid hl; clear hl
  go_enter Try.func35, Try.ntmps35
  go_wp2
  go_loopw [3] (fun i wr => ∃ k q : Nat, k ≤ n ∧ i = .int .i64 k ∧ Hid ((l.take k).Nodup) ∧ wr = w.drewN q) (fun i _ => n - (intOf i).toNat)
  case atStart => exact ⟨0, 0, Nat.zero_le _, rfl, by unfold Hid; simp, rfl⟩
  case round =>
    obtain ⟨k, q, hk, rfl, HN, rfl⟩ := hrel
    by_cases hlt : k < n
    · obtain ⟨ad, x, rfl, _, hx, hc⟩ := h.int hlt
      have HX := KH.hid hx; clear hx
      go_wp2
      go_loopw [4] (fun i wr => ∃ j q : Nat, j ≤ k ∧ i = .int .i64 j ∧ Hid (x ∉ l.take j) ∧ wr = w.drewN q) (fun i _ => k - (intOf i).toNat)
      case atStart => exact ⟨0, q, Nat.zero_le _, rfl, by unfold Hid; simp, rfl⟩
      case round =>
        obtain ⟨j, q2, hj, rfl, HM, rfl⟩ := hrel
        by_cases hjk : j < k
        · obtain ⟨ad', y, hA, _, hy, hc'⟩ := h.int (show j < n by omega)
          injection hA with hA
          subst hA
          have HY := KH.hid hy; clear hy
          have k0 : (0 : Int) ≤ (k : Int) := by omega
          have k1 : (k : Int) < (n : Int) := by omega
          have j0 : (0 : Int) ≤ (j : Int) := by omega
          have j1 : (j : Int) < (n : Int) := by omega
          by_cases hxy : x = y
          · have hbe : (x == y) = true := by simpa using hxy
            have HF : Hid (placesB l = false) := by
              unfold Hid placesB
              rw [decide_eq_false, Bool.false_and]
              intro ⟨_, _, hnd⟩
              have hp := List.pairwise_iff_getElem.1 hnd j k (by have := HL.out; omega) (by have := HL.out; omega) hjk
              have h1 := HX.out; have h2 := HY.out
              rw [List.getElem?_eq_getElem (by have := HL.out; omega)] at h1 h2
              injection h1 with h1; injection h2 with h2
              exact hp (by rw [h1, h2]; exact hxy.symm)
            clear hxy
            go_wp2
            go_quiet (fail)
            go_wp2
            go_ret
            exact ⟨KH.ret_bool HF.out.symm, _, KH.dd⟩
          · have hbe : (x == y) = false := by simpa using hxy
            have HM2 : Hid (x ∉ l.take (j + 1)) := by
              unfold Hid
              rw [List.take_add_one, HY.out, List.mem_append]
              rintro (h1 | h1)
              · exact HM.out h1
              · simp at h1; exact hxy h1
            clear hxy
            go_wp2
            go_quiet (fail)
            go_wp2
            go_roundw
            case rel => exact ⟨j + 1, _, by omega, by go_num, HM2, rfl⟩
            case measure => simp [intOf]; omega
        · obtain rfl : j = k := by omega
          have HN2 : Hid ((l.take (j + 1)).Nodup) := by
            unfold Hid
            have hjl : j < l.length := by have := HL.out; omega
            rw [take_nodup l j hjl]
            refine ⟨HN.out, ?_⟩
            have : l.getD j 0 = x := by rw [List.getD, HX.out]; rfl
            rw [this]; exact HM.out
          go_wp2
          go_roundw
          case rel => exact ⟨j + 1, q2, by omega, by go_num, HN2, rfl⟩
          case measure => simp [intOf]; omega
    · obtain rfl : k = n := by omega
      have hnd : l.Nodup := by have := HN.out; rw [List.take_of_length_le (by have := HL.out; omega)] at this; exact this
      clear HN
      have hrq := h.drewN q
      by_cases h1 : 1 ≤ k
      · by_cases h2 : k ≤ 255
        · have HF : Hid (placesB l = allB l) := by unfold Hid placesB; rw [decide_eq_true ⟨by have := HL.out; omega, by have := HL.out; omega, hnd⟩]; rfl
          clear hnd
          go_wp2_with fail
          refine (rAll_any _ hrq hn).mono ?_; rintro e w' ⟨rfl, rfl⟩
          go_wp2
          go_ret
          exact ⟨KH.ret_bool HF.out.symm, _, rfl⟩
        · have HF : Hid (placesB l = false) := by unfold Hid placesB; rw [decide_eq_false (by have := HL.out; omega)]; rfl
          have hd : decide (k ≤ 255) = false := by simp; omega
          clear hnd
          go_wp2
          go_ret
          exact ⟨KH.ret_bool HF.out.symm, _, rfl⟩
      · have HF : Hid (placesB l = false) := by unfold Hid placesB; rw [decide_eq_false (by have := HL.out; omega)]; rfl
        have hd : decide (1 ≤ k) = false := by simp; omega
        clear hnd
        go_wp2
        go_ret
        exact ⟨KH.ret_bool HF.out.symm, _, rfl⟩
end Go.Proofs.Ytdeoibgedjbeiaa
