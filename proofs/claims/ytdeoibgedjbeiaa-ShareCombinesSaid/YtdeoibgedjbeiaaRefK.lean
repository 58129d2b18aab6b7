/- The walks of the document's Right, zero, places. -/
import Derived.Test.YtdeoibgedjbeiaaShareE
import Derived.Test.YtdeoibgedjbeiaaShareF
namespace Go.Proofs.Ytdeoibgedjbeiaa
open Go.RowKit

set_option maxHeartbeats 1000000 in
set_option maxRecDepth 100000 in
theorem rRight_any {B n : Nat} {A : Option Addr} (c : Nat) {l : List (Int × ByteArray)} {w : World} (h : ShIn w B A n l) (hn : n ≤ maxLen) (hsz : ∀ p ∈ l, p.2.size ≤ maxLen) :
    Calls Try.prog 77 #[.slice A n c] w fun e w' => e = .returned (.bool (rightS l 0)) ∧ ∃ q, w' = w.drewN q := by
  have hn9 : n ≤ 9223372036854775807 := by unfold maxLen at hn; omega
  have hl := h.len
  have HL := KH.hid hl; clear hl
  have HSZ := KH.hid hsz; clear hsz
  go_enter Try.func77, Try.ntmps77
  go_wp2
  go_loopw [3] (fun i wr => ∃ k q : Nat, k ≤ n ∧ i = .int .i64 k ∧ Hid ((l.take k).all (okS 0) = true ∧ ((l.take k).map (·.1)).Nodup) ∧ wr = w.drewN q) (fun i _ => n - (intOf i).toNat)
  case atStart => exact ⟨0, 0, Nat.zero_le _, rfl, ⟨by simp, by simp⟩, rfl⟩
  case round =>
    obtain ⟨k, q, hk, rfl, HO, rfl⟩ := hrel
    by_cases hlt : k < n
    · obtain ⟨ad, x, b, rfl, _, hx, hc1, hc2⟩ := h.at_ hlt
      have HX := KH.hid hx; clear hx
      have hbz := HSZ.out _ (List.mem_of_getElem? HX.out)
      have hbz' : b.size ≤ 9223372036854775807 := by unfold maxLen at hbz; exact hbz
      by_cases hx1 : 0 ≤ x
      · by_cases hx2 : x ≤ 255
        · by_cases hs32 : b.size = 32
          · have hsb : ((b.size : Int) != 32) = false := by simp [hs32]
            have HOK : Hid (okS 0 (x, b) = true) := by unfold Hid okS; rw [decide_eq_true]; exact ⟨hx1, hx2, hs32⟩
            clear hs32
            go_wp2
            go_loopw [4] (fun i wr => ∃ j q : Nat, j ≤ k ∧ i = .int .i64 j ∧ Hid (x ∉ (l.take j).map (·.1)) ∧ wr = w.drewN q) (fun i _ => k - (intOf i).toNat)
            case atStart => exact ⟨0, q, Nat.zero_le _, rfl, by unfold Hid; simp, rfl⟩
            case round =>
              obtain ⟨j, q2, hj, rfl, HM, rfl⟩ := hrel
              by_cases hjk : j < k
              · obtain ⟨ad', y, b', hA, _, hy, hc1', hc2'⟩ := h.at_ (show j < n by omega)
                injection hA with hA
                subst hA
                have HY := KH.hid hy; clear hy
                have k0 : (0 : Int) ≤ (k : Int) := by omega
                have k1 : (k : Int) < (n : Int) := by omega
                have j0 : (0 : Int) ≤ (j : Int) := by omega
                have j1 : (j : Int) < (n : Int) := by omega
                by_cases hxy : y = x
                · have hbe : (y == x) = true := by simpa using hxy
                  have HF : Hid (rightS l 0 = false) := by
                    refine right_bad HX.out (Or.inr ?_)
                    refine List.mem_map.2 ⟨(y, b'), ?_, hxy⟩
                    refine List.mem_of_getElem? (i := j) ?_
                    rw [List.getElem?_take_of_lt hjk]; exact HY.out
                  clear hxy hc2 hc2'
                  go_wp2
                  go_quiet (fail)
                  go_wp2
                  go_ret
                  exact ⟨KH.ret_bool HF.out.symm, _, KH.dd⟩
                · have hbe : (y == x) = false := by simpa using hxy
                  have HM2 : Hid (x ∉ (l.take (j + 1)).map (·.1)) := by
                    unfold Hid
                    rw [List.take_add_one, HY.out, List.map_append, List.mem_append]
                    rintro (h1 | h1)
                    · exact HM.out h1
                    · simp at h1; exact hxy h1.symm
                  clear hxy hc2 hc2'
                  go_wp2
                  go_quiet (fail)
                  go_wp2
                  go_roundw
                  case rel => exact ⟨j + 1, _, by omega, by go_num, HM2, rfl⟩
                  case measure => simp [intOf]; omega
              · obtain rfl : j = k := by omega
                have HN : Hid _ := right_step HX.out HO.out.1 HO.out.2 HOK.out HM.out
                go_wp2
                go_roundw
                case rel => exact ⟨j + 1, q2, by omega, by go_num, ⟨HN.out.1, HN.out.2.1⟩, rfl⟩
                case measure => simp [intOf]; omega
          · have hsb : ((b.size : Int) != 32) = true := by simp; omega
            have HF : Hid (rightS l 0 = false) := right_bad HX.out (Or.inl (by unfold okS; rw [decide_eq_false]; rintro ⟨_, _, h⟩; exact hs32 h))
            clear hs32
            go_wp2
            go_ret
            exact ⟨KH.ret_bool HF.out.symm, _, rfl⟩
        · have HF : Hid (rightS l 0 = false) := right_bad HX.out (Or.inl (by unfold okS; rw [decide_eq_false]; rintro ⟨_, h, _⟩; exact hx2 h))
          go_wp2
          go_ret
          exact ⟨KH.ret_bool HF.out.symm, _, rfl⟩
      · have HF : Hid (rightS l 0 = false) := right_bad HX.out (Or.inl (by unfold okS; rw [decide_eq_false]; rintro ⟨h, _, _⟩; exact hx1 h))
        go_wp2
        go_ret
        exact ⟨KH.ret_bool HF.out.symm, _, rfl⟩
    · obtain rfl : k = n := by omega
      have hO : (l.all (okS 0) = true ∧ (l.map (·.1)).Nodup) := by
        have h2 := HO.out
        rw [List.take_of_length_le (by have := HL.out; omega)] at h2
        exact h2
      have HO2 := KH.hid hO
      clear hO
      by_cases h1 : 1 ≤ k
      · by_cases h2 : k ≤ 255
        · have HF : Hid (rightS l 0 = true) := by
            unfold Hid rightS
            rw [HO2.out.1, Bool.and_true, decide_eq_true]
            exact ⟨by have := HL.out; omega, by have := HL.out; omega, HO2.out.2⟩
          have hd : decide ((k : Int) ≤ 255) = true := by simp; omega
          go_wp2
          go_ret
          exact ⟨KH.ret_bool HF.out.symm, _, rfl⟩
        · have HF : Hid (rightS l 0 = false) := by unfold Hid rightS; rw [decide_eq_false (by have := HL.out; omega)]; rfl
          have hd : decide ((k : Int) ≤ 255) = false := by simp; omega
          go_wp2
          go_ret
          exact ⟨KH.ret_bool HF.out.symm, _, rfl⟩
      · have HF : Hid (rightS l 0 = false) := by unfold Hid rightS; rw [decide_eq_false (by have := HL.out; omega)]; rfl
        have hd : decide (1 ≤ k) = false := by simp; omega
        go_wp2
        go_ret
        exact ⟨KH.ret_bool HF.out.symm, _, rfl⟩

/-- has one of the shares the place 0? -/
def zeroS (l : List (Int × ByteArray)) : Bool := l.any fun p => decide (p.1 = 0)
theorem zeroS_right {l : List (Int × ByteArray)} : (rightS l 0 && !zeroS l) = rightS l 1 := by
  rw [Bool.eq_iff_iff, Bool.and_eq_true, rightS_iff, rightS_iff, Bool.not_eq_true', zeroS, List.any_eq_false]
  constructor
  · rintro ⟨⟨h1, h2, h3, h4⟩, h5⟩
    refine ⟨h1, h2, h3, fun p hp => ?_⟩
    have := h4 p hp
    have h6 := h5 p hp
    simp at h6
    omega
  · rintro ⟨h1, h2, h3, h4⟩
    refine ⟨⟨h1, h2, h3, fun p hp => ?_⟩, fun p hp => ?_⟩
    · have := h4 p hp; omega
    · have := h4 p hp
      simp; omega

set_option maxRecDepth 100000 in
theorem rzero_any {B n : Nat} {A : Option Addr} (c : Nat) {l : List (Int × ByteArray)} {w : World} (h : ShIn w B A n l) (hn : n ≤ maxLen) :
    Calls Try.prog 78 #[.slice A n c] w fun e w' => e = .returned (.bool (zeroS l)) ∧ w = w' := by
  have hn9 : n ≤ 9223372036854775807 := by unfold maxLen at hn; omega
  have hl := h.len
  have HL := KH.hid hl; clear hl
  go_enter Try.func78, Try.ntmps78
  go_wp2
  go_loop [3] (fun i => ∃ k : Nat, k ≤ n ∧ i = .int .i64 k ∧ Hid (zeroS (l.take k) = false)) (fun i => n - (intOf i).toNat)
  case atStart => exact ⟨0, Nat.zero_le _, rfl, rfl⟩
  case round =>
    obtain ⟨k, hk, rfl, HZ⟩ := hrel
    by_cases hlt : k < n
    · obtain ⟨ad, x, b, rfl, _, hx, hc1, hc2⟩ := h.at_ hlt
      have HX := KH.hid hx; clear hx
      by_cases h0 : x = 0
      · have HF : Hid (zeroS l = true) := by
          unfold Hid zeroS
          rw [List.any_eq_true]
          exact ⟨_, List.mem_of_getElem? HX.out, by simp [h0]⟩
        have hb : (x == 0) = true := by simp [h0]
        clear h0
        go_wp2
        go_ret
        exact ⟨KH.ret_bool HF.out.symm, rfl⟩
      · have HF : Hid (zeroS (l.take (k + 1)) = false) := by
          unfold Hid zeroS
          have := HZ.out
          unfold zeroS at this
          rw [List.take_add_one, HX.out, List.any_append, this]
          simp [h0]
        have hb : (x == 0) = false := by simp [h0]
        clear h0
        go_wp2
        go_round
        case rel => exact ⟨k + 1, by omega, by go_num, HF⟩
        case measure => simp [intOf]; omega
    · obtain rfl : k = n := by omega
      have HF : Hid (zeroS l = false) := by
        have := HZ.out
        rw [List.take_of_length_le (by have := HL.out; omega)] at this
        exact this
      go_wp2
      go_ret
      exact ⟨KH.ret_bool HF.out.symm, rfl⟩
end Go.Proofs.Ytdeoibgedjbeiaa
