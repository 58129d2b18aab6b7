/- The document's Split. -/
import Derived.Test.YtdeoibgedjbeiaaShareF
namespace Go.Proofs.Ytdeoibgedjbeiaa
open Go.RowKit

theorem rsplit_no (secret : ByteArray) (n k : Int) (tape : ByteArray) (w : World) (hs : secret.size ≤ maxLen) (ht : tape.size ≤ maxLen) (hk : splitK secret n k tape = false) :
    Calls Try.prog 40 #[.string secret, .int .i64 n, .int .i64 k, .string tape] w (SplitPost w secret n k tape) := by
  have HP : Hid (SplitPost w secret n k tape (.returned (.tuple #[.slice none 0 0, .int .i64 1])) w) := by
    have hv : splitV secret n k tape = [] := by unfold splitV; rw [hk]; rfl
    exact ⟨none, 0, 0, by rw [hk]; rfl, by rw [hv]; exact World.ownsRow_nil _ _ _ _, Below.refl _ _, by rw [hv]; rfl⟩
  have hs9 : secret.size ≤ 9223372036854775807 := by unfold maxLen at hs; exact hs
  have ht9 : tape.size ≤ 9223372036854775807 := by unfold maxLen at ht; exact ht
  unfold splitK at hk
  rw [decide_eq_false_iff_not] at hk
  by_cases c1 : secret.size = 32
  · have hsb : ((secret.size : Int) != 32) = false := by simp [c1]
    have hcs : n < 1 ∨ (1 ≤ n ∧ 255 < n) ∨ (1 ≤ n ∧ n ≤ 255 ∧ k < 1) ∨ (1 ≤ n ∧ n ≤ 255 ∧ 1 ≤ k ∧ n < k) ∨ (1 ≤ n ∧ n ≤ 255 ∧ 1 ≤ k ∧ k ≤ n ∧ (tape.size : Int) ≠ 32 * (k - 1)) := by omega
    clear hk c1
    rcases hcs with h | ⟨h1, h⟩ | ⟨h1, h2, h⟩ | ⟨h1, h2, h3, h⟩ | ⟨h1, h2, h3, h4, h⟩
    · go_enter Try.func40, Try.ntmps40
      go_wp2
      go_ret2
      exact HP.out
    · go_enter Try.func40, Try.ntmps40
      go_wp2
      go_ret2
      exact HP.out
    · go_enter Try.func40, Try.ntmps40
      go_wp2
      go_ret2
      exact HP.out
    · go_enter Try.func40, Try.ntmps40
      go_wp2
      go_ret2
      exact HP.out
    · have hne : ((tape.size : Int) != 32 * (k - 1)) = true := by simpa using h
      clear h
      go_enter Try.func40, Try.ntmps40
      go_wp2
      go_ret2
      exact HP.out
  · have hsb : ((secret.size : Int) != 32) = true := by simp; omega
    clear hk c1
    go_enter Try.func40, Try.ntmps40
    go_wp2
    go_ret2
    exact HP.out

theorem bl_snoc (k : Nat) (F : Nat → Nat) : bl (k + 1) F = bl k F ++ [.int .u8 (F k : Nat)] := by
  unfold bl; rw [List.range_succ, List.map_append]; rfl
theorem splitL_snoc (secret tape : ByteArray) (i k : Nat) : shC (splitL secret tape (i + 1) k) = shC (splitL secret tape i k) ++ [.int .i64 ((i : Int) + 1), .string (tx 32 (shv secret tape k i))] := by
  unfold splitL shC; rw [List.range_succ, List.map_append, List.flatMap_append]; rfl
theorem splitL_length (secret tape : ByteArray) (n k : Nat) : (splitL secret tape n k).length = n := by simp [splitL]

set_option maxHeartbeats 1000000 in
set_option maxRecDepth 100000 in
theorem rsplit_yes (secret : ByteArray) (n k : Nat) (tape : ByteArray) (w : World) (hs : secret.size = 32) (hn1 : 1 ≤ n) (hn2 : n ≤ 255) (hk1 : 1 ≤ k) (hk2 : k ≤ n) (ht : tape.size = 32 * (k - 1)) :
    Calls Try.prog 40 #[.string secret, .int .i64 n, .int .i64 k, .string tape] w (SplitPost w secret n k tape) := by
  have hK : splitK secret n k tape = true := by unfold splitK; rw [decide_eq_true_iff]; omega
  have HV : Hid (splitK secret n k tape = true ∧ splitV secret n k tape = splitL secret tape n k) := ⟨hK, by unfold splitV; rw [hK]; rfl⟩
  clear hK
  obtain ⟨i1, hi1, hy0, hy1, hy2⟩ := info_parts byte_info
  obtain ⟨i2, hi2, hx0, hx1, hx2⟩ := info_parts share_row
  have hsb : ((secret.size : Int) != 32) = false := by simp [hs]
  have htb : ((tape.size : Int) != 32 * ((k : Int) - 1)) = false := by simp; omega
  have htz : tape.size ≤ 9223372036854775807 := by omega
  have HS := KH.hid (And.intro hs ht)
  have d1 : decide ((n : Int) < 1) = false := by simp; omega
  have d2 : decide ((255 : Int) < n) = false := by simp; omega
  have d3 : decide ((k : Int) < 1) = false := by simp; omega
  have d4 : decide (n < k) = false := by simp; omega
  clear hs ht
  go_enter Try.func40, Try.ntmps40
  go_wp2
  go_loopw [10, 11] (fun v i wr => ∃ i' : Nat, i' ≤ n ∧ i = .int .i64 ((i' : Int) + 1) ∧ wr.ownsRow w.heap.size 55 2 v i' (shC (splitL secret tape i' k)) ∧ Below w.heap.size w wr) (fun _ i _ => n + 1 - (intOf i).toNat)
  case atStart => exact ⟨0, Nat.zero_le _, rfl, World.ownsRow_nil _ _ _ _, Below.refl _ _⟩
  case round =>
    obtain ⟨i, hin, rfl, hown, hb⟩ := hrel
    have hsz := hb.size
    by_cases hil : i < n
    · have hd46 : decide ((i : Int) + 1 ≤ (n : Int)) = true := by simp; omega
      go_wp2
      obtain ⟨wo, hwo⟩ : ∃ wo : World, wo = wr := ⟨_, rfl⟩
      subst hwo
      go_loopw [12, 13] (fun v i' wr => ∃ j : Nat, j ≤ 32 ∧ i' = .int .i64 j ∧ wr.ownsRow wo.heap.size 5 1 v j (bl j (shv secret tape k i)) ∧ Below wo.heap.size wo wr) (fun _ i' _ => 32 - (intOf i').toNat)
      case atStart => exact ⟨0, by omega, rfl, World.ownsRow_nil _ _ _ _, Below.refl _ _⟩
      case round =>
        obtain ⟨j, hj, rfl, hown5, hb5⟩ := hrel
        have hsz5 := hb5.size
        by_cases hlt : j < 32
        · have hEK : evalK (rowL secret tape j (k - 1)) ((i : Int) + 1) = true := evalK_iff.2 ⟨by rw [rowL_length]; omega, rowL_all _ _ _ _, dgB_iff.2 (by omega)⟩
          have hEV : evalV (rowL secret tape j (k - 1)) ((i : Int) + 1) = (shv secret tape k i j : Nat) := by
            rw [evalV_eq hEK]; unfold shv; rw [show ((i : Int) + 1).toNat = i + 1 by omega]
          have HE := KH.hid (And.intro hEK hEV)
          clear hEK hEV
          have h255 := shv_lt secret tape k i j
          have HST := KH.hid (bl_snoc j (shv secret tape k i))
          go_wp2_with fail
          refine (rrow_any secret tape j k wr hlt HS.out.1 hk1 (by omega) HS.out.2).mono ?_; rintro e w4 ⟨gl, cl, rfl, hol, hb4⟩
          have hrl := KH.Reads.of_own hol
          have hown4 := KH.own_below hown5 hb4
          have hb45 := hb5.trans (hb4.mono hsz5)
          have hsz4 := hb45.size
          clear hol hown5 hb5 hb4
          go_wp2_with fail
          refine (reval_told _ hrl (by unfold maxLen; omega) ((i : Int) + 1)).mono ?_; rintro e w' ⟨rfl, rfl⟩
          rw [HE.out.1, HE.out.2]
          generalize shv secret tape k i j = y at *
          go_wp2_with (at_builtin; refine KH.wpList_append_one rfl (.tmp 63) (.tmp 66) 73 rfl wo.heap.size 5 i1 _ 1 Try.underlying73 hi1 hy0 hy1 hy2 rfl _ j _ rfl (hown4.alloc _) w4.heap.size 1 (.int .u8 y) rfl ?c1 rfl ?c3 ?c4 ?c5 ?_)
          first | (case c1 => simp) | skip
          case c3 => unfold maxLen; omega
          case c4 => omega
          case c5 => first | omega | (simp; omega)
          intro v1 w1' hown1 hb1
          have hb2 := (hb45.alloc hsz4 (.cells #[.int .u8 y] 5)).trans hb1
          clear hown4 hb45 hrl
          go_wp2
          go_roundw
          case rel => exact ⟨j + 1, by omega, by go_num, by rw [HST.out]; exact hown1, hb2⟩
          case measure => simp [intOf]; omega
        · obtain rfl : j = 32 := by omega
          rw [bl_map] at hown5
          have hback := conv_own hown5
          have hownA := KH.own_below hown hb5
          have hbA := hb.trans (hb5.mono hsz)
          have hszA := hbA.size
          have HTX : Hid (strOfNums ((List.range 32).map fun o => ((shv secret tape k i o : Nat) : Int)) = tx 32 (shv secret tape k i)) := rfl
          have HSP := KH.hid (splitL_snoc secret tape i k)
          rw [HTX.out] at hback
          generalize tx 32 (shv secret tape k i) = s at *
          clear hown hb hown5 hb5
          go_wp2_with (at_builtin; refine KH.wpList_append_two rfl (.tmp 68) (.tmp 73) 43 rfl w.heap.size 55 i2 _ 24 Try.underlying43 hi2 hx0 hx1 hx2 rfl _ i _ rfl (hownA.alloc _) wr.heap.size 1 (.int .i64 ((i : Int) + 1)) (.string s) rfl ?d1 ?d2 rfl rfl ?d3 ?d4 ?d5 ?_)
          first | (case d1 => simp) | skip
          first | (case d2 => simp) | skip
          case d3 => unfold maxLen; omega
          case d4 => omega
          case d5 => first | omega | (simp; omega)
          intro v1 w1' hown1 hb1
          have hb2 := (hbA.alloc hszA (.cells #[.int .i64 ((i : Int) + 1), .string s] 55)).trans hb1
          clear hownA hbA hback
          go_wp2
          go_roundw
          case rel => exact ⟨i + 1, by omega, by go_num, by rw [HSP.out]; exact hown1, hb2⟩
          case measure => simp [intOf]; omega
    · obtain rfl : i = n := by omega
      obtain ⟨A', c', rfl⟩ := KH.own_form hown
      go_wp2
      go_ret2
      exact ⟨_, _, _, by rw [HV.out.1]; rfl, by rw [HV.out.2]; exact hown, hb, by rw [HV.out.2]; exact splitL_length _ _ _ _⟩

theorem rsplit_told (secret : ByteArray) (n k : Int) (tape : ByteArray) (w : World) (hs : secret.size ≤ maxLen) (ht : tape.size ≤ maxLen) :
    Calls Try.prog 40 #[.string secret, .int .i64 n, .int .i64 k, .string tape] w (SplitPost w secret n k tape) := by
  cases hk : splitK secret n k tape
  · exact rsplit_no secret n k tape w hs ht hk
  · have h := hk
    unfold splitK at h
    rw [decide_eq_true_iff] at h
    obtain ⟨h1, h2, h3, h4, h5, h6⟩ := h
    obtain ⟨n', rfl⟩ := Int.eq_ofNat_of_zero_le (show 0 ≤ n by omega)
    obtain ⟨k', rfl⟩ := Int.eq_ofNat_of_zero_le (show 0 ≤ k by omega)
    exact rsplit_yes secret n' k' tape w h1 (by omega) (by omega) (by omega) (by omega) (by omega)
end Go.Proofs.Ytdeoibgedjbeiaa
