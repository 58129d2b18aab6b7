/- For any row, numbers, who answers, who lies and what: AnchorFresh returns true and turns nothing that was there: what at least a of n holders reach, the newest of enough answers reaches. No condition. -/
import Derived.Test.YtcblailfmnicgaaAnchorF
import Derived.Test.YtcblailfmnicgaaAnchorG
import Derived.Test.YtcblailfmnicgaaAnchorN
import Derived.Test.YtcblailfmnicgaaArgs
import Derived.WalkKit
import Derived.ProofKit
import Derived.OpenShut
import Derived.ShutString
import Derived.ChangeOld
import Derived.Below
namespace Go.Proofs.Ytcblailfmnicgaa.anchorFresh
open Go.ChangeShapes Go.WideShapes Go.ChangeAt Go.RowKit
open Go.ChangeMaps (open_string shut_string)
open KH (IntsIn ints_in BoolsIn bools_in StrsIn strs_in)
set_option linter.unusedVariables false

open KH
theorem bool_at {w : World} {B n : Nat} {A : Option Addr} {l : List Bool} (h : KH.Reads w B 1 A n (l.map .bool)) {k : Nat} (hk : k < n) :
    ∃ ad x, A = some ad ∧ ad.block < B ∧ l[k]? = some x ∧ w.cell? (ad.add k) = some (.bool x) := by
  obtain ⟨ad, u, hA, hb, hx, hc⟩ := h.at_ hk
  rw [List.getElem?_map] at hx
  cases hl : l[k]? with
  | none => rw [hl] at hx; cases hx
  | some x => rw [hl] at hx; injection hx with hx; subst hx; exact ⟨ad, x, hA, hb, rfl, hc⟩

set_option maxHeartbeats 4000000 in
set_option maxRecDepth 100000 in
theorem core {A : Option Addr} {n c : Nat} {l : List Int} {A3 A4 A5 : Option Addr} {n3 c3 n4 c4 n5 c5 : Nat} {who liar : List Bool} {lies : List Int} {w : World}
    (hr : KH.Reads w w.heap.size 1 A n (l.map (.int .i64))) (hl : l.length = n) (h16 : n ≤ 16) (hR : rightB l = true)
    (hr3 : KH.Reads w w.heap.size 1 A3 n3 (who.map .bool)) (hr4 : KH.Reads w w.heap.size 1 A4 n4 (liar.map .bool)) (hr5 : KH.Reads w w.heap.size 1 A5 n5 (lies.map (.int .i64)))
    (hl3 : who.length = n3) (hl4 : liar.length = n4) (hl5 : lies.length = n5) (hm3 : n3 ≤ 9223372036854775807) (hm4 : n4 ≤ 9223372036854775807) (hm5 : n5 ≤ 9223372036854775807) (g a : Int) :
    Calls Try.prog 5 #[.slice A n c, .int .i64 g, .int .i64 a, .slice A3 n3 c3, .slice A4 n4 c4, .slice A5 n5 c5] w fun e w' => e = .returned (.bool true) ∧ Below w.heap.size w w' := by
  obtain ⟨i0, hi, hz0, hz1, hz2⟩ := info_parts int_info
  have hn : n ≤ maxLen := by unfold maxLen; omega
  have HM := KH.hid (And.intro hl3 (And.intro hl4 hl5)); clear hl3 hl4 hl5
  have HL := KH.hid hl; clear hl
  have HR := KH.hid hR
  go_enter Try.func5, Try.ntmps5
  go_wp2_with fail
  refine (are_any _ hr hn).mono ?_; rintro e w' ⟨rfl, rfl⟩
  rw [hR]
  clear hR
  go_wp2_with fail
  go_loopw [14, 15, 16, 17, 18] (fun s t u v j wr => ∃ k m : Nat, k ≤ n ∧ j = .int .i64 k ∧ m ≤ k ∧ s = .int .i64 (kC who k : Nat) ∧ t = .int .i64 (fC who liar k : Nat) ∧ u = .int .i64 (rC l g k : Nat) ∧ wr.ownsRow w.heap.size 3 1 v m ((ans l who liar lies k).map (.int .i64)) ∧ Below w.heap.size w wr) (fun _ _ _ _ j _ => n - (intOf j).toNat)
  case atStart => exact ⟨0, 0, Nat.zero_le _, rfl, Nat.zero_le _, rfl, rfl, rfl, World.ownsRow_nil _ _ _ _, Below.refl _ _⟩
  case round =>
    obtain ⟨k, m, hk, rfl, hmk, rfl, rfl, rfl, hown, hb⟩ := hrel
    have hsz := hb.size
    have b1 := kC_le who k
    have b2 := fC_le who liar k
    have b3 := rC_le l g k
    by_cases hlt : k < n
    · obtain ⟨ad, x, rfl, _, hx, hc⟩ := (hr.below hb).int hlt
      have HX : Hid (l.getD k 0 = x) := by unfold Hid; rw [List.getD, hx]; rfl
      clear hx
      by_cases hg : g ≤ x
      · have HG : Hid (geB g x = true) := by unfold Hid geB; simpa using hg
        by_cases h3 : k < n3
        · obtain ⟨ad3, b3, rfl, _, hb3, hc3⟩ := bool_at (hr3.below hb) h3
          have HW : Hid (atB who k = b3) := by unfold Hid atB; rw [List.getD, hb3]; rfl
          clear hb3
          cases b3
          · skip
            have R1 : Hid (kC who (k + 1) = kC who k + 0) := by unfold Hid kC; rw [range_count, if_neg (by rw [HW.out]; simp)]
            have R2 : Hid (fC who liar (k + 1) = fC who liar k + 0) := by unfold Hid fC; rw [range_count, HW.out]; rfl
            have R3 : Hid (rC l g (k + 1) = rC l g k + 1) := by unfold Hid rC; rw [range_count, HX.out, HG.out]; rfl
            have R4 : Hid (ans l who liar lies (k + 1) = ans l who liar lies k ++ []) := by show _ ++ oneA l who liar lies k = _; unfold oneA; rw [if_neg (by rw [HW.out]; simp)]
            generalize kC who k = kk at *
            generalize fC who liar k = ff at *
            generalize rC l g k = rr at *
            generalize ans l who liar lies k = aa at *
            go_wp2
            go_roundw
            case rel => exact ⟨k + 1, m, by omega, by go_num, by omega, by rw [R1.out]; rfl, by rw [R2.out]; rfl, by rw [R3.out]; go_num, by rw [R4.out]; simpa using hown, hb⟩
            case measure => simp [intOf]; omega
          · skip
            by_cases h4 : k < n4
            · obtain ⟨ad4, b4, rfl, _, hb4, hc4⟩ := bool_at (hr4.below hb) h4
              have HL' : Hid (atB liar k = b4) := by unfold Hid atB; rw [List.getD, hb4]; rfl
              clear hb4
              cases b4
              · skip
                have R1 : Hid (kC who (k + 1) = kC who k + 1) := by unfold Hid kC; rw [range_count, if_pos HW.out]
                have R2 : Hid (fC who liar (k + 1) = fC who liar k + 0) := by unfold Hid fC; rw [range_count, HW.out, HL'.out]; rfl
                have R3 : Hid (rC l g (k + 1) = rC l g k + 1) := by unfold Hid rC; rw [range_count, HX.out, HG.out]; rfl
                have R4 : Hid (ans l who liar lies (k + 1) = ans l who liar lies k ++ [x]) := by show _ ++ oneA l who liar lies k = _; unfold oneA; rw [if_pos HW.out, if_neg (by rw [HL'.out]; simp), HX.out]
                generalize kC who k = kk at *
                generalize fC who liar k = ff at *
                generalize rC l g k = rr at *
                generalize ans l who liar lies k = aa at *
                go_wp2_with (at_builtin; refine KH.wpList_append_one rfl (.tmp 81) (.tmp 86) 24 rfl w.heap.size 3 i0 _ 8 Try.underlying24 hi hz0 hz1 hz2 rfl _ m _ rfl (hown.alloc _) wr.heap.size 1 (.int .i64 x) rfl ?c1x1 rfl ?c3x1 ?c4x1 ?c5x1 ?_)
                first | (case c1x1 => simp) | skip
                case c3x1 => unfold maxLen; omega
                case c4x1 => omega
                case c5x1 => first | omega | (simp; omega)
                intro v1 w1' hown1 hb1
                have hb2 := (hb.alloc hsz (.cells #[.int .i64 x] 3)).trans hb1
                clear hown hb
                go_wp2
                go_roundw
                case rel => exact ⟨k + 1, m + 1, by omega, by go_num, by omega, by rw [R1.out]; go_num, by rw [R2.out]; rfl, by rw [R3.out]; go_num, by rw [R4.out]; simpa using hown1, hb2⟩
                case measure => simp [intOf]; omega
              · skip
                by_cases h5 : k < n5
                · obtain ⟨ad5, y, rfl, _, hy, hc5⟩ := (hr5.below hb).int h5
                  have HY : Hid (lies.getD k 0 = y) := by unfold Hid; rw [List.getD, hy]; rfl
                  clear hy
                  have R1 : Hid (kC who (k + 1) = kC who k + 1) := by unfold Hid kC; rw [range_count, if_pos HW.out]
                  have R2 : Hid (fC who liar (k + 1) = fC who liar k + 1) := by unfold Hid fC; rw [range_count, HW.out, HL'.out]; rfl
                  have R3 : Hid (rC l g (k + 1) = rC l g k + 1) := by unfold Hid rC; rw [range_count, HX.out, HG.out]; rfl
                  have R4 : Hid (ans l who liar lies (k + 1) = ans l who liar lies k ++ [y]) := by show _ ++ oneA l who liar lies k = _; unfold oneA; rw [if_pos HW.out, if_pos HL'.out, if_pos (by have := HM.out.2.2; omega), HY.out]
                  generalize kC who k = kk at *
                  generalize fC who liar k = ff at *
                  generalize rC l g k = rr at *
                  generalize ans l who liar lies k = aa at *
                  go_wp2_with (at_builtin; refine KH.wpList_append_one rfl (.tmp 74) (.tmp 79) 24 rfl w.heap.size 3 i0 _ 8 Try.underlying24 hi hz0 hz1 hz2 rfl _ m _ rfl (hown.alloc _) wr.heap.size 1 (.int .i64 y) rfl ?c1x2 rfl ?c3x2 ?c4x2 ?c5x2 ?_)
                  first | (case c1x2 => simp) | skip
                  case c3x2 => unfold maxLen; omega
                  case c4x2 => omega
                  case c5x2 => first | omega | (simp; omega)
                  intro v1 w1' hown1 hb1
                  have hb2 := (hb.alloc hsz (.cells #[.int .i64 y] 3)).trans hb1
                  clear hown hb
                  go_wp2
                  go_roundw
                  case rel => exact ⟨k + 1, m + 1, by omega, by go_num, by omega, by rw [R1.out]; go_num, by rw [R2.out]; go_num, by rw [R3.out]; go_num, by rw [R4.out]; simpa using hown1, hb2⟩
                  case measure => simp [intOf]; omega
                · skip
                  have R1 : Hid (kC who (k + 1) = kC who k + 1) := by unfold Hid kC; rw [range_count, if_pos HW.out]
                  have R2 : Hid (fC who liar (k + 1) = fC who liar k + 1) := by unfold Hid fC; rw [range_count, HW.out, HL'.out]; rfl
                  have R3 : Hid (rC l g (k + 1) = rC l g k + 1) := by unfold Hid rC; rw [range_count, HX.out, HG.out]; rfl
                  have R4 : Hid (ans l who liar lies (k + 1) = ans l who liar lies k ++ []) := by show _ ++ oneA l who liar lies k = _; unfold oneA; rw [if_pos HW.out, if_pos HL'.out, if_neg (by have := HM.out.2.2; omega)]
                  generalize kC who k = kk at *
                  generalize fC who liar k = ff at *
                  generalize rC l g k = rr at *
                  generalize ans l who liar lies k = aa at *
                  go_wp2
                  go_roundw
                  case rel => exact ⟨k + 1, m, by omega, by go_num, by omega, by rw [R1.out]; go_num, by rw [R2.out]; go_num, by rw [R3.out]; go_num, by rw [R4.out]; simpa using hown, hb⟩
                  case measure => simp [intOf]; omega
            · have HL' : Hid (atB liar k = false) := by unfold Hid atB; rw [List.getD, List.getElem?_eq_none (by have := HM.out.2.1; omega)]; rfl
              have hd4 : decide ((k : Int) < n4) = false := by simp; omega
              have R1 : Hid (kC who (k + 1) = kC who k + 1) := by unfold Hid kC; rw [range_count, if_pos HW.out]
              have R2 : Hid (fC who liar (k + 1) = fC who liar k + 0) := by unfold Hid fC; rw [range_count, HW.out, HL'.out]; rfl
              have R3 : Hid (rC l g (k + 1) = rC l g k + 1) := by unfold Hid rC; rw [range_count, HX.out, HG.out]; rfl
              have R4 : Hid (ans l who liar lies (k + 1) = ans l who liar lies k ++ [x]) := by show _ ++ oneA l who liar lies k = _; unfold oneA; rw [if_pos HW.out, if_neg (by rw [HL'.out]; simp), HX.out]
              generalize kC who k = kk at *
              generalize fC who liar k = ff at *
              generalize rC l g k = rr at *
              generalize ans l who liar lies k = aa at *
              go_wp2_with (at_builtin; refine KH.wpList_append_one rfl (.tmp 81) (.tmp 86) 24 rfl w.heap.size 3 i0 _ 8 Try.underlying24 hi hz0 hz1 hz2 rfl _ m _ rfl (hown.alloc _) wr.heap.size 1 (.int .i64 x) rfl ?c1x3 rfl ?c3x3 ?c4x3 ?c5x3 ?_)
              first | (case c1x3 => simp) | skip
              case c3x3 => unfold maxLen; omega
              case c4x3 => omega
              case c5x3 => first | omega | (simp; omega)
              intro v1 w1' hown1 hb1
              have hb2 := (hb.alloc hsz (.cells #[.int .i64 x] 3)).trans hb1
              clear hown hb
              go_wp2
              go_roundw
              case rel => exact ⟨k + 1, m + 1, by omega, by go_num, by omega, by rw [R1.out]; go_num, by rw [R2.out]; rfl, by rw [R3.out]; go_num, by rw [R4.out]; simpa using hown1, hb2⟩
              case measure => simp [intOf]; omega
        · have HW : Hid (atB who k = false) := by unfold Hid atB; rw [List.getD, List.getElem?_eq_none (by have := HM.out.1; omega)]; rfl
          have R1 : Hid (kC who (k + 1) = kC who k + 0) := by unfold Hid kC; rw [range_count, if_neg (by rw [HW.out]; simp)]
          have R2 : Hid (fC who liar (k + 1) = fC who liar k + 0) := by unfold Hid fC; rw [range_count, HW.out]; rfl
          have R3 : Hid (rC l g (k + 1) = rC l g k + 1) := by unfold Hid rC; rw [range_count, HX.out, HG.out]; rfl
          have R4 : Hid (ans l who liar lies (k + 1) = ans l who liar lies k ++ []) := by show _ ++ oneA l who liar lies k = _; unfold oneA; rw [if_neg (by rw [HW.out]; simp)]
          generalize kC who k = kk at *
          generalize fC who liar k = ff at *
          generalize rC l g k = rr at *
          generalize ans l who liar lies k = aa at *
          go_wp2
          go_roundw
          case rel => exact ⟨k + 1, m, by omega, by go_num, by omega, by rw [R1.out]; rfl, by rw [R2.out]; rfl, by rw [R3.out]; go_num, by rw [R4.out]; simpa using hown, hb⟩
          case measure => simp [intOf]; omega
      · have HG : Hid (geB g x = false) := by unfold Hid geB; simpa using hg
        by_cases h3 : k < n3
        · obtain ⟨ad3, b3, rfl, _, hb3, hc3⟩ := bool_at (hr3.below hb) h3
          have HW : Hid (atB who k = b3) := by unfold Hid atB; rw [List.getD, hb3]; rfl
          clear hb3
          cases b3
          · skip
            have R1 : Hid (kC who (k + 1) = kC who k + 0) := by unfold Hid kC; rw [range_count, if_neg (by rw [HW.out]; simp)]
            have R2 : Hid (fC who liar (k + 1) = fC who liar k + 0) := by unfold Hid fC; rw [range_count, HW.out]; rfl
            have R3 : Hid (rC l g (k + 1) = rC l g k + 0) := by unfold Hid rC; rw [range_count, HX.out, HG.out]; rfl
            have R4 : Hid (ans l who liar lies (k + 1) = ans l who liar lies k ++ []) := by show _ ++ oneA l who liar lies k = _; unfold oneA; rw [if_neg (by rw [HW.out]; simp)]
            generalize kC who k = kk at *
            generalize fC who liar k = ff at *
            generalize rC l g k = rr at *
            generalize ans l who liar lies k = aa at *
            go_wp2
            go_roundw
            case rel => exact ⟨k + 1, m, by omega, by go_num, by omega, by rw [R1.out]; rfl, by rw [R2.out]; rfl, by rw [R3.out]; rfl, by rw [R4.out]; simpa using hown, hb⟩
            case measure => simp [intOf]; omega
          · skip
            by_cases h4 : k < n4
            · obtain ⟨ad4, b4, rfl, _, hb4, hc4⟩ := bool_at (hr4.below hb) h4
              have HL' : Hid (atB liar k = b4) := by unfold Hid atB; rw [List.getD, hb4]; rfl
              clear hb4
              cases b4
              · skip
                have R1 : Hid (kC who (k + 1) = kC who k + 1) := by unfold Hid kC; rw [range_count, if_pos HW.out]
                have R2 : Hid (fC who liar (k + 1) = fC who liar k + 0) := by unfold Hid fC; rw [range_count, HW.out, HL'.out]; rfl
                have R3 : Hid (rC l g (k + 1) = rC l g k + 0) := by unfold Hid rC; rw [range_count, HX.out, HG.out]; rfl
                have R4 : Hid (ans l who liar lies (k + 1) = ans l who liar lies k ++ [x]) := by show _ ++ oneA l who liar lies k = _; unfold oneA; rw [if_pos HW.out, if_neg (by rw [HL'.out]; simp), HX.out]
                generalize kC who k = kk at *
                generalize fC who liar k = ff at *
                generalize rC l g k = rr at *
                generalize ans l who liar lies k = aa at *
                go_wp2_with (at_builtin; refine KH.wpList_append_one rfl (.tmp 81) (.tmp 86) 24 rfl w.heap.size 3 i0 _ 8 Try.underlying24 hi hz0 hz1 hz2 rfl _ m _ rfl (hown.alloc _) wr.heap.size 1 (.int .i64 x) rfl ?c1x4 rfl ?c3x4 ?c4x4 ?c5x4 ?_)
                first | (case c1x4 => simp) | skip
                case c3x4 => unfold maxLen; omega
                case c4x4 => omega
                case c5x4 => first | omega | (simp; omega)
                intro v1 w1' hown1 hb1
                have hb2 := (hb.alloc hsz (.cells #[.int .i64 x] 3)).trans hb1
                clear hown hb
                go_wp2
                go_roundw
                case rel => exact ⟨k + 1, m + 1, by omega, by go_num, by omega, by rw [R1.out]; go_num, by rw [R2.out]; rfl, by rw [R3.out]; rfl, by rw [R4.out]; simpa using hown1, hb2⟩
                case measure => simp [intOf]; omega
              · skip
                by_cases h5 : k < n5
                · obtain ⟨ad5, y, rfl, _, hy, hc5⟩ := (hr5.below hb).int h5
                  have HY : Hid (lies.getD k 0 = y) := by unfold Hid; rw [List.getD, hy]; rfl
                  clear hy
                  have R1 : Hid (kC who (k + 1) = kC who k + 1) := by unfold Hid kC; rw [range_count, if_pos HW.out]
                  have R2 : Hid (fC who liar (k + 1) = fC who liar k + 1) := by unfold Hid fC; rw [range_count, HW.out, HL'.out]; rfl
                  have R3 : Hid (rC l g (k + 1) = rC l g k + 0) := by unfold Hid rC; rw [range_count, HX.out, HG.out]; rfl
                  have R4 : Hid (ans l who liar lies (k + 1) = ans l who liar lies k ++ [y]) := by show _ ++ oneA l who liar lies k = _; unfold oneA; rw [if_pos HW.out, if_pos HL'.out, if_pos (by have := HM.out.2.2; omega), HY.out]
                  generalize kC who k = kk at *
                  generalize fC who liar k = ff at *
                  generalize rC l g k = rr at *
                  generalize ans l who liar lies k = aa at *
                  go_wp2_with (at_builtin; refine KH.wpList_append_one rfl (.tmp 74) (.tmp 79) 24 rfl w.heap.size 3 i0 _ 8 Try.underlying24 hi hz0 hz1 hz2 rfl _ m _ rfl (hown.alloc _) wr.heap.size 1 (.int .i64 y) rfl ?c1x5 rfl ?c3x5 ?c4x5 ?c5x5 ?_)
                  first | (case c1x5 => simp) | skip
                  case c3x5 => unfold maxLen; omega
                  case c4x5 => omega
                  case c5x5 => first | omega | (simp; omega)
                  intro v1 w1' hown1 hb1
                  have hb2 := (hb.alloc hsz (.cells #[.int .i64 y] 3)).trans hb1
                  clear hown hb
                  go_wp2
                  go_roundw
                  case rel => exact ⟨k + 1, m + 1, by omega, by go_num, by omega, by rw [R1.out]; go_num, by rw [R2.out]; go_num, by rw [R3.out]; rfl, by rw [R4.out]; simpa using hown1, hb2⟩
                  case measure => simp [intOf]; omega
                · skip
                  have R1 : Hid (kC who (k + 1) = kC who k + 1) := by unfold Hid kC; rw [range_count, if_pos HW.out]
                  have R2 : Hid (fC who liar (k + 1) = fC who liar k + 1) := by unfold Hid fC; rw [range_count, HW.out, HL'.out]; rfl
                  have R3 : Hid (rC l g (k + 1) = rC l g k + 0) := by unfold Hid rC; rw [range_count, HX.out, HG.out]; rfl
                  have R4 : Hid (ans l who liar lies (k + 1) = ans l who liar lies k ++ []) := by show _ ++ oneA l who liar lies k = _; unfold oneA; rw [if_pos HW.out, if_pos HL'.out, if_neg (by have := HM.out.2.2; omega)]
                  generalize kC who k = kk at *
                  generalize fC who liar k = ff at *
                  generalize rC l g k = rr at *
                  generalize ans l who liar lies k = aa at *
                  go_wp2
                  go_roundw
                  case rel => exact ⟨k + 1, m, by omega, by go_num, by omega, by rw [R1.out]; go_num, by rw [R2.out]; go_num, by rw [R3.out]; rfl, by rw [R4.out]; simpa using hown, hb⟩
                  case measure => simp [intOf]; omega
            · have HL' : Hid (atB liar k = false) := by unfold Hid atB; rw [List.getD, List.getElem?_eq_none (by have := HM.out.2.1; omega)]; rfl
              have hd4 : decide ((k : Int) < n4) = false := by simp; omega
              have R1 : Hid (kC who (k + 1) = kC who k + 1) := by unfold Hid kC; rw [range_count, if_pos HW.out]
              have R2 : Hid (fC who liar (k + 1) = fC who liar k + 0) := by unfold Hid fC; rw [range_count, HW.out, HL'.out]; rfl
              have R3 : Hid (rC l g (k + 1) = rC l g k + 0) := by unfold Hid rC; rw [range_count, HX.out, HG.out]; rfl
              have R4 : Hid (ans l who liar lies (k + 1) = ans l who liar lies k ++ [x]) := by show _ ++ oneA l who liar lies k = _; unfold oneA; rw [if_pos HW.out, if_neg (by rw [HL'.out]; simp), HX.out]
              generalize kC who k = kk at *
              generalize fC who liar k = ff at *
              generalize rC l g k = rr at *
              generalize ans l who liar lies k = aa at *
              go_wp2_with (at_builtin; refine KH.wpList_append_one rfl (.tmp 81) (.tmp 86) 24 rfl w.heap.size 3 i0 _ 8 Try.underlying24 hi hz0 hz1 hz2 rfl _ m _ rfl (hown.alloc _) wr.heap.size 1 (.int .i64 x) rfl ?c1x6 rfl ?c3x6 ?c4x6 ?c5x6 ?_)
              first | (case c1x6 => simp) | skip
              case c3x6 => unfold maxLen; omega
              case c4x6 => omega
              case c5x6 => first | omega | (simp; omega)
              intro v1 w1' hown1 hb1
              have hb2 := (hb.alloc hsz (.cells #[.int .i64 x] 3)).trans hb1
              clear hown hb
              go_wp2
              go_roundw
              case rel => exact ⟨k + 1, m + 1, by omega, by go_num, by omega, by rw [R1.out]; go_num, by rw [R2.out]; rfl, by rw [R3.out]; rfl, by rw [R4.out]; simpa using hown1, hb2⟩
              case measure => simp [intOf]; omega
        · have HW : Hid (atB who k = false) := by unfold Hid atB; rw [List.getD, List.getElem?_eq_none (by have := HM.out.1; omega)]; rfl
          have R1 : Hid (kC who (k + 1) = kC who k + 0) := by unfold Hid kC; rw [range_count, if_neg (by rw [HW.out]; simp)]
          have R2 : Hid (fC who liar (k + 1) = fC who liar k + 0) := by unfold Hid fC; rw [range_count, HW.out]; rfl
          have R3 : Hid (rC l g (k + 1) = rC l g k + 0) := by unfold Hid rC; rw [range_count, HX.out, HG.out]; rfl
          have R4 : Hid (ans l who liar lies (k + 1) = ans l who liar lies k ++ []) := by show _ ++ oneA l who liar lies k = _; unfold oneA; rw [if_neg (by rw [HW.out]; simp)]
          generalize kC who k = kk at *
          generalize fC who liar k = ff at *
          generalize rC l g k = rr at *
          generalize ans l who liar lies k = aa at *
          go_wp2
          go_roundw
          case rel => exact ⟨k + 1, m, by omega, by go_num, by omega, by rw [R1.out]; rfl, by rw [R2.out]; rfl, by rw [R3.out]; rfl, by rw [R4.out]; simpa using hown, hb⟩
          case measure => simp [intOf]; omega
    · obtain rfl : k = n := by omega
      obtain ⟨A', c', rfl⟩ := KH.own_form hown
      by_cases ha : a ≤ (rC l g k : Nat)
      · cases he : enoughB k (kC who k : Nat) a (fC who liar k : Nat)
        · generalize kC who k = kk at *
          generalize fC who liar k = ff at *
          generalize rC l g k = rr at *
          go_wp2_with fail
          refine (enough_any _ _ _ _ _).mono ?_; rintro e w' ⟨rfl, rfl⟩
          rw [he]
          clear he
          go_wp2_with fail
          refine (anchors_any _).mono ?_; rintro e w5 ⟨rfl, hb5⟩
          go_wp2
          go_ret
          exact ⟨rfl, hb.trans (hb5.mono hsz)⟩
        · obtain ⟨f1, f2, f3, f4, f5⟩ := fresh_law (lies := lies) HL.out HR.out ha he
          have hlen : (ans l who liar lies k).length = m := by have := hown.1; simpa using this
          generalize kC who k = kk at *
          generalize fC who liar k = ff at *
          generalize rC l g k = rr at *
          generalize ans l who liar lies k = aa at *
          have hra := KH.Reads.of_own hown
          have hrw := (hr.below hb).more hsz
          clear hown hlen
          go_wp2_with fail
          refine (enough_any _ _ _ _ _).mono ?_; rintro e w' ⟨rfl, rfl⟩
          rw [he]
          clear he
          go_wp2_with fail
          refine (known_yes _ hrw hn a HR.out f1 f2).mono ?_; rintro e w3 ⟨rfl, hb3⟩
          generalize knownL l a = kn at *
          have hs3 := hb3.size
          have hra3 := (hra.below hb3).more hs3
          go_wp2_with fail
          refine (anchors_any _).mono ?_; rintro e w5 ⟨rfl, hb5⟩
          have hra5 := (hra3.below hb5).more hb5.size
          go_wp2_with fail
          refine (newest_any _ hra5 (by unfold maxLen; omega)).mono ?_; rintro e w' ⟨rfl, rfl⟩
          have hbb := (hb.trans (hb3.mono hsz)).trans (hb5.mono (by omega))
          clear hb hb3 hb5
          by_cases h9 : (1000000000 : Int) < g
          all_goals
            go_wp2_with fail
            refine (newest_any _ hra5 (by unfold maxLen; omega)).mono ?_; rintro e w' ⟨rfl, rfl⟩
            go_wp2
            go_ret
            exact ⟨rfl, hbb⟩
      · generalize kC who k = kk at *
        generalize fC who liar k = ff at *
        generalize rC l g k = rr at *
        go_wp2_with fail
        refine (anchors_any _).mono ?_; rintro e w5 ⟨rfl, hb5⟩
        go_wp2
        go_ret
        exact ⟨rfl, hb.trans (hb5.mono hsz)⟩

theorem walk {w : World} {A : Option Addr} {n c : Nat} {l : List Int} (w0 : IntsIn w A n c l) (g : Int) (w1 : (Lit.int .i64 g).wf = true) (a : Int) (w2 : (Lit.int .i64 a).wf = true)
    {A3 A4 A5 : Option Addr} {n3 c3 n4 c4 n5 c5 : Nat} {who liar : List Bool} {lies : List Int} (w3 : BoolsIn w A3 n3 c3 who) (w4 : BoolsIn w A4 n4 c4 liar) (w5 : IntsIn w A5 n5 c5 lies) :
    Calls Try.prog 5 #[.slice A n c, .int .i64 g, .int .i64 a, .slice A3 n3 c3, .slice A4 n4 c4, .slice A5 n5 c5] w fun e w' => e = .returned (.bool true) ∧ Below w.heap.size w w' := by
  obtain ⟨hl, hnc, hcm, hbd, hr⟩ := w0
  have hm : n ≤ 9223372036854775807 := by unfold maxLen at hcm; omega
  by_cases h16 : n ≤ 16
  · cases hR : rightB l
    · clear w1 w2 w3 w4 w5
      have hn : n ≤ maxLen := by unfold maxLen; omega
      go_enter Try.func5, Try.ntmps5
      go_wp2_with fail
      refine (are_any _ hr hn).mono ?_; rintro e w' ⟨rfl, rfl⟩
      rw [hR]
      clear hR
      go_wp2_with fail
      refine (anchors_any _).mono ?_; rintro e w5 ⟨rfl, hb5⟩
      go_wp2
      go_ret
      exact ⟨rfl, hb5⟩
    · obtain ⟨hl3, hnc3, hcm3, hr3⟩ := w3
      obtain ⟨hl4, hnc4, hcm4, hr4⟩ := w4
      obtain ⟨hl5, hnc5, hcm5, _, hr5⟩ := w5
      unfold maxLen at hcm3 hcm4 hcm5
      exact core hr hl h16 hR hr3 hr4 hr5 hl3 hl4 hl5 (by omega) (by omega) (by omega) g a
  · clear w1 w2 w3 w4 w5 hl
    go_enter Try.func5, Try.ntmps5
    go_wp2_with fail
    refine (anchors_any _).mono ?_; rintro e w5 ⟨rfl, hb5⟩
    go_wp2
    go_ret
    exact ⟨rfl, hb5⟩

theorem own : ownKnob Try.prog.godebug = none := by kernel_rfl
theorem laidOut : laidOutB Try.prog = true := by kernel_rfl

/-! ### The step from the walk to the row -/
set_option maxRecDepth 100000 in
theorem lifted (os : Os) (started : os.Started) (H : Type) (enc : TypeId × Value → H) :
    ReturnsInHanded {} Try.checked os 5 .any (Rows.anchorFreshSpec.pre6 enc Try.prog Try.f5 Rows.anchorFreshRow.domain false) (Rows.anchorFreshSpec.post enc Try.prog Try.f5 false true false false) := by
  refine returnsInHanded_of_change (C := Try.checked) own started (by kernel_rfl) Try.func5
    (ChangeSpec.witness6 (enc := enc) (C := Try.checked) false ⟨#[], #[.slice none 0 0, .int .i64 0, .int .i64 0, .slice none 0 0, .slice none 0 0, .slice none 0 0], []⟩ 8 (by kernel_rfl) (by kernel_rfl) (by kernel_rfl) (by kernel_rfl)) ?_
  intro W base args ds gs before hval0 hW hcnd _
  have hval : ∀ (j : Nat) t v, Try.f5.params[j]? = some t → args[j]? = some v → Value.okWide Try.prog W .any base t v := hval0
  have hW' := hW
  obtain ⟨p, q, hA0, hV, rfl, hfz, hnd⟩ := hW
  have hA : DataW.TrodAll enc Try.prog W 0 (fun _ => true) true Try.f5.params.toList args.toList ds p := hA0
  rw [Try.params5] at hA hval
  obtain ⟨v0, vs0, d0, ds0, p0, q0, hargs, rfl, rfl, h0, r0⟩ := trodAll_cons hA
  obtain ⟨v1, vs1, d1, ds1, p1, q1, rfl, rfl, rfl, h1, r1⟩ := trodAll_cons r0
  obtain ⟨v2, vs2, d2, ds2, p2, q2, rfl, rfl, rfl, h2, r2⟩ := trodAll_cons r1
  obtain ⟨v3, vs3, d3, ds3, p3, q3, rfl, rfl, rfl, h3, r3⟩ := trodAll_cons r2
  obtain ⟨v4, vs4, d4, ds4, p4, q4, rfl, rfl, rfl, h4, r4⟩ := trodAll_cons r3
  obtain ⟨v5, vs5, d5, ds5, p5, q5, rfl, rfl, rfl, h5, r5⟩ := trodAll_cons r4
  obtain ⟨rfl, rfl, rfl⟩ := trodAll_nil r5
  obtain rfl : args = #[v0, v1, v2, v3, v4, v5] := by cases args; simp_all
  obtain ⟨rfl, rfl⟩ := trodVars_none hV
  obtain ⟨a0, len0, cap0, rfl⟩ := okWide_slice Try.underlying24 (hval 0 24 v0 rfl rfl)
  have k0 := h0
  have lt0 : ∀ x ∈ p0, x.block < W.heap.size := by obtain ⟨m, hm⟩ := k0; exact DataW.trod_lt m _ _ _ hm
  obtain ⟨z0, w0⟩ : ∃ zs, IntsIn W a0 len0 cap0 zs := ints_in Try.underlying24 Try.underlying3 (by kernel_rfl) h0
  obtain ⟨a1, rfl, rfl, rfl, w1⟩ := open_int Try.underlying3 (hval 1 3 v1 rfl rfl) h1
  obtain ⟨a2, rfl, rfl, rfl, w2⟩ := open_int Try.underlying3 (hval 2 3 v2 rfl rfl) h2
  obtain ⟨a3, len3, cap3, rfl⟩ := okWide_slice Try.underlying31 (hval 3 31 v3 rfl rfl)
  have k3 := h3
  have lt3 : ∀ x ∈ p3, x.block < W.heap.size := by obtain ⟨m, hm⟩ := k3; exact DataW.trod_lt m _ _ _ hm
  obtain ⟨z3, w3⟩ : ∃ zs, BoolsIn W a3 len3 cap3 zs := bools_in Try.underlying31 Try.underlying4 (by kernel_rfl) h3
  obtain ⟨a4, len4, cap4, rfl⟩ := okWide_slice Try.underlying31 (hval 4 31 v4 rfl rfl)
  have k4 := h4
  have lt4 : ∀ x ∈ p4, x.block < W.heap.size := by obtain ⟨m, hm⟩ := k4; exact DataW.trod_lt m _ _ _ hm
  obtain ⟨z4, w4⟩ : ∃ zs, BoolsIn W a4 len4 cap4 zs := bools_in Try.underlying31 Try.underlying4 (by kernel_rfl) h4
  obtain ⟨a5, len5, cap5, rfl⟩ := okWide_slice Try.underlying24 (hval 5 24 v5 rfl rfl)
  have k5 := h5
  have lt5 : ∀ x ∈ p5, x.block < W.heap.size := by obtain ⟨m, hm⟩ := k5; exact DataW.trod_lt m _ _ _ hm
  obtain ⟨z5, w5⟩ : ∃ zs, IntsIn W a5 len5 cap5 zs := ints_in Try.underlying24 Try.underlying3 (by kernel_rfl) h5
  clear hA0 hval0
  refine (walk w0 a1 w1 a2 w2 w3 w4 w5).mono fun e W' ⟨he, bel⟩ => ?_
  subst he
  exact ⟨_, rfl, _, _, _, [], _, [], hW', trodAll_mk1 (shut_bool Try.underlying4 _), (trodAll_cons_mk (Below.trod laidOut (by kernel_rfl) (of_decide_eq_true (by kernel_rfl)) k0 bel lt0) (trodAll_cons_mk (shut_int Try.underlying3 w1) (trodAll_cons_mk (shut_int Try.underlying3 w2) (trodAll_cons_mk (Below.trod laidOut (by kernel_rfl) (of_decide_eq_true (by kernel_rfl)) k3 bel lt3) (trodAll_cons_mk (Below.trod laidOut (by kernel_rfl) (of_decide_eq_true (by kernel_rfl)) k4 bel lt4) (trodAll_cons_mk (Below.trod laidOut (by kernel_rfl) (of_decide_eq_true (by kernel_rfl)) k5 bel lt5) (trodAll_mk0))))))), rfl, bel.frame _, fun h => by cases h⟩

theorem over : Rows.anchorFreshRow.holds Try.pinned (OpenSpec.ofChange Rows.anchorFreshSpec) :=
  OpenClaim.holds_of_wide 5 Try.f5 rfl rfl rfl rfl rfl rfl rfl ⟨rfl, rfl, rfl, rfl, rfl⟩ rfl rfl rfl rfl rfl (by kernel_rfl) Try.func5 (by kernel_rfl)
    (of_decide_eq_true (by kernel_rfl)) (by unfold Func.isWrapper; first | (rw [if_pos (by decide +kernel)]; kernel_rfl) | (rw [if_neg (by decide +kernel)]; exact ⟨rfl, rfl⟩))
    (fun os started H enc _ => lifted os started H enc)

theorem proved : Rows.AnchorFreshSaid := over

end Go.Proofs.Ytcblailfmnicgaa.anchorFresh
