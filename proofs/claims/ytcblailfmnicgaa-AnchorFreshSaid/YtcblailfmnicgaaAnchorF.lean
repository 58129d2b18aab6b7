/- The document's rows of package anchor. -/
import Derived.Test.YtcblailfmnicgaaAnchorE
namespace Go.Proofs.Ytcblailfmnicgaa
open Go.RowKit

theorem row_known2 : knownL [5, 3, 9] 2 = 5 := by decide
theorem row_known3 : knownL [5, 3, 9] 3 = 3 := by decide
theorem row_right : rightB [5, 3, 9] = true := by decide
theorem row_gst : gst [5, 3, 9] = 9 := by decide
theorem row_e1 : enoughB 5 3 4 1 = true := by decide
theorem row_e2 : enoughB 5 3 4 2 = false := by decide
theorem row_e3 : enoughB 5 3 3 1 = false := by decide

set_option maxHeartbeats 1000000 in
theorem anchors_any (w : World) : Calls Try.prog 8 #[] w fun e w' => e = .returned (.bool true) ∧ Below w.heap.size w w' := by
  have n3 : 3 ≤ maxLen := by unfold maxLen; omega
  go_enter Try.func8, Try.ntmps8
  go_wp2_with fail
  have hb0 : Below w.heap.size w (w.alloc (.cells #[.int .i64 5, .int .i64 3, .int .i64 9] 3)) := (Below.refl _ _).alloc (Nat.le_refl _) _
  have hr0 : KH.Reads (w.alloc (.cells #[.int .i64 5, .int .i64 3, .int .i64 9] 3)) (w.heap.size + 1) 1 (some ⟨w.heap.size, 0, none⟩) 3 ([5, 3, 9].map (.int .i64)) := by
    have := KH.Reads.of_own (World.ownsRow_lit (base := 0) (size := 1) w #[.int .i64 5, .int .i64 3, .int .i64 9] 3 (e := 3) (Nat.zero_le _) n3 rfl)
    simpa using this
  have hs0 : (w.alloc (.cells #[.int .i64 5, .int .i64 3, .int .i64 9] 3)).heap.size = w.heap.size + 1 := by simp
  generalize w.alloc (.cells #[.int .i64 5, .int .i64 3, .int .i64 9] 3) = w0 at *
  rw [← hs0] at hr0
  have HS0 := KH.hid hs0; clear hs0
  refine (known_yes _ hr0 n3 2 row_right (by omega) (by omega)).mono ?_; rintro e w1 ⟨rfl, hb1⟩
  rw [row_known2]
  have hr1 := (hr0.below hb1).more hb1.size
  go_wp2_with fail
  refine (known_yes _ hr1 n3 3 row_right (by omega) (by omega)).mono ?_; rintro e w2 ⟨rfl, hb2⟩
  rw [row_known3]
  have hr2 := (hr1.below hb2).more hb2.size
  go_wp2_with fail
  refine (known_no _ hr2 n3 4 (.inr (.inr (by omega)))).mono ?_; rintro e w' ⟨rfl, rfl⟩
  go_wp2_with fail
  refine (set_yes _ hr2 n3 1 4 row_right (by omega) 3 rfl (by omega) (by decide)).mono ?_; rintro e w3 ⟨v, rfl, hown, hb3⟩
  obtain ⟨A3, c3, rfl⟩ := KH.own_form hown
  have hr3 := (hr2.below hb3).more hb3.size
  go_wp2_with fail
  refine (set_low _ hr3 n3 1 2 row_right (by omega) 3 rfl (.inl (by omega))).mono ?_; rintro e w' ⟨rfl, rfl⟩
  go_wp2_with fail
  have hb4 : Below w3.heap.size w3 (w3.alloc (.cells #[.int .i64 5, .int .i64 4, .int .i64 9] 3)) := (Below.refl _ _).alloc (Nat.le_refl _) _
  have hr4 : KH.Reads (w3.alloc (.cells #[.int .i64 5, .int .i64 4, .int .i64 9] 3)) (w3.heap.size + 1) 1 (some ⟨w3.heap.size, 0, none⟩) 3 ([5, 4, 9].map (.int .i64)) := by
    have := KH.Reads.of_own (World.ownsRow_lit (base := 0) (size := 1) w3 #[.int .i64 5, .int .i64 4, .int .i64 9] 3 (e := 3) (Nat.zero_le _) n3 rfl)
    simpa using this
  refine (ints_any _ _ ((KH.Reads.of_own hown).alloc (Nat.le_refl _) _) hr4 n3 n3).mono ?_
  rintro e w' ⟨rfl, q, rfl⟩
  rw [show decide (([5, 3, 9] : List Int).set 1 4 = [5, 4, 9]) = true from by decide]
  have hb5 : Below w.heap.size w ((w3.alloc (.cells #[.int .i64 5, .int .i64 4, .int .i64 9] 3)).drewN q) := by
    have s0 := HS0.out
    have s1 := hb1.size
    have s2 := hb2.size
    have s3 := hb3.size
    exact below_drewN (((((hb0.trans (hb1.mono (by omega))).trans (hb2.mono (by omega))).trans (hb3.mono (by omega))).trans (hb4.mono (by omega)))) q
  have hr5 := (((hr3.alloc (Nat.le_refl _) (.cells #[.int .i64 5, .int .i64 4, .int .i64 9] 3)).drewN q))
  generalize (w3.alloc (.cells #[.int .i64 5, .int .i64 4, .int .i64 9] 3)).drewN q = w5 at *
  clear hr0 hr1 hr2 hr3 hr4 hb0 hb1 hb2 hb3 hb4 hown
  go_wp2_with fail
  refine (enough_any _ _ _ _ _).mono ?_; rintro e w' ⟨rfl, rfl⟩
  rw [row_e1]
  go_wp2_with fail
  refine (enough_any _ _ _ _ _).mono ?_; rintro e w' ⟨rfl, rfl⟩
  rw [row_e2]
  go_wp2_with fail
  refine (enough_any _ _ _ _ _).mono ?_; rintro e w' ⟨rfl, rfl⟩
  rw [row_e3]
  go_wp2_with fail
  refine (newest_any _ hr5 n3).mono ?_; rintro e w' ⟨rfl, rfl⟩
  rw [row_gst]
  go_wp2_with fail
  refine (newest_any (l := []) 0 (KH.Reads.none_ (w := w5) (B := 0)) (by omega)).mono ?_; rintro e w' ⟨rfl, rfl⟩
  rw [show gst [] = 0 from rfl]
  go_wp2
  go_ret
  exact ⟨rfl, hb5⟩
end Go.Proofs.Ytcblailfmnicgaa
