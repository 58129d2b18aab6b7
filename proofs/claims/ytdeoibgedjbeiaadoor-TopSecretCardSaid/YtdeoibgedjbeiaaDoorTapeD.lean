/- The walk of share.Tape, where it refuses. -/
import Derived.Test.YtdeoibgedjbeiaaDoorTapeC
namespace Go.Proofs.YtdeoibgedjbeiaaDoor
open Go.RowKit

set_option maxRecDepth 100000 in
theorem tape_no {n : Nat} {A : Option Addr} (c : Nat) {l : List (Int × ByteArray)} {w : World} (s : ByteArray) (h : ShIn w w.heap.size A n l) (hn : n ≤ maxLen) (hsz : ∀ p ∈ l, p.2.size ≤ maxLen) (hk : tapeK s l = false) :
    Calls Tryd.prog 13 #[.string s, .slice A n c] w fun e w' => e = .returned (.tuple #[.string (tapeV s l), .int .i64 (tapeE s l)]) ∧ Below w.heap.size w w' := by
  have hl := h.len
  have HL := KH.hid hl
  clear hl
  have HV : Hid (tapeV s l = ⟨#[]⟩) := by unfold Hid tapeV; rw [hk]; rfl
  rw [HV.out]
  unfold maxLen at hn
  by_cases h32 : s.size = 32
  · have hse : ((s.size : Int) != 32) = false := by simp [h32]
    have HE : Hid (tapeE s l = 90) := by
      unfold Hid tapeE
      unfold tapeK at hk
      rw [decide_eq_true h32, Bool.true_and] at hk
      rw [if_pos h32, hk]; rfl
    rw [HE.out]
    cases hr : rightS l 1
    · clear hk h32
      go_enter Tryd.func13, Tryd.ntmps13
      go_wp2_with fail
      refine (sright_any _ h (by unfold maxLen; omega) 1 (by omega) (by omega) hsz).mono ?_; rintro e w1 ⟨rfl, hb1⟩
      rw [hr]
      go_wp2
      go_ret2
      exact ⟨rfl, hb1⟩
    · have h255 : n = 255 := by
        unfold tapeK at hk
        rw [decide_eq_true h32, hr, Bool.true_and, Bool.true_and, decide_eq_false_iff_not, HL.out] at hk
        omega
      subst h255
      clear hk h32
      go_enter Tryd.func13, Tryd.ntmps13
      go_wp2_with fail
      refine (sright_any _ h (by unfold maxLen; omega) 1 (by omega) (by omega) hsz).mono ?_; rintro e w1 ⟨rfl, hb1⟩
      rw [hr]
      go_wp2
      go_ret2
      exact ⟨rfl, hb1⟩
  · have hse : ((s.size : Int) != 32) = true := by simp; omega
    have HE : Hid (tapeE s l = 1) := by unfold Hid tapeE; rw [if_neg h32]
    rw [HE.out]
    clear hk h32
    go_enter Tryd.func13, Tryd.ntmps13
    go_wp2
    go_ret2
    exact ⟨rfl, Below.refl _ _⟩
end Go.Proofs.YtdeoibgedjbeiaaDoor
