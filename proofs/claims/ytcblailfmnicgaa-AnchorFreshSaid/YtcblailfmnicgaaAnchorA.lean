/- The walks of package anchor: what is counted, the greatest, what is right. -/
import Derived.Test.YtcblailfmnicgaaRows
import Derived.Test.YtcblailfmnicgaaInts
import Derived.Test.YtcblailfmnicgaaWords
import Derived.WalkKit
import Derived.WalkSpells
import Derived.WalkLawsBesides
import Derived.Deep.QuietTactic
import Derived.BigQuiet
namespace Go.Proofs.Ytcblailfmnicgaa
open Go.RowKit

/-- is a number an anchor's? -/
def genB (x : Int) : Bool := decide (0 ≤ x ∧ x ≤ 1000000000)

theorem genOf_any (x : Int) (w : World) :
    Calls Try.prog 22 #[.int .i64 x] w fun e w' => e = .returned (.bool (genB x)) ∧ w = w' := by
  by_cases h0 : 0 ≤ x
  · by_cases h1 : x ≤ 1000000000
    · have HG : Hid (genB x = true) := by unfold Hid genB; simp; omega
      go_enter Try.func22, Try.ntmps22
      go_wp2
      go_ret
      exact ⟨KH.ret_bool HG.out.symm, rfl⟩
    · have HG : Hid (genB x = false) := by unfold Hid genB; simp; omega
      have hd : decide (x ≤ 1000000000) = false := by simp; omega
      go_enter Try.func22, Try.ntmps22
      go_wp2
      go_ret
      exact ⟨KH.ret_bool HG.out.symm, rfl⟩
  · have HG : Hid (genB x = false) := by unfold Hid genB; simp; omega
    have hd : decide (0 ≤ x) = false := by simp; omega
    go_enter Try.func22, Try.ntmps22
    go_wp2
    go_ret
    exact ⟨KH.ret_bool HG.out.symm, rfl⟩

theorem take_count (p : Int → Bool) (l : List Int) (k : Nat) (x : Int) (h : l[k]? = some x) :
    (l.take (k + 1)).countP p = (l.take k).countP p + if p x then 1 else 0 := by
  have hk : k < l.length := by
    rcases Nat.lt_or_ge k l.length with h' | h'
    · exact h'
    · rw [List.getElem?_eq_none h'] at h; cases h
  rw [List.take_succ_eq_append_getElem hk, List.countP_append]
  rw [List.getElem?_eq_getElem hk] at h
  injection h with h
  subst h
  simp [List.countP_cons]

theorem count_gen {B n : Nat} {A : Option Addr} (c : Nat) {l : List Int} {w : World} (h : KH.Reads w B 1 A n (l.map (.int .i64))) (hn : n ≤ maxLen) :
    Calls Try.prog 23 #[.slice A n c, .func (.func 22) #[] #[]] w fun e w' => e = .returned (.int .i64 (l.countP genB : Nat)) ∧ w = w' := by
  unfold maxLen at hn
  have hl : l.length = n := by have := h.1; simpa using this
  go_enter Try.func23, Try.ntmps23
  go_wp2
  go_loop [5, 10] (fun s i => ∃ k : Nat, k ≤ n ∧ i = .int .i64 k ∧ s = .int .i64 ((l.take k).countP genB : Nat)) (fun _ i => n - (intOf i).toNat)
  case atStart => exact ⟨0, Nat.zero_le _, rfl, rfl⟩
  case round =>
    obtain ⟨k, hk, rfl, rfl⟩ := hrel
    have hcnt : (l.take k).countP genB ≤ k := Nat.le_trans List.countP_le_length (List.length_take_le _ _)
    by_cases hlt : k < n
    · obtain ⟨ad, x, rfl, _, hx, hc⟩ := h.int hlt
      have HS := KH.hid (take_count genB l k x hx); clear hx
      generalize (l.take k).countP genB = s at *
      go_wp2_with fail
      refine (genOf_any _ _).mono ?_; rintro e w' ⟨rfl, rfl⟩
      cases hg : genB x
      · go_wp2
        go_round
        case rel => exact ⟨k + 1, by omega, by go_num, by rw [HS.out, hg]; rfl⟩
        case measure => simp [intOf]; omega
      · go_wp2
        go_round
        case rel => exact ⟨k + 1, by omega, by go_num, by rw [HS.out, hg]; go_num⟩
        case measure => simp [intOf]; omega
    · obtain rfl : k = n := by omega
      go_wp2
      go_ret
      exact ⟨KH.ret_int (by rw [List.take_of_length_le (by omega)]), rfl⟩
end Go.Proofs.Ytcblailfmnicgaa
