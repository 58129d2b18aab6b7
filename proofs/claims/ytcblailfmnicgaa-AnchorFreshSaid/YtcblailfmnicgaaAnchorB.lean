/- The walks of package anchor: what reaches, the greatest, right rows, Known. -/
import Derived.Test.YtcblailfmnicgaaAnchorA
namespace Go.Proofs.Ytcblailfmnicgaa
open Go.RowKit

theorem int_info : (Try.prog.info? 3).map (fun i => (i.zero, i.size, i.bytes)) = some (some (.int .i64 0), 1, 8) := by kernel_rfl

def geB (g x : Int) : Bool := decide (g ≤ x)

theorem ge_any (g x : Int) (p : Addr) (w : World) (hg : w.cell? p = some (.int .i64 g)) :
    Calls Try.prog 24 #[.int .i64 x, .pointer (some p)] w fun e w' => e = .returned (.bool (geB g x)) ∧ w = w' := by
  go_enter Try.func24, Try.ntmps24
  go_wp2
  go_ret
  exact ⟨rfl, rfl⟩

theorem count_ge {B n : Nat} {A : Option Addr} (c : Nat) {l : List Int} {w : World} (h : KH.Reads w B 1 A n (l.map (.int .i64))) (hn : n ≤ maxLen) (g : Int) (p : Addr) (hp : w.cell? p = some (.int .i64 g)) :
    Calls Try.prog 23 #[.slice A n c, .func (.func 24) #[] #[.pointer (some p)]] w fun e w' => e = .returned (.int .i64 (l.countP (geB g) : Nat)) ∧ w = w' := by
  unfold maxLen at hn
  have hl : l.length = n := by have := h.1; simpa using this
  go_enter Try.func23, Try.ntmps23
  go_wp2
  go_loop [5, 10] (fun s i => ∃ k : Nat, k ≤ n ∧ i = .int .i64 k ∧ s = .int .i64 ((l.take k).countP (geB g) : Nat)) (fun _ i => n - (intOf i).toNat)
  case atStart => exact ⟨0, Nat.zero_le _, rfl, rfl⟩
  case round =>
    obtain ⟨k, hk, rfl, rfl⟩ := hrel
    have hcnt : (l.take k).countP (geB g) ≤ k := Nat.le_trans List.countP_le_length (List.length_take_le _ _)
    by_cases hlt : k < n
    · obtain ⟨ad, x, rfl, _, hx, hc⟩ := h.int hlt
      have HS := KH.hid (take_count (geB g) l k x hx); clear hx
      generalize (l.take k).countP (geB g) = s at *
      go_wp2_with fail
      refine (ge_any _ _ _ _ hp).mono ?_; rintro e w' ⟨rfl, rfl⟩
      cases hg : geB g x
      · go_wp2
        go_round
        case rel => exact ⟨k + 1, by omega, by go_num, by rw [HS.out, hg]; rfl⟩
        case measure => simp [intOf]; omega
      · go_wp2
        go_round
        case rel => exact ⟨k + 1, by omega, by go_num, by rw [HS.out, hg]; go_num⟩
        case measure => simp [intOf]; omega
    · obtain rfl : k = n := by omega
      go_wp2
      go_ret
      exact ⟨KH.ret_int (by rw [List.take_of_length_le (by omega)]), rfl⟩

/-- the greatest, and 0 at least -/
def gst (l : List Int) : Int := l.foldl max 0

theorem gst_snoc (l : List Int) (k : Nat) (x : Int) (h : l[k]? = some x) : gst (l.take (k + 1)) = if gst (l.take k) < x then x else gst (l.take k) := by
  have hk : k < l.length := by
    rcases Nat.lt_or_ge k l.length with h' | h'
    · exact h'
    · rw [List.getElem?_eq_none h'] at h; cases h
  rw [List.getElem?_eq_getElem hk] at h
  injection h with h
  rw [List.take_succ_eq_append_getElem hk, h]
  unfold gst
  rw [List.foldl_append]
  show max _ x = _
  rw [Int.max_def]
  by_cases h1 : List.foldl max 0 (List.take k l) < x
  · rw [if_pos h1, if_pos (by omega)]
  · rw [if_neg h1]; split <;> omega

theorem greatest_any {B n : Nat} {A : Option Addr} (c : Nat) {l : List Int} {w : World} (h : KH.Reads w B 1 A n (l.map (.int .i64))) (hn : n ≤ maxLen) :
    Calls Try.prog 25 #[.slice A n c] w fun e w' => e = .returned (.int .i64 (gst l)) ∧ w = w' := by
  unfold maxLen at hn
  have hl : l.length = n := by have := h.1; simpa using this
  go_enter Try.func25, Try.ntmps25
  go_wp2
  go_loop [3, 8] (fun s i => ∃ k : Nat, k ≤ n ∧ i = .int .i64 k ∧ s = .int .i64 (gst (l.take k))) (fun _ i => n - (intOf i).toNat)
  case atStart => exact ⟨0, Nat.zero_le _, rfl, rfl⟩
  case round =>
    obtain ⟨k, hk, rfl, rfl⟩ := hrel
    by_cases hlt : k < n
    · obtain ⟨ad, x, rfl, _, hx, hc⟩ := h.int hlt
      have HS := KH.hid (gst_snoc l k x hx); clear hx
      generalize gst (l.take k) = s at *
      by_cases hgt : s < x
      · go_wp2
        go_round
        case rel => exact ⟨k + 1, by omega, by go_num, by rw [HS.out, if_pos hgt]⟩
        case measure => simp [intOf]; omega
      · go_wp2
        go_round
        case rel => exact ⟨k + 1, by omega, by go_num, by rw [HS.out, if_neg hgt]⟩
        case measure => simp [intOf]; omega
    · obtain rfl : k = n := by omega
      go_wp2
      go_ret
      exact ⟨KH.ret_int (by rw [List.take_of_length_le (by omega)]), rfl⟩

theorem newest_any {B n : Nat} {A : Option Addr} (c : Nat) {l : List Int} {w : World} (h : KH.Reads w B 1 A n (l.map (.int .i64))) (hn : n ≤ maxLen) :
    Calls Try.prog 14 #[.slice A n c] w fun e w' => e = .returned (.int .i64 (gst l)) ∧ w = w' := by
  go_enter Try.func14, Try.ntmps14
  go_wp2_with fail
  refine (greatest_any _ h hn).mono ?_; rintro e w' ⟨rfl, rfl⟩
  go_wp2
  go_ret
  exact ⟨rfl, rfl⟩

/-- is a row right? -/
def rightB (l : List Int) : Bool := decide (l.length ≤ 16 ∧ ∀ x ∈ l, 0 ≤ x ∧ x ≤ 1000000000)

theorem count_all (l : List Int) : l.countP genB = l.length ↔ ∀ x ∈ l, 0 ≤ x ∧ x ≤ 1000000000 := by
  rw [List.countP_eq_length]; simp [genB]

theorem right_any {B n : Nat} {A : Option Addr} (c : Nat) {l : List Int} {w : World} (h : KH.Reads w B 1 A n (l.map (.int .i64))) (hn : n ≤ maxLen) :
    Calls Try.prog 21 #[.slice A n c] w fun e w' => e = .returned (.bool (rightB l)) ∧ w = w' := by
  have hl : l.length = n := by have := h.1; simpa using this
  have hm : n ≤ 9223372036854775807 := by unfold maxLen at hn; omega
  have hcl : l.countP genB ≤ n := hl ▸ List.countP_le_length
  by_cases h16 : n ≤ 16
  · by_cases hc : l.countP genB = n
    · have HR : Hid (rightB l = true) := by unfold Hid rightB; rw [decide_eq_true_iff, ← count_all]; omega
      have HC := KH.hid hc
      have hb : (((l.countP genB : Nat) : Int) == (n : Int)) = true := by simp [hc]
      clear hc hl
      generalize hX : l.countP genB = x at *
      have HX := KH.hid hX; clear hX
      go_enter Try.func21, Try.ntmps21
      go_wp2_with fail
      refine (count_gen _ h hn).mono ?_; rintro e w' ⟨rfl, rfl⟩
      rw [HX.out]
      go_wp2
      go_ret
      exact ⟨KH.ret_bool HR.out.symm, rfl⟩
    · have HR : Hid (rightB l = false) := by unfold Hid rightB; rw [decide_eq_false_iff_not, ← count_all]; omega
      have hb : (((l.countP genB : Nat) : Int) == (n : Int)) = false := by simp; omega
      clear hc hl
      generalize hX : l.countP genB = x at *
      have HX := KH.hid hX; clear hX
      go_enter Try.func21, Try.ntmps21
      go_wp2_with fail
      refine (count_gen _ h hn).mono ?_; rintro e w' ⟨rfl, rfl⟩
      rw [HX.out]
      go_wp2
      go_ret
      exact ⟨KH.ret_bool HR.out.symm, rfl⟩
  · have HR : Hid (rightB l = false) := by unfold Hid rightB; rw [decide_eq_false_iff_not]; omega
    have hd : decide ((n : Int) ≤ 16) = false := by simp; omega
    clear hl
    go_enter Try.func21, Try.ntmps21
    go_wp2
    go_ret
    exact ⟨KH.ret_bool HR.out.symm, rfl⟩
end Go.Proofs.Ytcblailfmnicgaa
