/- The walks of package anchor: Known. -/
import Derived.Test.YtcblailfmnicgaaAnchorB
namespace Go.Proofs.Ytcblailfmnicgaa
open Go.RowKit

def reachB (l : List Int) (a : Int) (g : Int) : Bool := decide (a ≤ (l.countP (geB g) : Nat))
/-- what is known -/
def knownL (l : List Int) (a : Int) : Int := gst (l.filter (reachB l a))

theorem take_filter (p : Int → Bool) (l : List Int) (k : Nat) (x : Int) (h : l[k]? = some x) :
    (l.take (k + 1)).filter p = (l.take k).filter p ++ if p x then [x] else [] := by
  have hk : k < l.length := by
    rcases Nat.lt_or_ge k l.length with h' | h'
    · exact h'
    · rw [List.getElem?_eq_none h'] at h; cases h
  rw [List.getElem?_eq_getElem hk] at h
  injection h with h
  rw [List.take_succ_eq_append_getElem hk, h, List.filter_append]
  congr 1
  cases hp : p x <;> simp [hp]

theorem known_no {B n : Nat} {A : Option Addr} (c : Nat) {l : List Int} {w : World} (h : KH.Reads w B 1 A n (l.map (.int .i64))) (hn : n ≤ maxLen) (a : Int) (hno : rightB l = false ∨ a < 1 ∨ n < a) :
    Calls Try.prog 12 #[.slice A n c, .int .i64 a] w fun e w' => e = .returned (.tuple #[.int .i64 0, .int .i64 1]) ∧ w = w' := by
  have hm : n ≤ 9223372036854775807 := by unfold maxLen at hn; omega
  cases hr : rightB l with
  | false =>
    clear hno
    go_enter Try.func12, Try.ntmps12
    go_wp2_with fail
    refine (right_any _ h hn).mono ?_; rintro e w' ⟨rfl, rfl⟩
    rw [hr]
    go_wp2
    go_ret2
    exact ⟨rfl, rfl⟩
  | true =>
    have hno' : a < 1 ∨ (1 ≤ a ∧ n < a) := by
      rcases hno with h' | h' | h'
      · rw [hr] at h'; cases h'
      · exact Or.inl h'
      · omega
    clear hno
    rcases hno' with h1 | ⟨h1, h2⟩
    · go_enter Try.func12, Try.ntmps12
      go_wp2_with fail
      refine (right_any _ h hn).mono ?_; rintro e w' ⟨rfl, rfl⟩
      rw [hr]
      go_wp2
      go_ret2
      exact ⟨rfl, rfl⟩
    · go_enter Try.func12, Try.ntmps12
      go_wp2_with fail
      refine (right_any _ h hn).mono ?_; rintro e w' ⟨rfl, rfl⟩
      rw [hr]
      go_wp2
      go_ret2
      exact ⟨rfl, rfl⟩

set_option maxHeartbeats 1000000 in
theorem known_yes {n : Nat} {A : Option Addr} (c : Nat) {l : List Int} {w : World} (h : KH.Reads w w.heap.size 1 A n (l.map (.int .i64))) (hn : n ≤ maxLen) (a : Int) (hr : rightB l = true) (ha1 : 1 ≤ a) (ha2 : a ≤ n) :
    Calls Try.prog 12 #[.slice A n c, .int .i64 a] w fun e w' => e = .returned (.tuple #[.int .i64 (knownL l a), .int .i64 0]) ∧ Below w.heap.size w w' := by
  obtain ⟨i0, hi, hz0, hz1, hz2⟩ := info_parts int_info
  have hm : n ≤ 9223372036854775807 := by unfold maxLen at hn; omega
  have hl : l.length = n := by have := h.1; simpa using this
  have h16 : n ≤ 16 := by
    unfold rightB at hr
    simp only [decide_eq_true_iff] at hr
    omega
  have HL := KH.hid hl; clear hl
  go_enter Try.func12, Try.ntmps12
  go_wp2_with fail
  refine (right_any _ h hn).mono ?_; rintro e w' ⟨rfl, rfl⟩
  rw [hr]
  have HR := KH.hid hr; clear hr
  go_wp2_with fail
  go_loopw [6, 24] (fun v i wr => ∃ k m : Nat, k ≤ n ∧ i = .int .i64 k ∧ m ≤ k ∧ wr.ownsRow w.heap.size 3 1 v m (((l.take k).filter (reachB l a)).map (.int .i64)) ∧ Below w.heap.size w wr) (fun _ i _ => n - (intOf i).toNat)
  case atStart => exact ⟨0, 0, Nat.zero_le _, rfl, Nat.zero_le _, World.ownsRow_nil _ _ _ _, Below.refl _ _⟩
  case round =>
    obtain ⟨k, m, hk, rfl, hmk, hown, hb⟩ := hrel
    by_cases hlt : k < n
    · have h' := h.below hb
      obtain ⟨ad, x, rfl, hbl, hx, hc⟩ := h'.int hlt
      have HS := KH.hid (take_filter (reachB l a) l k x hx); clear hx
      have hsz := hb.size
      cases hrb : reachB l a x
      · have hcond : ¬ a ≤ (l.countP (geB x) : Nat) := by unfold reachB at hrb; simpa using hrb
        rw [hrb] at HS
        clear hrb
        go_wp2_with fail
        refine (count_ge _ ((h'.more hsz).alloc (Nat.le_refl _) _) hn x _ (by simp)).mono ?_; rintro e w' ⟨rfl, rfl⟩
        go_wp2
        go_roundw
        case rel => exact ⟨k + 1, m, by omega, by go_num, by omega, by rw [HS.out]; simpa using hown.alloc _, hb.alloc hsz _⟩
        case measure => simp [intOf]; omega
      · have hcond : a ≤ (l.countP (geB x) : Nat) := by unfold reachB at hrb; simpa using hrb
        rw [hrb] at HS
        clear hrb
        go_wp2_with fail
        refine (count_ge _ ((h'.more hsz).alloc (Nat.le_refl _) _) hn x _ (by simp)).mono ?_; rintro e w' ⟨rfl, rfl⟩
        go_wp2_with (at_builtin; refine KH.wpList_append_one rfl (.tmp 33) (.tmp 35) 24 rfl w.heap.size 3 i0 _ 8 Try.underlying24 hi hz0 hz1 hz2 rfl _ m _ rfl ((hown.alloc _).alloc _) (wr.heap.size + 1) 1 (.int .i64 x) rfl ?c1 rfl ?c3 ?c4 ?c5 ?_)
        case c1 => simp
        case c3 => unfold maxLen; omega
        case c4 => omega
        case c5 => simp; omega
        intro v1 w1 hown1 hb1
        have hb2 := ((hb.alloc hsz (.cells #[.int .i64 x] 3)).alloc (by simp; omega) (.cells #[.int .i64 x] 3)).trans hb1
        clear hown hb
        go_wp2
        go_roundw
        case rel => exact ⟨k + 1, m + 1, by omega, by go_num, by omega, by rw [HS.out]; simpa using hown1, hb2⟩
        case measure => simp [intOf]; omega
    · obtain rfl : k = n := by omega
      rw [List.take_of_length_le (by have := HL.out; omega)] at hown
      obtain ⟨A', c', rfl⟩ := KH.own_form hown
      have h2 := KH.Reads.of_own hown
      go_wp2_with fail
      refine (greatest_any _ h2 (by unfold maxLen; omega)).mono ?_; rintro e w' ⟨rfl, rfl⟩
      go_wp2
      go_ret2
      exact ⟨rfl, hb⟩
end Go.Proofs.Ytcblailfmnicgaa
