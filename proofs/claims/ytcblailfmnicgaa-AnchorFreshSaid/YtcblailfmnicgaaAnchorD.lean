/- The walks of package anchor: Set, Enough; rows that are held against one another. -/
import Derived.Test.YtcblailfmnicgaaAnchorC
namespace Go.Proofs.Ytcblailfmnicgaa
open Go.RowKit

theorem set_no {B n : Nat} {A : Option Addr} (c : Nat) {l : List Int} {w : World} (h : KH.Reads w B 1 A n (l.map (.int .i64))) (hn : n ≤ maxLen) (i g : Int) (hno : rightB l = false ∨ i < 0 ∨ n ≤ i) :
    Calls Try.prog 11 #[.slice A n c, .int .i64 i, .int .i64 g] w fun e w' => e = .returned (.tuple #[.slice none 0 0, .int .i64 1]) ∧ w = w' := by
  have hm : n ≤ 9223372036854775807 := by unfold maxLen at hn; omega
  cases hr : rightB l with
  | false =>
    clear hno
    go_enter Try.func11, Try.ntmps11
    go_wp2_with fail
    refine (right_any _ h hn).mono ?_; rintro e w' ⟨rfl, rfl⟩
    rw [hr]
    go_wp2
    go_ret2
    exact ⟨rfl, rfl⟩
  | true =>
    have hno' : i < 0 ∨ (0 ≤ i ∧ n ≤ i) := by
      rcases hno with h' | h' | h'
      · rw [hr] at h'; cases h'
      · exact Or.inl h'
      · omega
    clear hno
    rcases hno' with h1 | ⟨h1, h2⟩
    · go_enter Try.func11, Try.ntmps11
      go_wp2_with fail
      refine (right_any _ h hn).mono ?_; rintro e w' ⟨rfl, rfl⟩
      rw [hr]
      go_wp2
      go_ret2
      exact ⟨rfl, rfl⟩
    · go_enter Try.func11, Try.ntmps11
      go_wp2_with fail
      refine (right_any _ h hn).mono ?_; rintro e w' ⟨rfl, rfl⟩
      rw [hr]
      go_wp2
      go_ret2
      exact ⟨rfl, rfl⟩

theorem set_low {B n : Nat} {A : Option Addr} (c : Nat) {l : List Int} {w : World} (h : KH.Reads w B 1 A n (l.map (.int .i64))) (hn : n ≤ maxLen) (k : Nat) (g : Int) (hr : rightB l = true) (hk : k < n) (x : Int) (hx : l[k]? = some x)
    (hlow : g < x ∨ genB g = false) :
    Calls Try.prog 11 #[.slice A n c, .int .i64 k, .int .i64 g] w fun e w' => e = .returned (.tuple #[.slice none 0 0, .int .i64 250]) ∧ w = w' := by
  have hm : n ≤ 9223372036854775807 := by unfold maxLen at hn; omega
  obtain ⟨ad, x', hA, _, hx', hc⟩ := h.int hk
  rw [hx] at hx'
  injection hx' with hx'
  subst hx'
  subst hA
  clear hx
  by_cases hg : g < x
  · go_enter Try.func11, Try.ntmps11
    go_wp2_with fail
    refine (right_any _ h hn).mono ?_; rintro e w' ⟨rfl, rfl⟩
    rw [hr]
    go_wp2
    go_ret2
    exact ⟨rfl, rfl⟩
  · have hgen : genB g = false := by
      rcases hlow with h' | h'
      · omega
      · exact h'
    clear hlow
    go_enter Try.func11, Try.ntmps11
    go_wp2_with fail
    refine (right_any _ h hn).mono ?_; rintro e w' ⟨rfl, rfl⟩
    rw [hr]
    go_wp2_with fail
    refine (genOf_any _ _).mono ?_; rintro e w' ⟨rfl, rfl⟩
    rw [hgen]
    go_wp2
    go_ret2
    exact ⟨rfl, rfl⟩

/-- a new row of the call's own -/
def NewInts (w : World) (n : Nat) (l : List Int) (code : Int) (e : Ending) (w' : World) : Prop :=
  ∃ v, e = .returned (.tuple #[v, .int .i64 code]) ∧ w'.ownsRow w.heap.size 3 1 v n (l.map (.int .i64)) ∧ Below w.heap.size w w'

set_option maxHeartbeats 1000000 in
theorem set_yes {n : Nat} {A : Option Addr} (c : Nat) {l : List Int} {w : World} (h : KH.Reads w w.heap.size 1 A n (l.map (.int .i64))) (hn : n ≤ maxLen) (k : Nat) (g : Int) (hr : rightB l = true) (hk : k < n) (x : Int) (hx : l[k]? = some x)
    (hge : x ≤ g) (hgen : genB g = true) :
    Calls Try.prog 11 #[.slice A n c, .int .i64 k, .int .i64 g] w (NewInts w n (l.set k g) 0) := by
  obtain ⟨i0, hi, hz0, hz1, hz2⟩ := info_parts int_info
  have hm : n ≤ 9223372036854775807 := by unfold maxLen at hn; omega
  have h16 : n ≤ 16 := by
    have hl : l.length = n := by have := h.1; simpa using this
    unfold rightB at hr
    simp only [decide_eq_true_iff] at hr
    omega
  obtain ⟨ad, x', hA, _, hx', hc⟩ := h.int hk
  rw [hx] at hx'
  injection hx' with hx'
  subst hx'
  subst hA
  clear hx
  go_enter Try.func11, Try.ntmps11
  go_wp2_with fail
  refine (right_any _ h hn).mono ?_; rintro e w' ⟨rfl, rfl⟩
  rw [hr]
  go_wp2_with fail
  refine (genOf_any _ _).mono ?_; rintro e w' ⟨rfl, rfl⟩
  rw [hgen]
  go_wp2_with (at_builtin; refine KH.wpList_append_any _ rfl (.const (.slice none 0 0)) (.tmp 33) _ rfl w.heap.size 3 i0 _ 1 8 Try.underlying24 hi hz0 hz1 hz2 rfl (by omega) (.slice none 0 0) 0 [] rfl ⟨by simp, .inl ⟨rfl, rfl⟩⟩ w.heap.size _ n c _ rfl h ?c1 ?c2 ?c3 (Nat.le_refl _) ?_)
  case c1 => intro u hu; simp at hu; obtain ⟨_, _, rfl⟩ := hu; rfl
  case c2 => unfold maxLen; omega
  case c3 => omega
  intro v1 w1 hown1 hg1 _
  have hb1 : Below w.heap.size w w1 := (Below.refl _ _).grown hg1 (Nat.le_refl _) (by simp [Value.ownBlock])
  clear hg1
  obtain ⟨gb, cap, hv, hgb, hlt1⟩ := hown1.form (by omega)
  subst hv
  have hcell := hown1.cellAt k (by omega)
  have hfr := hown1.frozenAt k
  have hst := (hown1.stored k (.int .i64 g)).1
  rw [List.getElem?_map] at hcell
  obtain ⟨y, hy⟩ : ∃ y, l[k]? = some y := by
    have hl : l.length = n := by have := h.1; simpa using this
    exact ⟨l[k], List.getElem?_eq_getElem (by omega)⟩
  rw [hy] at hcell
  simp only [Option.map_some] at hcell
  clear hy
  have hb2 := hb1.setCell (p := ⟨gb, k, none⟩) hgb (.int .i64 g)
  rw [← List.map_set] at hst
  clear hown1 hb1
  go_wp2
  go_ret2
  exact ⟨_, rfl, hst, hb2⟩
end Go.Proofs.Ytcblailfmnicgaa
