/- Set and Known, and the document's, each in one contract: told or refused. -/
import Derived.Test.YtcblailfmnicgaaAnchorP
namespace Go.Proofs.Ytcblailfmnicgaa
open Go.RowKit

def sl (ok : Bool) (l : List Int) (i g : Int) : List Int := if ok then l.set i.toNat g else []
def sc (ok : Bool) (l : List Int) (n : Nat) (i : Int) : Int := if ok then 0 else if rightB l && decide (0 ≤ i ∧ i < n) then 250 else 1
def SetTold (w : World) (l : List Int) (n : Nat) (i g : Int) (e : Ending) (w' : World) : Prop :=
  ∃ A' n' c', e = .returned (.tuple #[.slice A' n' c', .int .i64 (sc (setB l n i g) l n i)]) ∧ w'.ownsRow w.heap.size 3 1 (.slice A' n' c') n' ((sl (setB l n i g) l i g).map (.int .i64)) ∧ Below w.heap.size w w'

/-- what each of the two Sets is shown to do, case by case -/
structure SetCases (f : FuncId) (A : Option Addr) (n c : Nat) (l : List Int) (w : World) : Prop where
  no : ∀ i g : Int, (rightB l = false ∨ i < 0 ∨ n ≤ i) → Calls Try.prog f #[.slice A n c, .int .i64 i, .int .i64 g] w fun e w' => e = .returned (.tuple #[.slice none 0 0, .int .i64 1]) ∧ w = w'
  low : ∀ (k : Nat) (g x : Int), rightB l = true → k < n → l[k]? = some x → (g < x ∨ genB g = false) → Calls Try.prog f #[.slice A n c, .int .i64 k, .int .i64 g] w fun e w' => e = .returned (.tuple #[.slice none 0 0, .int .i64 250]) ∧ w = w'
  yes : ∀ (k : Nat) (g x : Int), rightB l = true → k < n → l[k]? = some x → x ≤ g → genB g = true → Calls Try.prog f #[.slice A n c, .int .i64 k, .int .i64 g] w (NewInts w n (l.set k g) 0)

theorem set_told {f : FuncId} {A : Option Addr} {n c : Nat} {l : List Int} {w : World} (h : SetCases f A n c l w) (hl : l.length = n) (i g : Int) :
    Calls Try.prog f #[.slice A n c, .int .i64 i, .int .i64 g] w (SetTold w l n i g) := by
  by_cases hr : rightB l = true ∧ 0 ≤ i ∧ i < n
  · obtain ⟨hr, hi0, hi1⟩ := hr
    obtain ⟨k, rfl⟩ := Int.eq_ofNat_of_zero_le hi0
    have hx : l[k]? = some (l.getD k 0) := by rw [List.getD, List.getElem?_eq_getElem (by omega)]; rfl
    cases hs : setB l n k g
    · have hs' := hs
      unfold setB at hs'
      rw [hr, Bool.true_and, Int.toNat_natCast] at hs'
      refine (h.low k g _ hr (by omega) hx ?_).mono fun e w' ⟨he, hw⟩ => ?_
      · rw [Bool.and_eq_false_iff, decide_eq_false_iff_not] at hs'
        rcases hs' with h' | h'
        · exact Or.inr h'
        · left; omega
      · subst hw
        refine ⟨none, 0, 0, ?_, by rw [hs]; exact World.ownsRow_nil _ _ _ _, Below.refl _ _⟩
        rw [he, hs]
        simp only [sc, Bool.false_eq_true, if_false]
        rw [if_pos (by rw [hr, Bool.true_and, decide_eq_true_iff]; omega)]
    · have hs' := hs
      unfold setB at hs'
      rw [hr, Bool.true_and, Int.toNat_natCast, Bool.and_eq_true, decide_eq_true_iff] at hs'
      refine (h.yes k g _ hr (by omega) hx (by omega) hs'.1).mono fun e w' ⟨v, he, ho, hb⟩ => ?_
      obtain ⟨A', c', rfl⟩ := KH.own_form ho
      exact ⟨_, _, _, by rw [he, hs]; rfl, by rw [hs]; simpa [sl] using ho, hb⟩
  · have hno : rightB l = false ∨ i < 0 ∨ n ≤ i := by
      cases h' : rightB l
      · exact Or.inl rfl
      · right
        have : ¬ (0 ≤ i ∧ i < n) := fun h'' => hr ⟨h', h''⟩
        omega
    have hf : setB l n i g = false := by
      unfold setB
      rw [Bool.and_eq_false_iff, Bool.and_eq_false_iff, decide_eq_false_iff_not]
      rcases hno with h' | h'
      · exact Or.inl (Or.inl h')
      · right; omega
    refine (h.no i g hno).mono fun e w' ⟨he, hw⟩ => ?_
    subst hw
    refine ⟨none, 0, 0, ?_, by rw [hf]; exact World.ownsRow_nil _ _ _ _, Below.refl _ _⟩
    rw [he, hf]
    simp only [sc, Bool.false_eq_true, if_false]
    rw [if_neg (by rw [Bool.and_eq_true, decide_eq_true_iff]; exact hr)]

theorem set_cases {A : Option Addr} {n c : Nat} {l : List Int} {w : World} (h : KH.Reads w w.heap.size 1 A n (l.map (.int .i64))) (hn : n ≤ maxLen) : SetCases 11 A n c l w :=
  ⟨fun i g hno => set_no c h hn i g hno, fun k g x hr hk hx hlow => set_low c h hn k g hr hk x hx hlow, fun k g x hr hk hx h1 h2 => set_yes c h hn k g hr hk x hx h1 h2⟩

theorem rset_no {B n : Nat} {A : Option Addr} (c : Nat) {l : List Int} {w : World} (h : KH.Reads w B 1 A n (l.map (.int .i64))) (hn : n ≤ maxLen) (i g : Int) (hno : rightB l = false ∨ i < 0 ∨ n ≤ i) :
    Calls Try.prog 15 #[.slice A n c, .int .i64 i, .int .i64 g] w fun e w' => e = .returned (.tuple #[.slice none 0 0, .int .i64 1]) ∧ w = w' := by
  have hm : n ≤ 9223372036854775807 := by unfold maxLen at hn; omega
  cases hr : rightB l with
  | false =>
    clear hno
    go_enter Try.func15, Try.ntmps15
    go_wp2_with fail
    refine (are_any _ h hn).mono ?_; rintro e w' ⟨rfl, rfl⟩
    rw [hr]
    go_wp2
    go_ret2
    exact ⟨rfl, rfl⟩
  | true =>
    have hno' : i < 0 ∨ (0 ≤ i ∧ n ≤ i) := by
      rcases hno with h' | h' | h'
      · rw [hr] at h'; cases h'
      · exact Or.inl h'
      · omega
    clear hno
    rcases hno' with h1 | ⟨h1, h2⟩
    · go_enter Try.func15, Try.ntmps15
      go_wp2_with fail
      refine (are_any _ h hn).mono ?_; rintro e w' ⟨rfl, rfl⟩
      rw [hr]
      go_wp2
      go_ret2
      exact ⟨rfl, rfl⟩
    · go_enter Try.func15, Try.ntmps15
      go_wp2_with fail
      refine (are_any _ h hn).mono ?_; rintro e w' ⟨rfl, rfl⟩
      rw [hr]
      go_wp2
      go_ret2
      exact ⟨rfl, rfl⟩

theorem rset_low {B n : Nat} {A : Option Addr} (c : Nat) {l : List Int} {w : World} (h : KH.Reads w B 1 A n (l.map (.int .i64))) (hn : n ≤ maxLen) (k : Nat) (g : Int) (hr : rightB l = true) (hk : k < n) (x : Int) (hx : l[k]? = some x)
    (hlow : g < x ∨ genB g = false) :
    Calls Try.prog 15 #[.slice A n c, .int .i64 k, .int .i64 g] w fun e w' => e = .returned (.tuple #[.slice none 0 0, .int .i64 250]) ∧ w = w' := by
  have hm : n ≤ 9223372036854775807 := by unfold maxLen at hn; omega
  obtain ⟨ad, x', hA, _, hx', hc⟩ := h.int hk
  rw [hx] at hx'
  injection hx' with hx'
  subst hx'
  subst hA
  have HMEM := KH.hid (mem_of_get hx)
  clear hx
  by_cases hg : g < x
  · go_enter Try.func15, Try.ntmps15
    go_wp2_with fail
    refine (are_any _ h hn).mono ?_; rintro e w' ⟨rfl, rfl⟩
    rw [hr]
    go_wp2
    go_ret2
    exact ⟨rfl, rfl⟩
  · have hgen : genB g = false := by
      rcases hlow with h' | h'
      · omega
      · exact h'
    clear hlow
    have hgx : 1000000000 < g := by
      obtain ⟨_, hall⟩ := right_iff.1 hr
      have := hall x HMEM.out
      unfold genB at hgen; rw [decide_eq_false_iff_not] at hgen; omega
    clear hgen
    go_enter Try.func15, Try.ntmps15
    go_wp2_with fail
    refine (are_any _ h hn).mono ?_; rintro e w' ⟨rfl, rfl⟩
    rw [hr]
    go_wp2
    go_ret2
    exact ⟨rfl, rfl⟩

set_option maxHeartbeats 1000000 in
theorem rset_yes {n : Nat} {A : Option Addr} (c : Nat) {l : List Int} {w : World} (h : KH.Reads w w.heap.size 1 A n (l.map (.int .i64))) (hn : n ≤ maxLen) (k : Nat) (g : Int) (hr : rightB l = true) (hk : k < n) (x : Int) (hx : l[k]? = some x)
    (hge : x ≤ g) (hgen : genB g = true) :
    Calls Try.prog 15 #[.slice A n c, .int .i64 k, .int .i64 g] w (NewInts w n (l.set k g) 0) := by
  obtain ⟨i0, hi, hz0, hz1, hz2⟩ := info_parts int_info
  have hm : n ≤ 9223372036854775807 := by unfold maxLen at hn; omega
  have h16 : n ≤ 16 := by
    have hl : l.length = n := by have := h.1; simpa using this
    unfold rightB at hr
    simp only [decide_eq_true_iff] at hr
    omega
  obtain ⟨ad, x', hA, _, hx', hc⟩ := h.int hk
  rw [hx] at hx'
  injection hx' with hx'
  subst hx'
  subst hA
  clear hx
  have hg9 : g ≤ 1000000000 := by unfold genB at hgen; rw [decide_eq_true_iff] at hgen; omega
  clear hgen
  go_enter Try.func15, Try.ntmps15
  go_wp2_with fail
  refine (are_any _ h hn).mono ?_; rintro e w' ⟨rfl, rfl⟩
  rw [hr]
  go_wp2_with (at_builtin; refine KH.wpList_append_any _ rfl (.tmp 32) (.tmp 33) _ rfl w.heap.size 3 i0 _ 1 8 Try.underlying24 hi hz0 hz1 hz2 rfl (by omega) (.slice none 0 0) 0 [] rfl ⟨by simp, .inl ⟨rfl, rfl⟩⟩ w.heap.size _ n c _ rfl h ?c1 ?c2 ?c3 (Nat.le_refl _) ?_)
  case c1 => intro u hu; simp at hu; obtain ⟨_, _, rfl⟩ := hu; rfl
  case c2 => unfold maxLen; omega
  case c3 => omega
  intro v1 w1 hown1 hg1 _
  have hb1 : Below w.heap.size w w1 := (Below.refl _ _).grown hg1 (Nat.le_refl _) (by simp [Value.ownBlock])
  clear hg1
  obtain ⟨gb, cap, hv, hgb, hlt1⟩ := hown1.form (by omega)
  subst hv
  have hcell := hown1.cellAt k (by omega)
  have hfr := hown1.frozenAt k
  have hst := (hown1.stored k (.int .i64 g)).1
  rw [List.getElem?_map] at hcell
  obtain ⟨y, hy⟩ : ∃ y, l[k]? = some y := by
    have hl : l.length = n := by have := h.1; simpa using this
    exact ⟨l[k], List.getElem?_eq_getElem (by omega)⟩
  rw [hy] at hcell
  simp only [Option.map_some] at hcell
  clear hy
  have hb2 := hb1.setCell (p := ⟨gb, k, none⟩) hgb (.int .i64 g)
  rw [← List.map_set] at hst
  clear hown1 hb1
  go_wp2
  go_ret2
  exact ⟨_, rfl, hst, hb2⟩

theorem rset_cases {A : Option Addr} {n c : Nat} {l : List Int} {w : World} (h : KH.Reads w w.heap.size 1 A n (l.map (.int .i64))) (hn : n ≤ maxLen) : SetCases 15 A n c l w :=
  ⟨fun i g hno => rset_no c h hn i g hno, fun k g x hr hk hx hlow => rset_low c h hn k g hr hk x hx hlow, fun k g x hr hk hx h1 h2 => rset_yes c h hn k g hr hk x hx h1 h2⟩

theorem rknown_post {n : Nat} {A : Option Addr} (c : Nat) {l : List Int} {w : World} (h : KH.Reads w w.heap.size 1 A n (l.map (.int .i64))) (hn : n ≤ maxLen) (a : Int) (ok : Bool) (hok : okB l n a = ok) :
    Calls Try.prog 16 #[.slice A n c, .int .i64 a] w (KnownPost w l a ok) := by
  unfold okB at hok
  cases ok
  · refine (rKnown_no c h hn a ?_).mono fun e w' ⟨he, hw⟩ => ⟨he, by subst hw; exact Below.refl _ _⟩
    rw [Bool.and_eq_false_iff, decide_eq_false_iff_not] at hok
    rcases hok with h' | h'
    · exact Or.inl h'
    · right; omega
  · rw [Bool.and_eq_true, decide_eq_true_iff] at hok
    exact (rKnown_yes c h hn a hok.1 hok.2.1 hok.2.2).mono fun e w' ⟨he, hw⟩ => ⟨he, by subst hw; exact Below.refl _ _⟩
end Go.Proofs.Ytcblailfmnicgaa
