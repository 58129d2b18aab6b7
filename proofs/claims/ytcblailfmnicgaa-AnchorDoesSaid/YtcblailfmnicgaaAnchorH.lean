/- Known and Set, told or refused, in one contract each. -/
import Derived.Test.YtcblailfmnicgaaAnchorF
import Derived.Test.YtcblailfmnicgaaAnchorM
namespace Go.Proofs.Ytcblailfmnicgaa
open Go.RowKit

def kv (ok : Bool) (l : List Int) (a : Int) : Int := if ok then knownL l a else 0
def kc (ok : Bool) : Int := if ok then 0 else 1
/-- what Known comes to, told or refused -/
def KnownPost (w : World) (l : List Int) (a : Int) (ok : Bool) (e : Ending) (w' : World) : Prop :=
  e = .returned (.tuple #[.int .i64 (kv ok l a), .int .i64 (kc ok)]) ∧ Below w.heap.size w w'

def okB (l : List Int) (n : Nat) (a : Int) : Bool := rightB l && decide (1 ≤ a ∧ a ≤ n)

theorem known_post {n : Nat} {A : Option Addr} (c : Nat) {l : List Int} {w : World} (h : KH.Reads w w.heap.size 1 A n (l.map (.int .i64))) (hn : n ≤ maxLen) (a : Int) (ok : Bool) (hok : okB l n a = ok) :
    Calls Try.prog 12 #[.slice A n c, .int .i64 a] w (KnownPost w l a ok) := by
  unfold okB at hok
  cases ok
  · refine (known_no c h hn a ?_).mono fun e w' ⟨he, hw⟩ => ⟨he, by subst hw; exact Below.refl _ _⟩
    rw [Bool.and_eq_false_iff, decide_eq_false_iff_not] at hok
    rcases hok with h' | h'
    · exact Or.inl h'
    · right; omega
  · rw [Bool.and_eq_true, decide_eq_true_iff] at hok
    exact (known_yes c h hn a hok.1 hok.2.1 hok.2.2).mono fun e w' ⟨he, hw⟩ => ⟨he, hw⟩


/-- is it set? -/
def setB (l : List Int) (n : Nat) (i g : Int) : Bool := rightB l && genB g && decide (0 ≤ i ∧ i < n ∧ l.getD i.toNat 0 ≤ g)
/-- what Set comes to, told or refused -/
def SetPost (w : World) (l : List Int) (n : Nat) (i g : Int) (ok : Bool) (e : Ending) (w' : World) : Prop :=
  ∃ A' n' c' code, e = .returned (.tuple #[.slice A' n' c', .int .i64 code]) ∧ Below w.heap.size w w' ∧
    (ok = true → code = 0 ∧ n' = n ∧ w'.ownsRow w.heap.size 3 1 (.slice A' n c') n ((l.set i.toNat g).map (.int .i64))) ∧
    (ok = false → n' = 0 ∧ A' = none ∧ code = if rightB l && decide (0 ≤ i ∧ i < n) then 250 else 1)

theorem set_post {n : Nat} {A : Option Addr} (c : Nat) {l : List Int} {w : World} (h : KH.Reads w w.heap.size 1 A n (l.map (.int .i64))) (hn : n ≤ maxLen) (i g : Int) (ok : Bool) (hok : setB l n i g = ok) :
    Calls Try.prog 11 #[.slice A n c, .int .i64 i, .int .i64 g] w (SetPost w l n i g ok) := by
  have hl : l.length = n := by have := h.1; simpa using this
  by_cases hr : rightB l = true ∧ 0 ≤ i ∧ i < n
  · obtain ⟨hr, hi0, hi1⟩ := hr
    obtain ⟨k, rfl⟩ := Int.eq_ofNat_of_zero_le hi0
    have hx : l[k]? = some (l.getD k 0) := by rw [List.getD, List.getElem?_eq_getElem (by omega)]; rfl
    unfold setB at hok
    rw [hr, Bool.true_and, Int.toNat_natCast] at hok
    cases ok
    · refine (set_low c h hn k g hr (by omega) _ hx ?_).mono fun e w' ⟨he, hw⟩ => ?_
      · rw [Bool.and_eq_false_iff, decide_eq_false_iff_not] at hok
        rcases hok with h' | h'
        · exact Or.inr h'
        · left; omega
      · subst hw
        exact ⟨_, _, _, _, he, Below.refl _ _, fun h' => (by cases h'), fun _ => ⟨rfl, rfl, by rw [hr, Bool.true_and, if_pos (by simp; omega)]⟩⟩
    · rw [Bool.and_eq_true, decide_eq_true_iff] at hok
      refine (set_yes c h hn k g hr (by omega) _ hx (by omega) hok.1).mono fun e w' ⟨v, he, ho, hb⟩ => ?_
      obtain ⟨A', c', rfl⟩ := KH.own_form ho
      exact ⟨_, _, _, _, he, hb, fun _ => ⟨rfl, rfl, by rw [Int.toNat_natCast]; exact ho⟩, fun h' => (by cases h')⟩
  · have hno : rightB l = false ∨ i < 0 ∨ n ≤ i := by
      cases h' : rightB l
      · exact Or.inl rfl
      · right
        have : ¬ (0 ≤ i ∧ i < n) := fun h'' => hr ⟨h', h''⟩
        omega
    have hf : setB l n i g = false := by
      unfold setB
      rw [Bool.and_eq_false_iff, Bool.and_eq_false_iff, decide_eq_false_iff_not]
      rcases hno with h' | h'
      · exact Or.inl (Or.inl h')
      · right; omega
    rw [hf] at hok
    subst hok
    refine (set_no c h hn i g hno).mono fun e w' ⟨he, hw⟩ => ?_
    subst hw
    refine ⟨_, _, _, _, he, Below.refl _ _, fun h' => (by cases h'), fun _ => ⟨rfl, rfl, ?_⟩⟩
    rw [if_neg]
    rw [Bool.and_eq_true, decide_eq_true_iff]
    exact hr
end Go.Proofs.Ytcblailfmnicgaa
