/- The plain laws of anchors: what is known, what rises and falls, which answers meet. -/
import Derived.Test.YtcblailfmnicgaaAnchorC
namespace Go.Proofs.Ytcblailfmnicgaa

theorem foldl_max_ge (l : List Int) (s : Int) : s ≤ l.foldl max s ∧ ∀ x ∈ l, x ≤ l.foldl max s := by
  induction l generalizing s with
  | nil => exact ⟨Int.le_refl _, by simp⟩
  | cons y l ih =>
    obtain ⟨h1, h2⟩ := ih (max s y)
    refine ⟨by rw [List.foldl_cons]; omega, fun x hx => ?_⟩
    rw [List.foldl_cons]
    rcases List.mem_cons.1 hx with rfl | hx
    · omega
    · exact h2 x hx
theorem foldl_max_mem (l : List Int) (s : Int) : l.foldl max s = s ∨ l.foldl max s ∈ l := by
  induction l generalizing s with
  | nil => exact Or.inl rfl
  | cons y l ih =>
    rw [List.foldl_cons]
    rcases ih (max s y) with h | h
    · rw [h]
      rcases Int.le_total s y with h' | h'
      · right; rw [show max s y = y by omega]; exact List.mem_cons_self
      · left; omega
    · right; exact List.mem_cons_of_mem _ h
theorem gst_nonneg (l : List Int) : 0 ≤ gst l := (foldl_max_ge l 0).1
theorem gst_ge {l : List Int} {x : Int} (h : x ∈ l) : x ≤ gst l := (foldl_max_ge l 0).2 x h
theorem gst_mem (l : List Int) : gst l = 0 ∨ gst l ∈ l := foldl_max_mem l 0

theorem exists_min {l : List Int} (h : l ≠ []) : ∃ m, m ∈ l ∧ ∀ x ∈ l, m ≤ x := by
  induction l with
  | nil => exact absurd rfl h
  | cons y l ih =>
    by_cases hl : l = []
    · subst hl; exact ⟨y, List.mem_cons_self, by simp⟩
    · obtain ⟨m, hm, ha⟩ := ih hl
      rcases Int.le_total y m with h' | h'
      · refine ⟨y, List.mem_cons_self, fun x hx => ?_⟩
        rcases List.mem_cons.1 hx with rfl | hx
        · exact Int.le_refl _
        · have := ha x hx; omega
      · refine ⟨m, List.mem_cons_of_mem _ hm, fun x hx => ?_⟩
        rcases List.mem_cons.1 hx with rfl | hx
        · exact h'
        · exact ha x hx

theorem right_iff {l : List Int} : rightB l = true ↔ l.length ≤ 16 ∧ ∀ x ∈ l, 0 ≤ x ∧ x ≤ 1000000000 := by simp [rightB]

theorem known_reach {l : List Int} {a v : Int} (ha : 1 ≤ a) (h : a ≤ (l.countP (geB v) : Nat)) : v ≤ knownL l a := by
  have hne : l.filter (geB v) ≠ [] := by
    intro he
    rw [List.countP_eq_length_filter, he] at h
    simp at h; omega
  obtain ⟨m, hm, hmin⟩ := exists_min hne
  obtain ⟨hml, hmv⟩ := List.mem_filter.1 hm
  have hvm : v ≤ m := by simpa [geB] using hmv
  have hcnt : l.countP (geB v) ≤ l.countP (geB m) := by
    refine List.countP_mono_left fun x hx hxv => ?_
    have := hmin x (List.mem_filter.2 ⟨hx, hxv⟩)
    simpa [geB] using this
  have hr : reachB l a m = true := by unfold reachB; rw [decide_eq_true_iff]; omega
  have := gst_ge (List.mem_filter.2 ⟨hml, hr⟩)
  exact Int.le_trans hvm this

theorem known_mem {l : List Int} {a : Int} (hr : rightB l = true) (ha : 1 ≤ a) (hl : a ≤ (l.length : Nat)) : knownL l a ∈ l ∧ a ≤ (l.countP (geB (knownL l a)) : Nat) := by
  obtain ⟨_, hall⟩ := right_iff.1 hr
  have hne : l ≠ [] := by intro he; subst he; simp at hl; omega
  obtain ⟨m, hm, hmin⟩ := exists_min hne
  have hc : l.countP (geB m) = l.length := by
    rw [List.countP_eq_length]; intro x hx; simpa [geB] using hmin x hx
  have hrm : reachB l a m = true := by unfold reachB; rw [decide_eq_true_iff]; omega
  have hmf : m ∈ l.filter (reachB l a) := List.mem_filter.2 ⟨hm, hrm⟩
  have hk : knownL l a ∈ l.filter (reachB l a) := by
    rcases gst_mem (l.filter (reachB l a)) with h | h
    · have h1 := gst_ge hmf
      have h2 := (hall m hm).1
      have : m = knownL l a := by unfold knownL; omega
      rw [← this]; exact hmf
    · exact h
  obtain ⟨h1, h2⟩ := List.mem_filter.1 hk
  refine ⟨h1, ?_⟩
  unfold reachB at h2
  simpa using h2

def gtB (b x : Int) : Bool := decide (b < x)

theorem known_above {l : List Int} {a : Int} (ha : 1 ≤ a) : ((l.countP (gtB (knownL l a)) : Nat) : Int) < a := by
  rcases Int.lt_or_le ((l.countP (gtB (knownL l a)) : Nat) : Int) a with h | h
  · exact h
  · exfalso
    have e : l.countP (gtB (knownL l a)) = l.countP (geB (knownL l a + 1)) := by
      rfl
    rw [e] at h
    have := known_reach ha h
    omega

theorem known_mono {l : List Int} {a b : Int} (hr : rightB l = true) (ha : 1 ≤ a) (hab : a ≤ b) (hb : b ≤ (l.length : Nat)) : knownL l b ≤ knownL l a :=
  known_reach ha (by have := (known_mem hr (a := b) (by omega) hb).2; omega)

theorem known_one {l : List Int} (hr : rightB l = true) (hl : (1 : Int) ≤ (l.length : Nat)) : knownL l 1 = gst l := by
  have h1 := known_mem hr (a := 1) (by omega) hl
  have h2 := gst_ge h1.1
  obtain ⟨_, hall⟩ := right_iff.1 hr
  have hm : gst l ∈ l := by
    rcases gst_mem l with h | h
    · have := hall _ h1.1
      have h3 : knownL l 1 = gst l := by omega
      rw [← h3]; exact h1.1
    · exact h
  have h4 : (1 : Int) ≤ (l.countP (geB (gst l)) : Nat) := by
    have : 0 < l.countP (geB (gst l)) := List.countP_pos_iff.2 ⟨_, hm, by simp [geB]⟩
    omega
  have := known_reach (by omega) h4
  omega

theorem set_right {l : List Int} {k : Nat} {g : Int} (hr : rightB l = true) (hg : genB g = true) : rightB (l.set k g) = true := by
  obtain ⟨h1, h2⟩ := right_iff.1 hr
  refine right_iff.2 ⟨by simpa using h1, fun x hx => ?_⟩
  rcases List.mem_or_eq_of_mem_set hx with h | rfl
  · exact h2 x h
  · simpa [genB] using hg

theorem countP_set_le {p : Int → Bool} {l : List Int} {k : Nat} {g x : Int} (hx : l[k]? = some x) (hp : p x = true → p g = true) : l.countP p ≤ (l.set k g).countP p := by
  induction l generalizing k with
  | nil => simp
  | cons y l ih =>
    cases k with
    | zero =>
      simp only [List.getElem?_cons_zero, Option.some.injEq] at hx
      subst hx
      simp only [List.set_cons_zero, List.countP_cons]
      cases h1 : p y
      · simp
      · simp [hp h1]
    | succ k =>
      simp only [List.getElem?_cons_succ] at hx
      simp only [List.set_cons_succ, List.countP_cons]
      have := ih hx
      omega

theorem set_rises {l : List Int} {k : Nat} {g x a : Int} (hr : rightB l = true) (ha : 1 ≤ a) (hl : a ≤ (l.length : Nat)) (hx : l[k]? = some x) (hge : x ≤ g) : knownL l a ≤ knownL (l.set k g) a := by
  refine known_reach ha ?_
  have h1 := (known_mem hr ha hl).2
  have h2 := countP_set_le (p := geB (knownL l a)) hx (g := g) (by simp [geB]; omega)
  omega

/-- a set of n places and another one that are more than n together meet -/
theorem meet {n : Nat} {p q : Nat → Bool} (h : n < (List.range n).countP p + (List.range n).countP q) : ∃ j, j < n ∧ p j = true ∧ q j = true := by
  rcases Classical.em (∃ j, j < n ∧ p j = true ∧ q j = true) with h' | h'
  · exact h'
  · exfalso
    have : (List.range n).countP p + (List.range n).countP q ≤ (List.range n).length := by
      have hq : (List.range n).countP q ≤ (List.range n).countP (fun j => !p j) := by
        refine List.countP_mono_left fun j hj hqj => ?_
        cases hp : p j
        · rfl
        · exact absurd ⟨j, List.mem_range.1 hj, hp, hqj⟩ h'
      have := List.length_eq_countP_add_countP p (l := List.range n)
      have e : List.countP (fun a => decide ¬p a = true) (List.range n) = List.countP (fun j => !p j) (List.range n) := by
        congr 1; funext j; cases p j <;> rfl
      omega
    rw [List.length_range] at this
    omega
end Go.Proofs.Ytcblailfmnicgaa
