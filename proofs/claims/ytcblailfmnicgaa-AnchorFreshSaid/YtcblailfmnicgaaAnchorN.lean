/- The plain law of answers and liars. -/
import Derived.Test.YtcblailfmnicgaaAnchorM
import Derived.Test.YtcblailfmnicgaaAnchorE
namespace Go.Proofs.Ytcblailfmnicgaa

theorem range_count (p : Nat → Bool) (k : Nat) : (List.range (k + 1)).countP p = (List.range k).countP p + if p k then 1 else 0 := by
  rw [List.range_succ, List.countP_append]; simp [List.countP_cons]

def atB (l : List Bool) (j : Nat) : Bool := l.getD j false
def rC (l : List Int) (g : Int) (k : Nat) : Nat := (List.range k).countP (fun j => geB g (l.getD j 0))
def kC (who : List Bool) (k : Nat) : Nat := (List.range k).countP (atB who)
def fC (who liar : List Bool) (k : Nat) : Nat := (List.range k).countP (fun j => atB who j && atB liar j)
def oneA (l : List Int) (who liar : List Bool) (lies : List Int) (k : Nat) : List Int :=
  if atB who k then (if atB liar k then (if k < lies.length then [lies.getD k 0] else []) else [l.getD k 0]) else []
def ans (l : List Int) (who liar : List Bool) (lies : List Int) : Nat → List Int
  | 0 => []
  | k + 1 => ans l who liar lies k ++ oneA l who liar lies k

theorem rC_le (l : List Int) (g : Int) (k : Nat) : rC l g k ≤ k := by
  have := List.countP_le_length (p := fun j => geB g (l.getD j 0)) (l := List.range k); simpa [rC] using this
theorem kC_le (who : List Bool) (k : Nat) : kC who k ≤ k := by
  have := List.countP_le_length (p := atB who) (l := List.range k); simpa [kC] using this
theorem fC_le (who liar : List Bool) (k : Nat) : fC who liar k ≤ k := by
  have := List.countP_le_length (p := fun j => atB who j && atB liar j) (l := List.range k); simpa [fC] using this

theorem rC_all (l : List Int) (g : Int) : rC l g l.length = l.countP (geB g) := by
  have e : (List.range l.length).map (fun j => l.getD j 0) = l := by
    refine List.ext_getElem (by simp) fun i h1 h2 => ?_
    simp [List.getD, List.getElem?_eq_getElem h2]
  conv => rhs; rw [← e]
  rw [List.countP_map]; rfl

theorem ans_mem {l : List Int} {who liar : List Bool} {lies : List Int} {n j : Nat} (hj : j < n) (h1 : atB who j = true) (h2 : atB liar j = false) : l.getD j 0 ∈ ans l who liar lies n := by
  induction n with
  | zero => omega
  | succ n ih =>
    rcases Nat.lt_or_ge j n with h | h
    · exact List.mem_append_left _ (ih h)
    · obtain rfl : j = n := by omega
      refine List.mem_append_right _ ?_
      unfold oneA; rw [if_pos h1, if_neg (by simp [h2])]; exact List.mem_singleton.2 rfl

theorem honest_count (who liar : List Bool) (n : Nat) : kC who n = fC who liar n + (List.range n).countP (fun j => atB who j && !atB liar j) := by
  unfold kC fC
  induction n with
  | zero => rfl
  | succ n ih =>
    rw [range_count, range_count, range_count, ih]
    cases atB who n <;> cases atB liar n <;> simp <;> omega

/-- whoever answers honestly and whoever reaches v meet -/
theorem newest_reaches {l : List Int} {who liar : List Bool} {lies : List Int} {n : Nat} {v a : Int} (hr : a ≤ (rC l v n : Nat)) (he : enoughB n (kC who n : Nat) a (fC who liar n : Nat) = true) :
    v ≤ gst (ans l who liar lies n) := by
  unfold enoughB at he
  rw [decide_eq_true_iff] at he
  have hc := honest_count who liar n
  obtain ⟨j, hj, h1, h2⟩ := meet (n := n) (p := fun j => atB who j && !atB liar j) (q := fun j => geB v (l.getD j 0)) (by
    unfold rC at hr; omega)
  rw [Bool.and_eq_true] at h1
  have h3 := ans_mem (l := l) (lies := lies) hj h1.1 (by simpa using h1.2)
  have h4 := gst_ge h3
  unfold geB at h2
  rw [decide_eq_true_iff] at h2
  exact Int.le_trans h2 h4

theorem fresh_law {l : List Int} {who liar : List Bool} {lies : List Int} {n : Nat} {g a : Int} (hl : l.length = n) (hR : rightB l = true) (hr : a ≤ (rC l g n : Nat)) (he : enoughB n (kC who n : Nat) a (fC who liar n : Nat) = true) :
    1 ≤ a ∧ a ≤ n ∧ g ≤ gst (ans l who liar lies n) ∧ g ≤ knownL l a ∧ knownL l a ≤ gst (ans l who liar lies n) := by
  have he' := he
  unfold enoughB at he'
  rw [decide_eq_true_iff] at he'
  have ha : 1 ≤ a := he'.2.2.2.1
  have han : a ≤ n := he'.2.2.2.2.1
  have hk := known_mem hR ha (by omega)
  refine ⟨ha, han, newest_reaches hr he, known_reach ha (by rw [← rC_all, hl]; exact hr), newest_reaches ?_ he⟩
  rw [← hl, rC_all]; exact hk.2
end Go.Proofs.Ytcblailfmnicgaa
