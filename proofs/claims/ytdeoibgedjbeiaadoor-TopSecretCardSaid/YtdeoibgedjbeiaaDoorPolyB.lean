/- The walk of poly.right: are they places? -/
import Derived.Test.YtdeoibgedjbeiaaDoorPolyA
import Derived.Maps.OwnOps
import Derived.Maps.OwnSet
namespace Go.Proofs.YtdeoibgedjbeiaaDoor
open Go.RowKit Go.Maps

theorem int_law : Keyed Tryd.prog 3 := int_keyed Tryd.underlying3

/-- the map after k rounds -/
def Th (l : List Int) : Nat → DataW Unit
  | 0 => .map []
  | k + 1 => (Th l k).put (.int .i64 (l.getD k 0)) (.lit (.int .i64 (k : Nat)))

theorem take_mem (l : List Int) (k : Nat) (hk : k < l.length) (x : Int) : x ∈ l.take (k + 1) ↔ x ∈ l.take k ∨ x = l.getD k 0 := by
  rw [List.take_add_one, List.mem_append, List.getD, List.getElem?_eq_getElem hk]
  simp
theorem take_nodup (l : List Int) (k : Nat) (hk : k < l.length) : (l.take (k + 1)).Nodup ↔ (l.take k).Nodup ∧ l.getD k 0 ∉ l.take k := by
  rw [List.take_add_one, List.getD, List.getElem?_eq_getElem hk, List.nodup_append]
  simp
  intro _
  constructor
  · intro h hm; exact h _ hm rfl
  · intro h a ha e; subst e; exact h ha

theorem th_facts (l : List Int) (k : Nat) (hk : k ≤ l.length) :
    Tidy (Th l k) ∧ (∀ x, has (Th l k) (.int .i64 x) = decide (x ∈ l.take k)) ∧ size (Th l k) ≤ k ∧ (size (Th l k) = k ↔ (l.take k).Nodup) := by
  induction k with
  | zero => exact ⟨tidy_empty, fun x => by simp [Th, has], Nat.le_refl _, by simp [Th, size]⟩
  | succ k ih =>
    obtain ⟨h1, h2, h3, h4⟩ := ih (by omega)
    have hl : k < l.length := by omega
    refine ⟨h1.put (k := .int .i64 (l.getD k 0)) trivial _, fun x => ?_, ?_, ?_⟩
    · unfold Th
      by_cases e : x = l.getD k 0
      · subst e
        rw [has_put_same h1.isMap (k := .int .i64 (l.getD k 0)) trivial]
        exact (decide_eq_true ((take_mem l k hl _).2 (Or.inr rfl))).symm
      · rw [has_put_other (by intro h; injection h with _ h; exact e h), h2 x]
        congr 1
        rw [take_mem l k hl]
        exact propext ⟨Or.inl, fun h => h.elim id fun h => absurd h e⟩
    · unfold Th
      rw [size_put h1]
      split <;> omega
    · unfold Th
      rw [size_put h1, take_nodup l k hl, h2]
      by_cases e : l.getD k 0 ∈ l.take k
      · rw [decide_eq_true e, if_pos rfl]
        constructor
        · intro h; omega
        · intro h; exact absurd e h.2
      · rw [decide_eq_false e]
        simp only [Bool.false_eq_true, if_false]
        rw [← h4]
        constructor
        · intro h; exact ⟨by omega, e⟩
        · intro h; omega

/-- are they places? -/
def placesB (l : List Int) : Bool := decide (1 ≤ l.length ∧ l.length ≤ 255 ∧ l.Nodup) && allB l

set_option maxRecDepth 100000 in
theorem right_any {n : Nat} {A : Option Addr} (c : Nat) {l : List Int} {w : World} (h : KH.Reads w w.heap.size 1 A n (l.map (.int .i64))) (hn : n ≤ maxLen) :
    Calls Tryd.prog 50 #[.slice A n c] w fun e w' => e = .returned (.bool (placesB l)) ∧ Below w.heap.size w w' := by
  have hl : l.length = n := by have := h.1; simpa using this
  have hm : n ≤ 9223372036854775807 := by unfold maxLen at hn; omega
  by_cases h1 : 1 ≤ n
  · by_cases h255 : n ≤ 255
    · cases ha : allB l
      · have HP : Hid (placesB l = false) := by unfold Hid placesB; rw [ha, Bool.and_false]
        clear hl
        go_enter Tryd.func50, Tryd.ntmps50
        go_wp2_with fail
        refine (digits_any _ h hn).mono ?_; rintro e w' ⟨rfl, rfl⟩
        rw [ha]
        go_wp2
        go_ret
        exact ⟨KH.ret_bool HP.out.symm, Below.refl _ _⟩
      · have hT := th_facts l n (by omega)
        obtain ⟨_, _, hT3, hT4⟩ := hT
        rw [List.take_of_length_le (by omega)] at hT4
        have HP : Hid (placesB l = ((size (Th l n) : Int) == (n : Int))) := by
          unfold Hid placesB
          rw [ha, Bool.and_true, Bool.eq_iff_iff, decide_eq_true_iff, beq_iff_eq]
          constructor
          · intro h'; have := hT4.2 h'.2.2; omega
          · intro h'; exact ⟨by omega, by omega, hT4.1 (by omega)⟩
        have HW : Hid (∀ x ∈ l, 0 ≤ x ∧ x ≤ 255) := allB_iff.1 ha
        have HL := KH.hid hl
        have hmm := @run_makeMap Tryd.prog
        clear hl hT3 hT4
        go_enter Tryd.func50, Tryd.ntmps50
        go_wp2_with fail
        refine (digits_any _ h hn).mono ?_; rintro e w' ⟨rfl, rfl⟩
        rw [ha]
        clear ha
        go_wp2
        go_loopw [22] (fun i wr => ∃ k : Nat, k ≤ n ∧ i = .int .i64 k ∧ wr.ownsMap Tryd.prog 3 (plainElem Tryd.prog 3) w.heap.size k (Th l k) ∧ Below w.heap.size w wr) (fun i _ => n - (intOf i).toNat)
        case atStart => exact ⟨0, Nat.zero_le _, rfl, World.ownsMap_made _ _ _ _, (Below.refl _ _).alloc (Nat.le_refl _) _⟩
        case round =>
          obtain ⟨k, hk, rfl, hown, hb⟩ := hrel
          by_cases hlt : k < n
          · obtain ⟨ad, x, rfl, _, hx, hc⟩ := (h.below hb).int hlt
            have HX : Hid (l.getD k 0 = x) := by unfold Hid; rw [List.getD, hx]; rfl
            have hx' := HW.out x (List.mem_of_getElem? hx)
            have hwf : (Lit.int .i64 x).wf = true := by simp [Lit.wf, IntKind.min, IntKind.max, IntKind.bits, IntKind.signed]; omega
            have hwk : (Lit.int .i64 (k : Int)).wf = true := by simp [Lit.wf, IntKind.min, IntKind.max, IntKind.bits, IntKind.signed]; omega
            have HTH : Hid (Th l (k + 1) = (Th l k).put (.int .i64 x) (.lit (.int .i64 (k : Nat)))) := by unfold Hid; show (Th l k).put (.int .i64 (l.getD k 0)) _ = _; rw [HX.out]
            have hkey := keyOf_int_mk Tryd.underlying3 hwf
            clear hx hmm
            generalize Th l k = D at *
            go_wp2_with (at_mapUpdate; refine wpList_mapUpdate_own _ rfl _ _ _ 98 rfl 3 3 int_law Tryd.underlying98 _ w.heap.size k _ rfl hown (by unfold maxLen; omega) _ _ _ rfl rfl hkey _ [] (plainElem_int Tryd.underlying3 hwk) ?_; intro w1 hown1 hgrow1)
            clear hkey hwf hwk
            go_roundw
            case rel => exact ⟨k + 1, by omega, by go_num, by rw [HTH.out]; exact hown1, hb.grown hgrow1 hb.size (fun j hj => by cases hj; exact Nat.le_refl _)⟩
            case measure => simp [intOf]; omega
          · obtain rfl : k = n := by omega
            clear hmm
            go_wp2_with (at_len; refine wpList_len_own _ rfl _ 98 rfl 3 3 Tryd.underlying98 _ w.heap.size k _ rfl hown ?_)
            go_ret
            exact ⟨KH.ret_bool HP.out.symm, hb⟩
    · have HP : Hid (placesB l = false) := by unfold Hid placesB; rw [decide_eq_false (by omega)]; rfl
      clear hl
      go_enter Tryd.func50, Tryd.ntmps50
      go_wp2
      go_ret
      exact ⟨KH.ret_bool HP.out.symm, Below.refl _ _⟩
  · have HP : Hid (placesB l = false) := by unfold Hid placesB; rw [decide_eq_false (by omega)]; rfl
    clear hl
    go_enter Tryd.func50, Tryd.ntmps50
    go_wp2
    go_ret
    exact ⟨KH.ret_bool HP.out.symm, Below.refl _ _⟩
end Go.Proofs.YtdeoibgedjbeiaaDoor
