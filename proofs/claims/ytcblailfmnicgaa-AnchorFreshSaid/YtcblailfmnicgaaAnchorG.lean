/- The walks of the document's answer for package anchor. -/
import Derived.Test.YtcblailfmnicgaaAnchorE
namespace Go.Proofs.Ytcblailfmnicgaa
open Go.RowKit

theorem mem_of_get {l : List Int} {k : Nat} {x : Int} (h : l[k]? = some x) : x ∈ l := List.mem_of_getElem? h

/-- Are is right -/
theorem are_any {B n : Nat} {A : Option Addr} (c : Nat) {l : List Int} {w : World} (h : KH.Reads w B 1 A n (l.map (.int .i64))) (hn : n ≤ maxLen) :
    Calls Try.prog 13 #[.slice A n c] w fun e w' => e = .returned (.bool (rightB l)) ∧ w = w' := by
  have hm : n ≤ 9223372036854775807 := by unfold maxLen at hn; omega
  have hl : l.length = n := by have := h.1; simpa using this
  have HL := KH.hid hl; clear hl
  go_enter Try.func13, Try.ntmps13
  go_wp2
  go_loop [3] (fun i => ∃ k : Nat, k ≤ n ∧ i = .int .i64 k ∧ (∀ j x, j < k → l[j]? = some x → 0 ≤ x ∧ x ≤ 1000000000)) (fun i => n - (intOf i).toNat)
  case atStart => exact ⟨0, Nat.zero_le _, rfl, fun j x hj => by omega⟩
  case round =>
    obtain ⟨k, hk, rfl, hall⟩ := hrel
    have HA := KH.hid hall; clear hall
    by_cases hlt : k < n
    · obtain ⟨ad, x, rfl, _, hx, hc⟩ := h.int hlt
      have HX := KH.hid hx; clear hx
      by_cases h0 : x < 0
      · have HF : Hid (rightB l = false) := by
          unfold Hid rightB; rw [decide_eq_false_iff_not]; intro hh; have := hh.2 x (mem_of_get HX.out); omega
        go_wp2
        go_ret
        exact ⟨KH.ret_bool HF.out.symm, rfl⟩
      · by_cases h1 : 1000000000 < x
        · have HF : Hid (rightB l = false) := by
            unfold Hid rightB; rw [decide_eq_false_iff_not]; intro hh; have := hh.2 x (mem_of_get HX.out); omega
          go_wp2
          go_ret
          exact ⟨KH.ret_bool HF.out.symm, rfl⟩
        · go_wp2
          go_round
          case rel =>
            refine ⟨k + 1, by omega, by go_num, fun j y hj hy => ?_⟩
            rcases Nat.lt_or_ge j k with hjk | hjk
            · exact HA.out j y hjk hy
            · obtain rfl : j = k := by omega
              rw [HX.out] at hy; injection hy with hy; omega
          case measure => simp [intOf]; omega
    · obtain rfl : k = n := by omega
      have HF : Hid (rightB l = decide ((k : Int) ≤ 16)) := by
        unfold Hid rightB
        have hl := HL.out
        rw [decide_eq_decide]
        constructor
        · intro hh; omega
        · intro hh
          refine ⟨by omega, fun x hx => ?_⟩
          obtain ⟨j, hj, rfl⟩ := List.getElem_of_mem hx
          exact HA.out j _ (by omega) (List.getElem?_eq_getElem hj)
      go_wp2
      go_ret
      exact ⟨KH.ret_bool HF.out.symm, rfl⟩

theorem reach_any {B n : Nat} {A : Option Addr} (c : Nat) {l : List Int} {w : World} (h : KH.Reads w B 1 A n (l.map (.int .i64))) (hn : n ≤ maxLen) (g : Int) :
    Calls Try.prog 26 #[.slice A n c, .int .i64 g] w fun e w' => e = .returned (.int .i64 (l.countP (geB g) : Nat)) ∧ w = w' := by
  unfold maxLen at hn
  have hl : l.length = n := by have := h.1; simpa using this
  have HL := KH.hid hl; clear hl
  go_enter Try.func26, Try.ntmps26
  go_wp2
  go_loop [5, 6] (fun s i => ∃ k : Nat, k ≤ n ∧ i = .int .i64 k ∧ s = .int .i64 ((l.take k).countP (geB g) : Nat)) (fun _ i => n - (intOf i).toNat)
  case atStart => exact ⟨0, Nat.zero_le _, rfl, rfl⟩
  case round =>
    obtain ⟨k, hk, rfl, rfl⟩ := hrel
    have hcnt : (l.take k).countP (geB g) ≤ k := Nat.le_trans List.countP_le_length (List.length_take_le _ _)
    by_cases hlt : k < n
    · obtain ⟨ad, x, rfl, _, hx, hc⟩ := h.int hlt
      have HS := KH.hid (take_count (geB g) l k x hx); clear hx
      generalize (l.take k).countP (geB g) = s at *
      by_cases hg : g ≤ x
      · have HG : Hid (geB g x = true) := by unfold Hid geB; simpa using hg
        go_wp2
        go_round
        case rel => exact ⟨k + 1, by omega, by go_num, by rw [HS.out, HG.out]; go_num⟩
        case measure => simp [intOf]; omega
      · have HG : Hid (geB g x = false) := by unfold Hid geB; simpa using hg
        go_wp2
        go_round
        case rel => exact ⟨k + 1, by omega, by go_num, by rw [HS.out, HG.out]; rfl⟩
        case measure => simp [intOf]; omega
    · obtain rfl : k = n := by omega
      go_wp2
      go_ret
      exact ⟨KH.ret_int (by rw [List.take_of_length_le (by have := HL.out; omega)]), rfl⟩

theorem rNewest_any {B n : Nat} {A : Option Addr} (c : Nat) {l : List Int} {w : World} (h : KH.Reads w B 1 A n (l.map (.int .i64))) (hn : n ≤ maxLen) :
    Calls Try.prog 18 #[.slice A n c] w fun e w' => e = .returned (.int .i64 (gst l)) ∧ w = w' := by
  unfold maxLen at hn
  have hl : l.length = n := by have := h.1; simpa using this
  have HL := KH.hid hl; clear hl
  go_enter Try.func18, Try.ntmps18
  go_wp2
  go_loop [3, 4] (fun s i => ∃ k : Nat, k ≤ n ∧ i = .int .i64 k ∧ s = .int .i64 (gst (l.take k))) (fun _ i => n - (intOf i).toNat)
  case atStart => exact ⟨0, Nat.zero_le _, rfl, rfl⟩
  case round =>
    obtain ⟨k, hk, rfl, rfl⟩ := hrel
    by_cases hlt : k < n
    · obtain ⟨ad, x, rfl, _, hx, hc⟩ := h.int hlt
      have HS := KH.hid (gst_snoc l k x hx); clear hx
      generalize gst (l.take k) = s at *
      by_cases hgt : s < x
      · go_wp2
        go_round
        case rel => exact ⟨k + 1, by omega, by go_num, by rw [HS.out, if_pos hgt]⟩
        case measure => simp [intOf]; omega
      · go_wp2
        go_round
        case rel => exact ⟨k + 1, by omega, by go_num, by rw [HS.out, if_neg hgt]⟩
        case measure => simp [intOf]; omega
    · obtain rfl : k = n := by omega
      go_wp2
      go_ret
      exact ⟨KH.ret_int (by rw [List.take_of_length_le (by have := HL.out; omega)]), rfl⟩

theorem filter_snoc_gst (l : List Int) (a : Int) (k : Nat) (x : Int) (h : l[k]? = some x) :
    gst ((l.take (k + 1)).filter (reachB l a)) = if reachB l a x = true ∧ gst ((l.take k).filter (reachB l a)) < x then x else gst ((l.take k).filter (reachB l a)) := by
  rw [take_filter _ _ _ _ h]
  cases hr : reachB l a x
  · simp
  · unfold gst
    simp only [if_true, List.foldl_append, List.foldl_cons, List.foldl_nil, true_and]
    rw [Int.max_def]
    by_cases h1 : List.foldl max 0 (List.filter (reachB l a) (List.take k l)) < x
    · rw [if_pos h1, if_pos (by omega)]
    · rw [if_neg h1]; split <;> omega

theorem rKnown_no {B n : Nat} {A : Option Addr} (c : Nat) {l : List Int} {w : World} (h : KH.Reads w B 1 A n (l.map (.int .i64))) (hn : n ≤ maxLen) (a : Int) (hno : rightB l = false ∨ a < 1 ∨ n < a) :
    Calls Try.prog 16 #[.slice A n c, .int .i64 a] w fun e w' => e = .returned (.tuple #[.int .i64 0, .int .i64 1]) ∧ w = w' := by
  have hm : n ≤ 9223372036854775807 := by unfold maxLen at hn; omega
  cases hr : rightB l with
  | false =>
    clear hno
    go_enter Try.func16, Try.ntmps16
    go_wp2_with fail
    refine (are_any _ h hn).mono ?_; rintro e w' ⟨rfl, rfl⟩
    rw [hr]
    go_wp2
    go_ret2
    exact ⟨rfl, rfl⟩
  | true =>
    have hno' : a < 1 ∨ (1 ≤ a ∧ n < a) := by
      rcases hno with h' | h' | h'
      · rw [hr] at h'; cases h'
      · exact Or.inl h'
      · omega
    clear hno
    rcases hno' with h1 | ⟨h1, h2⟩
    · go_enter Try.func16, Try.ntmps16
      go_wp2_with fail
      refine (are_any _ h hn).mono ?_; rintro e w' ⟨rfl, rfl⟩
      rw [hr]
      go_wp2
      go_ret2
      exact ⟨rfl, rfl⟩
    · go_enter Try.func16, Try.ntmps16
      go_wp2_with fail
      refine (are_any _ h hn).mono ?_; rintro e w' ⟨rfl, rfl⟩
      rw [hr]
      go_wp2
      go_ret2
      exact ⟨rfl, rfl⟩

theorem rKnown_yes {B n : Nat} {A : Option Addr} (c : Nat) {l : List Int} {w : World} (h : KH.Reads w B 1 A n (l.map (.int .i64))) (hn : n ≤ maxLen) (a : Int) (hr : rightB l = true) (ha1 : 1 ≤ a) (ha2 : a ≤ n) :
    Calls Try.prog 16 #[.slice A n c, .int .i64 a] w fun e w' => e = .returned (.tuple #[.int .i64 (knownL l a), .int .i64 0]) ∧ w = w' := by
  have hm : n ≤ 9223372036854775807 := by unfold maxLen at hn; omega
  have hl : l.length = n := by have := h.1; simpa using this
  have HL := KH.hid hl; clear hl
  go_enter Try.func16, Try.ntmps16
  go_wp2_with fail
  refine (are_any _ h hn).mono ?_; rintro e w' ⟨rfl, rfl⟩
  rw [hr]
  clear hr
  go_wp2_with fail
  go_loop [6, 7] (fun s i => ∃ k : Nat, k ≤ n ∧ i = .int .i64 k ∧ s = .int .i64 (gst ((l.take k).filter (reachB l a)))) (fun _ i => n - (intOf i).toNat)
  case atStart => exact ⟨0, Nat.zero_le _, rfl, rfl⟩
  case round =>
    obtain ⟨k, hk, rfl, rfl⟩ := hrel
    by_cases hlt : k < n
    · obtain ⟨ad, x, rfl, _, hx, hc⟩ := h.int hlt
      have HS := KH.hid (filter_snoc_gst l a k x hx); clear hx
      generalize gst ((l.take k).filter (reachB l a)) = s at *
      cases hrb : reachB l a x
      · have hcond : ¬ a ≤ (l.countP (geB x) : Nat) := by unfold reachB at hrb; simpa using hrb
        have hcd : decide (a ≤ ((l.countP (geB x) : Nat) : Int)) = false := by simpa using hcond
        rw [hrb] at HS
        clear hrb
        go_wp2_with fail
        refine (reach_any _ h hn x).mono ?_; rintro e w' ⟨rfl, rfl⟩
        go_wp2
        go_round
        case rel => exact ⟨k + 1, by omega, by go_num, by rw [HS.out]; simp⟩
        case measure => simp [intOf]; omega
      · have hcond : a ≤ (l.countP (geB x) : Nat) := by unfold reachB at hrb; simpa using hrb
        rw [hrb] at HS
        clear hrb
        by_cases hgt : s < x
        · go_wp2_with fail
          refine (reach_any _ h hn x).mono ?_; rintro e w' ⟨rfl, rfl⟩
          go_wp2
          go_round
          case rel => exact ⟨k + 1, by omega, by go_num, by rw [HS.out]; simp [hgt]⟩
          case measure => simp [intOf]; omega
        · have hgd : decide (s < x) = false := by simpa using hgt
          go_wp2_with fail
          refine (reach_any _ h hn x).mono ?_; rintro e w' ⟨rfl, rfl⟩
          go_wp2
          go_round
          case rel => exact ⟨k + 1, by omega, by go_num, by rw [HS.out, if_neg (by omega)]⟩
          case measure => simp [intOf]; omega
    · obtain rfl : k = n := by omega
      have HF : Hid (gst ((l.take k).filter (reachB l a)) = knownL l a) := by
        unfold Hid knownL; rw [List.take_of_length_le (by have := HL.out; omega)]
      generalize gst ((l.take k).filter (reachB l a)) = s at *
      go_wp2
      go_ret2
      exact ⟨by rw [← HF.out]; rfl, rfl⟩
end Go.Proofs.Ytcblailfmnicgaa
