/- For any row and three numbers AnchorRises returns true and turns nothing that was there: anchors only rise; what is known to a is reached by a of them, and nothing above it is. No condition. -/
import Derived.Test.YtcblailfmnicgaaAnchorH
import Derived.Test.YtcblailfmnicgaaArgs
import Derived.WalkKit
import Derived.ProofKit
import Derived.OpenShut
import Derived.ShutString
import Derived.ChangeOld
import Derived.Below
namespace Go.Proofs.Ytcblailfmnicgaa.anchorRises
open Go.ChangeShapes Go.WideShapes Go.ChangeAt Go.RowKit
open Go.ChangeMaps (open_string shut_string)
open KH (IntsIn ints_in BoolsIn bools_in StrsIn strs_in)
set_option linter.unusedVariables false

open KH
theorem gt_count (b : Int) (l : List Int) (k : Nat) (x : Int) (h : l[k]? = some x) : (l.take (k + 1)).countP (gtB b) = (l.take k).countP (gtB b) + if gtB b x then 1 else 0 := take_count (gtB b) l k x h

set_option maxHeartbeats 2000000 in
set_option maxRecDepth 100000 in
theorem core {A : Option Addr} {n c : Nat} {l : List Int} {w : World} (hr : KH.Reads w w.heap.size 1 A n (l.map (.int .i64))) (hl : l.length = n) (h60 : n ≤ 60) (i g a : Int)
    (oa os : Bool) (ha : okB l n a = oa) (hs : setB l n i g = os) :
    Calls Try.prog 4 #[.slice A n c, .int .i64 i, .int .i64 g, .int .i64 a] w fun e w' => e = .returned (.bool true) ∧ Below w.heap.size w w' := by
  have hn : n ≤ maxLen := by unfold maxLen; omega
  have HL := KH.hid hl
  have HSB : Hid (os = true → 0 ≤ i ∧ i < n ∧ l.getD i.toNat 0 ≤ g) := by
    intro ho; subst ho
    unfold setB at hs
    rw [Bool.and_eq_true, decide_eq_true_iff] at hs
    exact hs.2
  have HKS : Hid ((os = true → 0 ≤ i ∧ i < n ∧ l.getD i.toNat 0 ≤ g) → os = true → okB (l.set i.toNat g) n a = oa) := by
    intro _ ho; subst ho
    unfold setB at hs
    rw [Bool.and_eq_true, Bool.and_eq_true] at hs
    unfold okB at ha ⊢
    rw [set_right hs.1.1 hs.1.2, ← ha, hs.1.1]
  have HRI : Hid ((os = true → 0 ≤ i ∧ i < n ∧ l.getD i.toNat 0 ≤ g) → os = true → kv oa l a ≤ kv oa (l.set i.toNat g) a) := by
    intro h1 ho
    cases oa
    · simp [kv]
    · obtain ⟨h2, h3, h4⟩ := h1 ho
      unfold okB at ha
      rw [Bool.and_eq_true, decide_eq_true_iff] at ha
      simp only [kv, if_true]
      exact set_rises ha.1 ha.2.1 (by omega) (x := l.getD i.toNat 0) (by rw [List.getD, List.getElem?_eq_getElem (by omega)]; rfl) h4
  have HCN : Hid (oa = true → a ≤ (l.countP (geB (knownL l a)) : Nat) ∧ ((l.countP (gtB (knownL l a)) : Nat) : Int) < a) := by
    intro ho; subst ho
    unfold okB at ha
    rw [Bool.and_eq_true, decide_eq_true_iff] at ha
    exact ⟨(known_mem ha.1 ha.2.1 (by omega)).2, known_above ha.2.1⟩
  clear hl
  go_enter Try.func4, Try.ntmps4
  go_wp2_with fail
  refine (set_post c hr hn i g os hs).mono ?_; rintro e w1 ⟨A', n', c', code, rfl, hb1, hyes, hno⟩
  have HY := KH.hid hyes; clear hyes
  have HN := KH.hid hno; clear hno
  have hr1 := (hr.below hb1).more hb1.size
  go_wp2_with fail
  refine (known_post c hr1 hn a oa ha).mono ?_; rintro e w2 ⟨rfl, hb2⟩
  have hr2 := (hr1.below hb2).more hb2.size
  have hb12 := hb1.trans (hb2.mono hb1.size)
  clear hr hr1 hb1 ha hs
  cases oa
  · simp only [kv, kc, Bool.false_eq_true, if_false]
    clear HCN
    cases os
    · have hno := HN.out
      clear HY HN HKS HRI HSB
      obtain ⟨rfl, rfl, rfl⟩ := hno rfl
      have hne : ((if (rightB l && decide (0 ≤ i ∧ i < n)) = true then (250 : Int) else 1) != 0) = true := by split <;> decide
      generalize (if (rightB l && decide (0 ≤ i ∧ i < n)) = true then (250 : Int) else 1) = code at *
      go_wp2_with fail
      refine (anchors_any _).mono ?_; rintro e w5 ⟨rfl, hb5⟩
      go_wp2
      go_ret
      exact ⟨rfl, hb12.trans (hb5.mono hb12.size)⟩
    · have hyes := HY.out
      clear HY HN
      obtain ⟨rfl, rfl, hown⟩ := hyes rfl
      have hin := HSB.out rfl
      have HK2 := KH.hid (HKS.out HSB.out rfl)
      clear HKS HRI HSB
      have hr3 := (KH.Reads.of_own hown).below hb2
      have hr4 := hr2
      go_wp2_with fail
      go_loopw [16] (fun j wr => ∃ k q : Nat, k ≤ n' ∧ j = .int .i64 k ∧ wr = w2.drewN q) (fun j _ => n' - (intOf j).toNat)
      case atStart => exact ⟨0, 0, Nat.zero_le _, rfl, rfl⟩
      case round =>
        obtain ⟨k, q, hk, rfl, rfl⟩ := hrel
        by_cases hlt : k < n'
        · obtain ⟨ad, x, hA, _, hx, hc⟩ := hr4.int hlt
          obtain ⟨ad', y, hA', _, hy, hc'⟩ := hr3.int hlt
          subst hA
          subst hA'
          by_cases hki : (k : Int) = i
          · have hyg : x ≤ y := by
              subst hki
              rw [Int.toNat_natCast, List.getElem?_set_self (by have := HL.out; omega)] at hy
              injection hy with hy
              have h3 := hin.2.2
              rw [Int.toNat_natCast, List.getD, hx] at h3
              rw [← hy]; exact h3
            have hd : decide (y < x) = false := by rw [decide_eq_false_iff_not]; omega
            have hkk : ((k : Int) != i) = false := by simp [hki]
            clear hx hy hyg hki hin
            go_wp2
            go_quiet (fail)
            go_wp2
            go_roundw
            case rel => exact ⟨k + 1, _, by omega, by go_num, rfl⟩
            case measure => simp [intOf]; omega
          · have hyx : x = y := by
              rw [List.getElem?_set_ne (by omega), hx] at hy; injection hy
            subst hyx
            have hkk : ((k : Int) != i) = true := by simp [hki]
            have hd : decide (x < x) = false := by simp
            have hne : (x != x) = false := by simp
            clear hx hy hki hin
            go_wp2
            go_quiet (fail)
            go_wp2
            go_roundw
            case rel => exact ⟨k + 1, _, by omega, by go_num, rfl⟩
            case measure => simp [intOf]; omega
        · obtain rfl : k = n' := by omega
          have hr5 : KH.Reads (w2.drewN q) (w2.drewN q).heap.size 1 A' k ((l.set i.toNat g).map (.int .i64)) := hr3.more (by have := hb2.size; simpa using this)
          clear hin
          go_wp2_with fail
          refine (known_post _ hr5 hn a false HK2.out).mono ?_; rintro e w3 ⟨rfl, hb3⟩
          simp only [kv, kc, Bool.false_eq_true, if_false]
          go_wp2_with fail
          refine (anchors_any _).mono ?_; rintro e w5 ⟨rfl, hb5⟩
          go_wp2
          go_ret
          exact ⟨rfl, ((below_drewN hb12 _).trans (hb3.mono (by simpa using hb12.size))).trans (hb5.mono (by have := hb12.size; have := hb3.size; simp at this; omega))⟩
  · simp only [kv, kc, if_true]
    obtain ⟨hc1, hc2⟩ := HCN.out rfl
    clear HCN
    generalize hB : knownL l a = b at *
    have HB := KH.hid hB; clear hB
    go_wp2_with fail
    go_loop [13, 14, 15] (fun s t j => ∃ k : Nat, k ≤ n ∧ j = .int .i64 k ∧ s = .int .i64 ((l.take k).countP (geB b) : Nat) ∧ t = .int .i64 ((l.take k).countP (gtB b) : Nat)) (fun _ _ j => n - (intOf j).toNat)
    case atStart => exact ⟨0, Nat.zero_le _, rfl, rfl, rfl⟩
    case round =>
      obtain ⟨k, hk, rfl, rfl, rfl⟩ := hrel
      have hcnt : (l.take k).countP (geB b) ≤ k := Nat.le_trans List.countP_le_length (List.length_take_le _ _)
      have hcnt' : (l.take k).countP (gtB b) ≤ k := Nat.le_trans List.countP_le_length (List.length_take_le _ _)
      by_cases hlt : k < n
      · obtain ⟨ad, x, rfl, _, hx, hc⟩ := hr2.int hlt
        have HS := KH.hid (take_count (geB b) l k x hx)
        have HS' := KH.hid (gt_count b l k x hx); clear hx
        clear hc1 hc2
        generalize (l.take k).countP (geB b) = s at *
        generalize (l.take k).countP (gtB b) = t at *
        by_cases h1 : b ≤ x
        · have G1 : Hid (geB b x = true) := by unfold Hid geB; simpa using h1
          by_cases h2 : b < x
          · have G2 : Hid (gtB b x = true) := by unfold Hid gtB; simpa using h2
            go_wp2
            go_round
            case rel => exact ⟨k + 1, by omega, by go_num, by rw [HS.out, G1.out]; go_num, by rw [HS'.out, G2.out]; go_num⟩
            case measure => simp [intOf]; omega
          · have G2 : Hid (gtB b x = false) := by unfold Hid gtB; simpa using h2
            go_wp2
            go_round
            case rel => exact ⟨k + 1, by omega, by go_num, by rw [HS.out, G1.out]; go_num, by rw [HS'.out, G2.out]; rfl⟩
            case measure => simp [intOf]; omega
        · have G1 : Hid (geB b x = false) := by unfold Hid geB; simpa using h1
          have G2 : Hid (gtB b x = false) := by unfold Hid gtB; simp; omega
          have h2 : ¬ b < x := by omega
          go_wp2
          go_round
          case rel => exact ⟨k + 1, by omega, by go_num, by rw [HS.out, G1.out]; rfl, by rw [HS'.out, G2.out]; rfl⟩
          case measure => simp [intOf]; omega
      · obtain rfl : k = n := by omega
        rw [List.take_of_length_le (by have := HL.out; omega)] at hcnt hcnt' ⊢
        generalize hS : l.countP (geB b) = s at *
        generalize hT : l.countP (gtB b) = t at *
        clear hS hT
        have hd : decide (a ≤ (t : Int)) = false := by simp; omega
        have hd' : decide ((s : Int) < a) = false := by simp; omega
        cases os
        · have hno := HN.out
          clear HY HN HKS HRI HSB
          obtain ⟨rfl, rfl, rfl⟩ := hno rfl
          have hne : ((if (rightB l && decide (0 ≤ i ∧ i < k)) = true then (250 : Int) else 1) != 0) = true := by split <;> decide
          generalize (if (rightB l && decide (0 ≤ i ∧ i < k)) = true then (250 : Int) else 1) = code at *
          go_wp2_with fail
          refine (anchors_any _).mono ?_; rintro e w5 ⟨rfl, hb5⟩
          go_wp2
          go_ret
          exact ⟨rfl, hb12.trans (hb5.mono hb12.size)⟩
        · have hyes := HY.out
          clear HY HN
          obtain ⟨rfl, rfl, hown⟩ := hyes rfl
          have hin := HSB.out rfl
          have HK2 := KH.hid (HKS.out HSB.out rfl)
          have HR2 := KH.hid (HRI.out HSB.out rfl)
          clear HKS HRI HSB
          have hr3 := (KH.Reads.of_own hown).below hb2
          have hr4 := hr2
          go_wp2_with fail
          go_loopw [16] (fun j wr => ∃ k q : Nat, k ≤ n' ∧ j = .int .i64 k ∧ wr = w2.drewN q) (fun j _ => n' - (intOf j).toNat)
          case atStart => exact ⟨0, 0, Nat.zero_le _, rfl, rfl⟩
          case round =>
            obtain ⟨k, q, hk, rfl, rfl⟩ := hrel
            by_cases hlt : k < n'
            · obtain ⟨ad, x, hA, _, hx, hc⟩ := hr4.int hlt
              obtain ⟨ad', y, hA', _, hy, hc'⟩ := hr3.int hlt
              subst hA
              subst hA'
              by_cases hki : (k : Int) = i
              · have hyg : x ≤ y := by
                  subst hki
                  rw [Int.toNat_natCast, List.getElem?_set_self (by have := HL.out; omega)] at hy
                  injection hy with hy
                  have h3 := hin.2.2
                  rw [Int.toNat_natCast, List.getD, hx] at h3
                  rw [← hy]; exact h3
                have hd : decide (y < x) = false := by rw [decide_eq_false_iff_not]; omega
                have hkk : ((k : Int) != i) = false := by simp [hki]
                clear hx hy hyg hki hin
                go_wp2
                go_quiet (fail)
                go_wp2
                go_roundw
                case rel => exact ⟨k + 1, _, by omega, by go_num, rfl⟩
                case measure => simp [intOf]; omega
              · have hyx : x = y := by
                  rw [List.getElem?_set_ne (by omega), hx] at hy; injection hy
                subst hyx
                have hkk : ((k : Int) != i) = true := by simp [hki]
                have hd : decide (x < x) = false := by simp
                have hne : (x != x) = false := by simp
                clear hx hy hki hin
                go_wp2
                go_quiet (fail)
                go_wp2
                go_roundw
                case rel => exact ⟨k + 1, _, by omega, by go_num, rfl⟩
                case measure => simp [intOf]; omega
            · obtain rfl : k = n' := by omega
              have hr5 : KH.Reads (w2.drewN q) (w2.drewN q).heap.size 1 A' k ((l.set i.toNat g).map (.int .i64)) := hr3.more (by have := hb2.size; simpa using this)
              clear hin
              go_wp2_with fail
              refine (known_post _ hr5 hn a true HK2.out).mono ?_; rintro e w3 ⟨rfl, hb3⟩
              have HKV := HR2.out
              simp only [kv, kc, if_true]
              simp only [kv, if_true, HB.out] at HKV
              go_wp2_with fail
              refine (anchors_any _).mono ?_; rintro e w5 ⟨rfl, hb5⟩
              go_wp2
              go_ret
              exact ⟨rfl, ((below_drewN hb12 _).trans (hb3.mono (by simpa using hb12.size))).trans (hb5.mono (by have := hb12.size; have := hb3.size; simp at this; omega))⟩

theorem walk {w : World} {A : Option Addr} {n c : Nat} {l : List Int} (w0 : IntsIn w A n c l) (i : Int) (w1 : (Lit.int .i64 i).wf = true) (g : Int) (w2 : (Lit.int .i64 g).wf = true) (a : Int) (w3 : (Lit.int .i64 a).wf = true) :
    Calls Try.prog 4 #[.slice A n c, .int .i64 i, .int .i64 g, .int .i64 a] w fun e w' => e = .returned (.bool true) ∧ Below w.heap.size w w' := by
  obtain ⟨hl, hnc, hcm, hbd, hr⟩ := w0
  have hm : n ≤ 9223372036854775807 := by unfold maxLen at hcm; omega
  by_cases h60 : n ≤ 60
  · exact core hr hl h60 i g a _ _ rfl rfl
  · clear w1 w2 w3 hl
    go_enter Try.func4, Try.ntmps4
    go_wp2
    go_ret
    exact ⟨rfl, Below.refl _ _⟩

theorem own : ownKnob Try.prog.godebug = none := by kernel_rfl
theorem laidOut : laidOutB Try.prog = true := by kernel_rfl

/-! ### The step from the walk to the row -/
set_option maxRecDepth 100000 in
theorem lifted (os : Os) (started : os.Started) (H : Type) (enc : TypeId × Value → H) :
    ReturnsInHanded {} Try.checked os 4 .any (Rows.anchorRisesSpec.pre6 enc Try.prog Try.f4 Rows.anchorRisesRow.domain false) (Rows.anchorRisesSpec.post enc Try.prog Try.f4 false true false false) := by
  refine returnsInHanded_of_change (C := Try.checked) own started (by kernel_rfl) Try.func4
    (ChangeSpec.witness6 (enc := enc) (C := Try.checked) false ⟨#[], #[.slice none 0 0, .int .i64 0, .int .i64 0, .int .i64 0], []⟩ 8 (by kernel_rfl) (by kernel_rfl) (by kernel_rfl) (by kernel_rfl)) ?_
  intro W base args ds gs before hval0 hW hcnd _
  have hval : ∀ (j : Nat) t v, Try.f4.params[j]? = some t → args[j]? = some v → Value.okWide Try.prog W .any base t v := hval0
  have hW' := hW
  obtain ⟨p, q, hA0, hV, rfl, hfz, hnd⟩ := hW
  have hA : DataW.TrodAll enc Try.prog W 0 (fun _ => true) true Try.f4.params.toList args.toList ds p := hA0
  rw [Try.params4] at hA hval
  obtain ⟨v0, vs0, d0, ds0, p0, q0, hargs, rfl, rfl, h0, r0⟩ := trodAll_cons hA
  obtain ⟨v1, vs1, d1, ds1, p1, q1, rfl, rfl, rfl, h1, r1⟩ := trodAll_cons r0
  obtain ⟨v2, vs2, d2, ds2, p2, q2, rfl, rfl, rfl, h2, r2⟩ := trodAll_cons r1
  obtain ⟨v3, vs3, d3, ds3, p3, q3, rfl, rfl, rfl, h3, r3⟩ := trodAll_cons r2
  obtain ⟨rfl, rfl, rfl⟩ := trodAll_nil r3
  obtain rfl : args = #[v0, v1, v2, v3] := by cases args; simp_all
  obtain ⟨rfl, rfl⟩ := trodVars_none hV
  obtain ⟨a0, len0, cap0, rfl⟩ := okWide_slice Try.underlying24 (hval 0 24 v0 rfl rfl)
  have k0 := h0
  have lt0 : ∀ x ∈ p0, x.block < W.heap.size := by obtain ⟨m, hm⟩ := k0; exact DataW.trod_lt m _ _ _ hm
  obtain ⟨z0, w0⟩ : ∃ zs, IntsIn W a0 len0 cap0 zs := ints_in Try.underlying24 Try.underlying3 (by kernel_rfl) h0
  obtain ⟨a1, rfl, rfl, rfl, w1⟩ := open_int Try.underlying3 (hval 1 3 v1 rfl rfl) h1
  obtain ⟨a2, rfl, rfl, rfl, w2⟩ := open_int Try.underlying3 (hval 2 3 v2 rfl rfl) h2
  obtain ⟨a3, rfl, rfl, rfl, w3⟩ := open_int Try.underlying3 (hval 3 3 v3 rfl rfl) h3
  clear hA0 hval0
  refine (walk w0 a1 w1 a2 w2 a3 w3).mono fun e W' ⟨he, bel⟩ => ?_
  subst he
  exact ⟨_, rfl, _, _, _, [], _, [], hW', trodAll_mk1 (shut_bool Try.underlying4 _), (trodAll_cons_mk (Below.trod laidOut (by kernel_rfl) (of_decide_eq_true (by kernel_rfl)) k0 bel lt0) (trodAll_cons_mk (shut_int Try.underlying3 w1) (trodAll_cons_mk (shut_int Try.underlying3 w2) (trodAll_cons_mk (shut_int Try.underlying3 w3) (trodAll_mk0))))), rfl, bel.frame _, fun h => by cases h⟩

theorem over : Rows.anchorRisesRow.holds Try.pinned (OpenSpec.ofChange Rows.anchorRisesSpec) :=
  OpenClaim.holds_of_wide 4 Try.f4 rfl rfl rfl rfl rfl rfl rfl ⟨rfl, rfl, rfl, rfl, rfl⟩ rfl rfl rfl rfl rfl (by kernel_rfl) Try.func4 (by kernel_rfl)
    (of_decide_eq_true (by kernel_rfl)) (by unfold Func.isWrapper; first | (rw [if_pos (by decide +kernel)]; kernel_rfl) | (rw [if_neg (by decide +kernel)]; exact ⟨rfl, rfl⟩))
    (fun os started H enc _ => lifted os started H enc)

theorem proved : Rows.AnchorRisesSaid := over

end Go.Proofs.Ytcblailfmnicgaa.anchorRises
