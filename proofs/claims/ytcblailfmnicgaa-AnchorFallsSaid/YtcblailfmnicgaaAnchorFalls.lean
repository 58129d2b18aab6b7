/- For any row and two numbers AnchorFalls returns true and turns nothing that was there: what is known to more is not more; what is known to one is the newest. No condition. -/
import Derived.Test.YtcblailfmnicgaaAnchorH
import Derived.Test.YtcblailfmnicgaaArgs
import Derived.WalkKit
import Derived.ProofKit
import Derived.OpenShut
import Derived.ShutString
import Derived.ChangeOld
import Derived.Below
namespace Go.Proofs.Ytcblailfmnicgaa.anchorFalls
open Go.ChangeShapes Go.WideShapes Go.ChangeAt Go.RowKit
open Go.ChangeMaps (open_string shut_string)
open KH (IntsIn ints_in BoolsIn bools_in StrsIn strs_in)
set_option linter.unusedVariables false

open KH
set_option maxHeartbeats 1000000 in
theorem core {A : Option Addr} {n c : Nat} {l : List Int} {w : World} (hr : KH.Reads w w.heap.size 1 A n (l.map (.int .i64))) (hl : l.length = n) (h60 : n ≤ 60) (a b : Int) (hab : a ≤ b)
    (oa ob o1 : Bool) (ha : okB l n a = oa) (hb : okB l n b = ob) (h1 : okB l n 1 = o1) :
    Calls Try.prog 6 #[.slice A n c, .int .i64 a, .int .i64 b] w fun e w' => e = .returned (.bool true) ∧ Below w.heap.size w w' := by
  have hn : n ≤ maxLen := by unfold maxLen; omega
  have HG : Hid (o1 = true → (knownL l 1 != gst l) = false) := by
    intro ho; subst ho
    unfold okB at h1
    rw [Bool.and_eq_true, decide_eq_true_iff] at h1
    have := known_one h1.1 (by omega)
    simp [this]
  have HM : Hid (oa = true → ob = true → knownL l b ≤ knownL l a) := by
    intro ho ho'; subst ho; subst ho'
    unfold okB at ha hb
    rw [Bool.and_eq_true, decide_eq_true_iff] at ha hb
    exact known_mono ha.1 ha.2.1 hab (by omega)
  have HC : Hid (o1 = false → oa = false ∧ ob = false) := by
    intro ho; subst ho
    unfold okB at ha hb h1
    rw [Bool.and_eq_false_iff, decide_eq_false_iff_not] at h1
    rcases h1 with h1 | h1
    · rw [h1] at ha hb; exact ⟨by rw [← ha]; rfl, by rw [← hb]; rfl⟩
    · exact ⟨by rw [← ha, Bool.and_eq_false_iff, decide_eq_false_iff_not]; right; omega, by rw [← hb, Bool.and_eq_false_iff, decide_eq_false_iff_not]; right; omega⟩
  clear hl
  go_enter Try.func6, Try.ntmps6
  go_wp2_with fail
  refine (known_post c hr hn a oa ha).mono ?_; rintro e w1 ⟨rfl, hb1⟩
  have hr1 := (hr.below hb1).more hb1.size
  go_wp2_with fail
  refine (known_post c hr1 hn b ob hb).mono ?_; rintro e w2 ⟨rfl, hb2⟩
  have hr2 := (hr1.below hb2).more hb2.size
  go_wp2_with fail
  refine (known_post c hr2 hn 1 o1 h1).mono ?_; rintro e w3 ⟨rfl, hb3⟩
  have hr3 := (hr2.below hb3).more hb3.size
  have hb4 : Below w.heap.size w w3 := (hb1.trans (hb2.mono hb1.size)).trans (hb3.mono (by have := hb1.size; have := hb2.size; omega))
  clear hr hr1 hr2 hb1 hb2 hb3 ha hb h1
  cases o1
  · obtain ⟨rfl, rfl⟩ := HC.out rfl
    simp only [kv, kc, Bool.false_eq_true, if_false]
    clear HG HM HC
    go_wp2_with fail
    refine (anchors_any _).mono ?_; rintro e w5 ⟨rfl, hb5⟩
    go_wp2
    go_ret
    exact ⟨rfl, hb4.trans (hb5.mono hb4.size)⟩
  · have hg := HG.out rfl
    cases oa <;> cases ob
    all_goals
      simp only [kv, kc, Bool.false_eq_true, if_false, if_true]
      have hm := HM.out
      simp only [Bool.false_eq_true, true_implies, false_implies] at hm
      clear HG HM HC
      go_wp2_with fail
      refine (newest_any _ hr3 hn).mono ?_; rintro e w' ⟨rfl, rfl⟩
      go_wp2_with fail
      refine (anchors_any _).mono ?_; rintro e w5 ⟨rfl, hb5⟩
      go_wp2
      go_ret
      exact ⟨rfl, hb4.trans (hb5.mono hb4.size)⟩

theorem walk {w : World} {A : Option Addr} {n c : Nat} {l : List Int} (w0 : IntsIn w A n c l) (a : Int) (w1 : (Lit.int .i64 a).wf = true) (b : Int) (w2 : (Lit.int .i64 b).wf = true) :
    Calls Try.prog 6 #[.slice A n c, .int .i64 a, .int .i64 b] w fun e w' => e = .returned (.bool true) ∧ Below w.heap.size w w' := by
  obtain ⟨hl, hnc, hcm, hbd, hr⟩ := w0
  have hm : n ≤ 9223372036854775807 := by unfold maxLen at hcm; omega
  by_cases h60 : n ≤ 60
  · by_cases hab : a ≤ b
    · exact core hr hl h60 a b hab _ _ _ rfl rfl rfl
    · clear w1 w2
      go_enter Try.func6, Try.ntmps6
      go_wp2
      go_ret
      exact ⟨rfl, Below.refl _ _⟩
  · clear w1 w2 hl
    go_enter Try.func6, Try.ntmps6
    go_wp2
    go_ret
    exact ⟨rfl, Below.refl _ _⟩

theorem own : ownKnob Try.prog.godebug = none := by kernel_rfl
theorem laidOut : laidOutB Try.prog = true := by kernel_rfl

/-! ### The step from the walk to the row -/
set_option maxRecDepth 100000 in
theorem lifted (os : Os) (started : os.Started) (H : Type) (enc : TypeId × Value → H) :
    ReturnsInHanded {} Try.checked os 6 .any (Rows.anchorFallsSpec.pre6 enc Try.prog Try.f6 Rows.anchorFallsRow.domain false) (Rows.anchorFallsSpec.post enc Try.prog Try.f6 false true false false) := by
  refine returnsInHanded_of_change (C := Try.checked) own started (by kernel_rfl) Try.func6
    (ChangeSpec.witness6 (enc := enc) (C := Try.checked) false ⟨#[], #[.slice none 0 0, .int .i64 0, .int .i64 0], []⟩ 8 (by kernel_rfl) (by kernel_rfl) (by kernel_rfl) (by kernel_rfl)) ?_
  intro W base args ds gs before hval0 hW hcnd _
  have hval : ∀ (j : Nat) t v, Try.f6.params[j]? = some t → args[j]? = some v → Value.okWide Try.prog W .any base t v := hval0
  have hW' := hW
  obtain ⟨p, q, hA0, hV, rfl, hfz, hnd⟩ := hW
  have hA : DataW.TrodAll enc Try.prog W 0 (fun _ => true) true Try.f6.params.toList args.toList ds p := hA0
  rw [Try.params6] at hA hval
  obtain ⟨v0, vs0, d0, ds0, p0, q0, hargs, rfl, rfl, h0, r0⟩ := trodAll_cons hA
  obtain ⟨v1, vs1, d1, ds1, p1, q1, rfl, rfl, rfl, h1, r1⟩ := trodAll_cons r0
  obtain ⟨v2, vs2, d2, ds2, p2, q2, rfl, rfl, rfl, h2, r2⟩ := trodAll_cons r1
  obtain ⟨rfl, rfl, rfl⟩ := trodAll_nil r2
  obtain rfl : args = #[v0, v1, v2] := by cases args; simp_all
  obtain ⟨rfl, rfl⟩ := trodVars_none hV
  obtain ⟨a0, len0, cap0, rfl⟩ := okWide_slice Try.underlying24 (hval 0 24 v0 rfl rfl)
  have k0 := h0
  have lt0 : ∀ x ∈ p0, x.block < W.heap.size := by obtain ⟨m, hm⟩ := k0; exact DataW.trod_lt m _ _ _ hm
  obtain ⟨z0, w0⟩ : ∃ zs, IntsIn W a0 len0 cap0 zs := ints_in Try.underlying24 Try.underlying3 (by kernel_rfl) h0
  obtain ⟨a1, rfl, rfl, rfl, w1⟩ := open_int Try.underlying3 (hval 1 3 v1 rfl rfl) h1
  obtain ⟨a2, rfl, rfl, rfl, w2⟩ := open_int Try.underlying3 (hval 2 3 v2 rfl rfl) h2
  clear hA0 hval0
  refine (walk w0 a1 w1 a2 w2).mono fun e W' ⟨he, bel⟩ => ?_
  subst he
  exact ⟨_, rfl, _, _, _, [], _, [], hW', trodAll_mk1 (shut_bool Try.underlying4 _), (trodAll_cons_mk (Below.trod laidOut (by kernel_rfl) (of_decide_eq_true (by kernel_rfl)) k0 bel lt0) (trodAll_cons_mk (shut_int Try.underlying3 w1) (trodAll_cons_mk (shut_int Try.underlying3 w2) (trodAll_mk0)))), rfl, bel.frame _, fun h => by cases h⟩

theorem over : Rows.anchorFallsRow.holds Try.pinned (OpenSpec.ofChange Rows.anchorFallsSpec) :=
  OpenClaim.holds_of_wide 6 Try.f6 rfl rfl rfl rfl rfl rfl rfl ⟨rfl, rfl, rfl, rfl, rfl⟩ rfl rfl rfl rfl rfl (by kernel_rfl) Try.func6 (by kernel_rfl)
    (of_decide_eq_true (by kernel_rfl)) (by unfold Func.isWrapper; first | (rw [if_pos (by decide +kernel)]; kernel_rfl) | (rw [if_neg (by decide +kernel)]; exact ⟨rfl, rfl⟩))
    (fun os started H enc _ => lifted os started H enc)

theorem proved : Rows.AnchorFallsSaid := over

end Go.Proofs.Ytcblailfmnicgaa.anchorFalls
