/- For any two numbers FieldBack returns true and turns nothing that was there: what is multiplied and divided by the same is as it was, a product is 0 just if one is, the power of 255 is 1 but of 0. No condition. -/
import Derived.Test.YtdeoibgedjbeiaaFieldD
import Derived.WalkKit
import Derived.ProofKit
import Derived.OpenShut
import Derived.ShutString
import Derived.ChangeOld
import Derived.Below
namespace Go.Proofs.Ytdeoibgedjbeiaa.fieldBack
open Go.ChangeShapes Go.WideShapes Go.ChangeAt Go.RowKit
open Go.ChangeMaps (open_string shut_string)
set_option linter.unusedVariables false

set_option maxRecDepth 100000 in
theorem bad (a b : Int) (w : World) (h : a < 0 ∨ (0 ≤ a ∧ 255 < a) ∨ (0 ≤ a ∧ a ≤ 255 ∧ b < 1) ∨ (0 ≤ a ∧ a ≤ 255 ∧ 1 ≤ b ∧ 255 < b)) :
    Calls Try.prog 6 #[.int .i64 a, .int .i64 b] w fun e w' => e = .returned (.bool true) ∧ Below w.heap.size w w' := by
  rcases h with h | ⟨h1, h⟩ | ⟨h1, h2, h⟩ | ⟨h1, h2, h3, h⟩
  all_goals
    go_enter Try.func6, Try.ntmps6
    go_wp2_with fail
    refine (new_any _).mono ?_; rintro e w1 ⟨rfl, hF, hb, hs⟩
    go_wp2_with fail
    refine (fields_any _).mono ?_; rintro e w2 ⟨rfl, hb2⟩
    go_wp2
    go_ret
    exact ⟨rfl, hb.trans (hb2.mono (by omega))⟩

theorem zero_iff {a b : Nat} (hb : b ≠ 0) : (((KH.mul a b : Nat) : Int) == 0) = ((a : Int) == 0) := by
  rw [Bool.eq_iff_iff, beq_iff_eq, beq_iff_eq]
  have := KH.mul_eq_zero (a := a) (b := b)
  omega

set_option maxRecDepth 100000 in
theorem good (a b : Nat) (w : World) (ha : a ≤ 255) (hb0 : 1 ≤ b) (hb : b ≤ 255) :
    Calls Try.prog 6 #[.int .i64 a, .int .i64 b] w fun e w' => e = .returned (.bool true) ∧ Below w.heap.size w w' := by
  have l1 := KH.mul_lt a b
  have l2 := KH.inv_lt b
  have l3 := KH.inv_ne_zero b
  have l4 : 1 ≤ KH.inv b := by omega
  clear l3
  have HE : Hid (KH.mul (KH.mul a b) (KH.inv b) = a ∧ KH.inv (KH.inv b) = b ∧ KH.pow b 255 = 1 ∧ KH.pow 0 255 = 0 ∧ ((((KH.mul a b : Nat) : Int) == 0) = ((a : Int) == 0))) :=
    ⟨KH.mul_div (by omega) (by omega) (by omega), KH.inv_inv (by omega) (by omega), KH.pow_255 (by omega), by decide +kernel, zero_iff (by omega)⟩
  go_enter Try.func6, Try.ntmps6
  go_wp2_with fail
  refine (new_any _).mono ?_; rintro e w1 ⟨rfl, hF, hb1, hs⟩
  go_wp2_with fail
  refine (mul_in _ _ _ _ hF (by omega) (by omega) (by omega) (by omega)).mono ?_; rintro e w' ⟨rfl, n1, rfl⟩
  go_wp2_with fail
  refine (div_in _ _ _ _ (hF.drewN _) (by omega) (by omega) (by omega) (by omega)).mono ?_; rintro e w' ⟨rfl, n2, rfl⟩
  go_wp2_with fail
  refine (inv_in _ _ _ (hF.drewN _) (by omega) (by omega)).mono ?_; rintro e w' ⟨rfl, n3, rfl⟩
  go_wp2_with fail
  refine (inv_in _ _ _ (hF.drewN _) (by omega) (by omega)).mono ?_; rintro e w' ⟨rfl, n4, rfl⟩
  go_wp2_with fail
  refine (pow_in _ _ _ _ (hF.drewN _) (by omega) (by omega) (by omega) (by omega)).mono ?_; rintro e w' ⟨rfl, n5, rfl⟩
  go_wp2_with fail
  refine (pow_in _ _ _ _ (hF.drewN _) (by omega) (by omega) (by omega) (by omega)).mono ?_; rintro e w' ⟨rfl, n6, rfl⟩
  go_wp2_with fail
  refine (fields_any _).mono ?_; rintro e w2 ⟨rfl, hb2⟩
  obtain ⟨e1, e2, e3, e4, e5⟩ := HE.out
  go_wp2
  go_ret
  exact ⟨rfl, (below_drewN hb1 _).trans (hb2.mono (by simp; omega))⟩

theorem walk {w : World} (a0 : Int) (w0 : (Lit.int .i64 a0).wf = true) (a1 : Int) (w1 : (Lit.int .i64 a1).wf = true) :
    Calls Try.prog 6 #[.int .i64 a0, .int .i64 a1] w fun e w' => e = .returned (.bool true) ∧ Below w.heap.size w w' := by
  by_cases h : (0 ≤ a0 ∧ a0 ≤ 255) ∧ (1 ≤ a1 ∧ a1 ≤ 255)
  · obtain ⟨⟨h1, h2⟩, ⟨h3, h4⟩⟩ := h
    obtain ⟨n, rfl⟩ := Int.eq_ofNat_of_zero_le h1
    obtain ⟨m, rfl⟩ := Int.eq_ofNat_of_zero_le (show 0 ≤ a1 by omega)
    exact good n m w (by omega) (by omega) (by omega)
  · exact bad a0 a1 w (by omega)

theorem own : ownKnob Try.prog.godebug = none := by kernel_rfl
theorem laidOut : laidOutB Try.prog = true := by kernel_rfl

/-! ### The step from the walk to the row -/
set_option maxRecDepth 100000 in
theorem lifted (os : Os) (started : os.Started) (H : Type) (enc : TypeId × Value → H) :
    ReturnsInHanded {} Try.checked os 6 .any (Rows.fieldBackSpec.pre6 enc Try.prog Try.f6 Rows.fieldBackRow.domain false) (Rows.fieldBackSpec.post enc Try.prog Try.f6 false true false false) := by
  refine returnsInHanded_of_change (C := Try.checked) own started (by kernel_rfl) Try.func6
    (ChangeSpec.witness6 (enc := enc) (C := Try.checked) false ⟨#[], #[.int .i64 0, .int .i64 0], []⟩ 8 (by kernel_rfl) (by kernel_rfl) (by kernel_rfl) (by kernel_rfl)) ?_
  intro W base args ds gs before hval0 hW hcnd _
  have hval : ∀ (j : Nat) t v, Try.f6.params[j]? = some t → args[j]? = some v → Value.okWide Try.prog W .any base t v := hval0
  have hW' := hW
  obtain ⟨p, q, hA0, hV, rfl, hfz, hnd⟩ := hW
  have hA : DataW.TrodAll enc Try.prog W 0 (fun _ => true) true Try.f6.params.toList args.toList ds p := hA0
  rw [Try.params6] at hA hval
  obtain ⟨v0, vs0, d0, ds0, p0, q0, hargs, rfl, rfl, h0, r0⟩ := trodAll_cons hA
  obtain ⟨v1, vs1, d1, ds1, p1, q1, rfl, rfl, rfl, h1, r1⟩ := trodAll_cons r0
  obtain ⟨rfl, rfl, rfl⟩ := trodAll_nil r1
  obtain rfl : args = #[v0, v1] := by cases args; simp_all
  obtain ⟨rfl, rfl⟩ := trodVars_none hV
  obtain ⟨a0, rfl, rfl, rfl, w0⟩ := open_int Try.underlying3 (hval 0 3 v0 rfl rfl) h0
  obtain ⟨a1, rfl, rfl, rfl, w1⟩ := open_int Try.underlying3 (hval 1 3 v1 rfl rfl) h1
  clear hA0 hval0
  refine (walk a0 w0 a1 w1).mono fun e W' ⟨he, bel⟩ => ?_
  subst he
  exact ⟨_, rfl, _, _, _, [], _, [], hW', trodAll_mk1 (shut_bool Try.underlying4 _), (trodAll_cons_mk (shut_int Try.underlying3 w0) (trodAll_cons_mk (shut_int Try.underlying3 w1) (trodAll_mk0))), rfl, bel.frame _, fun h => by cases h⟩

theorem over : Rows.fieldBackRow.holds Try.pinned (OpenSpec.ofChange Rows.fieldBackSpec) :=
  OpenClaim.holds_of_wide 6 Try.f6 rfl rfl rfl rfl rfl rfl rfl ⟨rfl, rfl, rfl, rfl, rfl⟩ rfl rfl rfl rfl rfl (by kernel_rfl) Try.func6 (by kernel_rfl)
    (of_decide_eq_true (by kernel_rfl)) (by unfold Func.isWrapper; first | (rw [if_pos (by decide +kernel)]; kernel_rfl) | (rw [if_neg (by decide +kernel)]; exact ⟨rfl, rfl⟩))
    (fun os started H enc _ => lifted os started H enc)

theorem proved : Rows.FieldBackSaid := over

end Go.Proofs.Ytdeoibgedjbeiaa.fieldBack
