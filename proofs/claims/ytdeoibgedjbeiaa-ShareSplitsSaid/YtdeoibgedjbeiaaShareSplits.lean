/- For any texts and numbers ShareSplits returns true and turns nothing that was there: a secret is split just as the document tells, or refused. No condition. -/
import Derived.Test.YtdeoibgedjbeiaaShareH
import Derived.WalkKit
import Derived.ProofKit
import Derived.OpenShut
import Derived.ShutString
import Derived.ChangeOld
import Derived.Below
namespace Go.Proofs.Ytdeoibgedjbeiaa.shareSplits
open Go.ChangeShapes Go.WideShapes Go.ChangeAt Go.RowKit
open Go.ChangeMaps (open_string shut_string)
set_option linter.unusedVariables false

set_option maxRecDepth 100000 in
theorem walk {w : World} (s : ByteArray) (w0 : s.size ≤ 9223372036854775807) (n : Int) (w1 : (Lit.int .i64 n).wf = true) (k : Int) (w2 : (Lit.int .i64 k).wf = true) (t : ByteArray) (w3 : t.size ≤ 9223372036854775807) :
    Calls Try.prog 12 #[.string s, .int .i64 n, .int .i64 k, .string t] w fun e w' => e = .returned (.bool true) ∧ Below w.heap.size w w' := by
  clear w1 w2
  have hs : s.size ≤ maxLen := by unfold maxLen; exact w0
  have ht : t.size ≤ maxLen := by unfold maxLen; exact w3
  by_cases h1 : s.size ≤ 100
  · by_cases h2 : t.size ≤ 300
    · by_cases h3 : n > 12 ∧ n ≤ 255
      · obtain ⟨h3, h4⟩ := h3
        go_enter Try.func12, Try.ntmps12
        go_wp2
        go_ret
        exact ⟨rfl, Below.refl _ _⟩
      · have h4 : n ≤ 12 ∨ (12 < n ∧ 255 < n) := by omega
        clear h3
        rcases h4 with h4 | ⟨h4, h5⟩
        all_goals
          go_enter Try.func12, Try.ntmps12
          go_wp2_with fail
          refine (split_told s n k t _ hs ht).mono ?_; rintro e w1 ⟨A1, n1, c1, rfl, ho1, hb1, hl1⟩
          have hs1 := hb1.size
          go_wp2_with fail
          refine (rsplit_told s n k t _ hs ht).mono ?_; rintro e w2 ⟨A2, n2, c2, rfl, ho2, hb2, hl2⟩
          have hs2 := hb2.size
          have hn1 : n1 ≤ maxLen := by
            rw [← hl1]; unfold splitV; split
            · rename_i hk; unfold splitK at hk; rw [decide_eq_true_iff] at hk; rw [splitL_length]; unfold maxLen; omega
            · simp
          have hn2 : n2 ≤ maxLen := by omega
          have hin1 : ShIn w2 w1.heap.size A1 n1 (splitV s n k t) := KH.Reads.below (KH.Reads.of_own ho1) hb2
          have hin2 : ShIn w2 w2.heap.size A2 n2 (splitV s n k t) := KH.Reads.of_own ho2
          clear ho1 ho2
          go_wp2_with fail
          refine (shares_any _).mono ?_; rintro e w3 ⟨rfl, hb3⟩
          have hin3 := KH.Reads.below hin1 (hb3.mono hs2)
          have hin4 := KH.Reads.below hin2 hb3
          go_wp2_with fail
          refine (same_any _ _ hin3 hin4 hn1 hn2).mono ?_; rintro e w4 ⟨rfl, q, rfl⟩
          rw [decide_eq_true rfl]
          go_wp2
          go_ret
          exact ⟨rfl, below_drewN ((hb1.trans (hb2.mono (by omega))).trans (hb3.mono (by omega))) q⟩
    · go_enter Try.func12, Try.ntmps12
      go_wp2
      go_ret
      exact ⟨rfl, Below.refl _ _⟩
  · go_enter Try.func12, Try.ntmps12
    go_wp2
    go_ret
    exact ⟨rfl, Below.refl _ _⟩

theorem own : ownKnob Try.prog.godebug = none := by kernel_rfl
theorem laidOut : laidOutB Try.prog = true := by kernel_rfl

/-! ### The step from the walk to the row -/
set_option maxRecDepth 100000 in
theorem lifted (os : Os) (started : os.Started) (H : Type) (enc : TypeId × Value → H) :
    ReturnsInHanded {} Try.checked os 12 .any (Rows.shareSplitsSpec.pre6 enc Try.prog Try.f12 Rows.shareSplitsRow.domain false) (Rows.shareSplitsSpec.post enc Try.prog Try.f12 false true false false) := by
  refine returnsInHanded_of_change (C := Try.checked) own started (by kernel_rfl) Try.func12
    (ChangeSpec.witness6 (enc := enc) (C := Try.checked) false ⟨#[], #[.string ByteArray.empty, .int .i64 0, .int .i64 0, .string ByteArray.empty], []⟩ 8 (by kernel_rfl) (by kernel_rfl) (by kernel_rfl) (by kernel_rfl)) ?_
  intro W base args ds gs before hval0 hW hcnd _
  have hval : ∀ (j : Nat) t v, Try.f12.params[j]? = some t → args[j]? = some v → Value.okWide Try.prog W .any base t v := hval0
  have hW' := hW
  obtain ⟨p, q, hA0, hV, rfl, hfz, hnd⟩ := hW
  have hA : DataW.TrodAll enc Try.prog W 0 (fun _ => true) true Try.f12.params.toList args.toList ds p := hA0
  rw [Try.params12] at hA hval
  obtain ⟨v0, vs0, d0, ds0, p0, q0, hargs, rfl, rfl, h0, r0⟩ := trodAll_cons hA
  obtain ⟨v1, vs1, d1, ds1, p1, q1, rfl, rfl, rfl, h1, r1⟩ := trodAll_cons r0
  obtain ⟨v2, vs2, d2, ds2, p2, q2, rfl, rfl, rfl, h2, r2⟩ := trodAll_cons r1
  obtain ⟨v3, vs3, d3, ds3, p3, q3, rfl, rfl, rfl, h3, r3⟩ := trodAll_cons r2
  obtain ⟨rfl, rfl, rfl⟩ := trodAll_nil r3
  obtain rfl : args = #[v0, v1, v2, v3] := by cases args; simp_all
  obtain ⟨rfl, rfl⟩ := trodVars_none hV
  obtain ⟨a0, rfl, rfl, rfl, w0⟩ := open_string Try.underlying9 (hval 0 9 v0 rfl rfl) h0
  obtain ⟨a1, rfl, rfl, rfl, w1⟩ := open_int Try.underlying3 (hval 1 3 v1 rfl rfl) h1
  obtain ⟨a2, rfl, rfl, rfl, w2⟩ := open_int Try.underlying3 (hval 2 3 v2 rfl rfl) h2
  obtain ⟨a3, rfl, rfl, rfl, w3⟩ := open_string Try.underlying9 (hval 3 9 v3 rfl rfl) h3
  clear hA0 hval0
  refine (walk a0 w0 a1 w1 a2 w2 a3 w3).mono fun e W' ⟨he, bel⟩ => ?_
  subst he
  exact ⟨_, rfl, _, _, _, [], _, [], hW', trodAll_mk1 (shut_bool Try.underlying4 _), (trodAll_cons_mk (shut_string Try.underlying9 w0) (trodAll_cons_mk (shut_int Try.underlying3 w1) (trodAll_cons_mk (shut_int Try.underlying3 w2) (trodAll_cons_mk (shut_string Try.underlying9 w3) (trodAll_mk0))))), rfl, bel.frame _, fun h => by cases h⟩

theorem over : Rows.shareSplitsRow.holds Try.pinned (OpenSpec.ofChange Rows.shareSplitsSpec) :=
  OpenClaim.holds_of_wide 12 Try.f12 rfl rfl rfl rfl rfl rfl rfl ⟨rfl, rfl, rfl, rfl, rfl⟩ rfl rfl rfl rfl rfl (by kernel_rfl) Try.func12 (by kernel_rfl)
    (of_decide_eq_true (by kernel_rfl)) (by unfold Func.isWrapper; first | (rw [if_pos (by decide +kernel)]; kernel_rfl) | (rw [if_neg (by decide +kernel)]; exact ⟨rfl, rfl⟩))
    (fun os started H enc _ => lifted os started H enc)

theorem proved : Rows.ShareSplitsSaid := over

end Go.Proofs.Ytdeoibgedjbeiaa.shareSplits
