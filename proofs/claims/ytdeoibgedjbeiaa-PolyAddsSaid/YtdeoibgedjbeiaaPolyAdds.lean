/- For any two rows and number PolyAdds returns true and turns nothing that was there: the value of a sum of polynomials is the sum of their values. No condition. -/
import Derived.Test.YtdeoibgedjbeiaaPolyF
import Derived.Test.YtdeoibgedjbeiaaArgs
import Derived.WalkKit
import Derived.ProofKit
import Derived.OpenShut
import Derived.ShutString
import Derived.ChangeOld
import Derived.Below
namespace Go.Proofs.Ytdeoibgedjbeiaa.polyAdds
open Go.ChangeShapes Go.WideShapes Go.ChangeAt Go.RowKit
open Go.ChangeMaps (open_string shut_string)
open KH (IntsIn ints_in BoolsIn bools_in StrsIn strs_in)
set_option linter.unusedVariables false

set_option maxHeartbeats 1000000 in
set_option maxRecDepth 100000 in
theorem walk {w : World} {A A' : Option Addr} {n n' c c' : Nat} {l m : List Int} (w0 : IntsIn w A n c l) (w1 : IntsIn w A' n' c' m) (x : Int) (w2 : (Lit.int .i64 x).wf = true) :
    Calls Try.prog 10 #[.slice A n c, .slice A' n' c', .int .i64 x] w fun e w' => e = .returned (.bool true) ∧ Below w.heap.size w w' := by
  obtain ⟨hl, hnc, hcm, _, hr⟩ := w0
  obtain ⟨hl', hnc', hcm', _, hr'⟩ := w1
  obtain ⟨i0, hi, hz0, hz1, hz2⟩ := info_parts int_info
  have hn : n ≤ maxLen := by omega
  have hn9 : n ≤ 9223372036854775807 := by unfold maxLen at hn; omega
  have hn9' : n' ≤ 9223372036854775807 := by unfold maxLen at hcm'; omega
  clear w2 hnc hnc' hcm hcm'
  by_cases hnn : n = n'
  · subst hnn
    by_cases h255 : n ≤ 255
    · have HL := KH.hid (And.intro hl hl'); clear hl hl'
      go_enter Try.func10, Try.ntmps10
      go_wp2_with fail
      go_loopw [7, 8] (fun v i wr => ∃ k : Nat, k ≤ n ∧ i = .int .i64 k ∧ Hid ((l.take k).all dgB = true ∧ (m.take k).all dgB = true) ∧ wr.ownsRow w.heap.size 3 1 v k (((xors l m).take k).map (.int .i64)) ∧ Below w.heap.size w wr) (fun _ i _ => n - (intOf i).toNat)
      case atStart => exact ⟨0, Nat.zero_le _, rfl, ⟨rfl, rfl⟩, World.ownsRow_nil _ _ _ _, Below.refl _ _⟩
      case round =>
        obtain ⟨k, hk, rfl, HA, hown, hb⟩ := hrel
        have hsz := hb.size
        by_cases hlt : k < n
        · obtain ⟨ad, y, rfl, _, hy, hc⟩ := (hr.below hb).int hlt
          obtain ⟨ad', z, rfl, _, hz, hc'⟩ := (hr'.below hb).int hlt
          have HS := KH.hid (xors_step hy hz)
          have HY := KH.hid (And.intro hy hz)
          clear hy hz
          have hk1 : (0 : Int) ≤ (k : Int) := by omega
          have hk2 : (k : Int) < (n : Int) := by omega
          cases hak : addK y z
          · clear HS
            go_wp2
            go_quiet ((go_at_call 21; exact quiet_eq (fadd_told _ _ _)))
            rw [hak]
            clear hak
            go_wp2_with fail
            refine (polys_any _).mono ?_; rintro e w2 ⟨rfl, hb2⟩
            go_wp2
            go_ret
            exact ⟨rfl, (below_drewN hb _).trans (hb2.mono (by simp; omega))⟩
          · have HA2 : Hid ((l.take (k + 1)).all dgB = true ∧ (m.take (k + 1)).all dgB = true) := by
              have h := addK_iff.1 hak
              refine ⟨?_, ?_⟩
              · rw [take_all _ _ _ _ HY.out.1, HA.out.1, dgB_iff.2 h.1]; rfl
              · rw [take_all _ _ _ _ HY.out.2, HA.out.2, dgB_iff.2 h.2]; rfl
            go_wp2
            go_quiet ((go_at_call 21; exact quiet_eq (fadd_told _ _ _)))
            rw [hak]
            clear hak
            generalize addV y z = u at *
            have hownq : (wr.drewN nq).ownsRow w.heap.size 3 1 _ k _ := hown
            have hbq := below_drewN hb nq
            have hszq : w.heap.size ≤ (wr.drewN nq).heap.size := hsz
            generalize wr.drewN nq = wq at *
            go_wp2_with (at_builtin; refine KH.wpList_append_one rfl (.tmp 51) (.tmp 53) 34 rfl w.heap.size 3 i0 _ 8 Try.underlying34 hi hz0 hz1 hz2 rfl _ k _ rfl (hownq.alloc _) wq.heap.size 1 (.int .i64 u) rfl ?c1 rfl ?c3 ?c4 ?c5 ?_)
            first | (case c1 => simp) | skip
            case c3 => unfold maxLen; omega
            case c4 => omega
            case c5 => first | omega | (simp; omega)
            intro v1 w1' hown1 hb1
            have hb2 := (hbq.alloc hszq (.cells #[.int .i64 u] 3)).trans hb1
            clear hown hb hownq hbq
            go_wp2
            go_roundw
            case rel => exact ⟨k + 1, by omega, by go_num, HA2, by rw [HS.out]; simpa [List.map_take] using hown1, hb2⟩
            case measure => simp [intOf]; omega
        · obtain rfl : k = n := by omega
          have hla : allB l = true := by have := HA.out.1; rw [List.take_of_length_le (by have := HL.out.1; omega)] at this; exact this
          have hma : allB m = true := by have := HA.out.2; rw [List.take_of_length_le (by have := HL.out.2; omega)] at this; exact this
          obtain ⟨k1, k2, k3, k4⟩ := adds_law hla hma (by have := HL.out; omega) (by have := HL.out; omega) x
          rw [List.take_of_length_le (by rw [xors_length (by have := HL.out; omega)]; have := HL.out; omega)] at hown
          obtain ⟨As, cs, rfl⟩ := KH.own_form hown
          have hrs := KH.Reads.of_own hown
          have hr1 := (hr.below hb).more hsz
          have hr2 := (hr'.below hb).more hsz
          clear hown hla hma HA hr hr'
          cases hd : dgB x
          · rw [hd] at k1 k2 k3
            have K := KH.hid (And.intro k1 (And.intro k2 k3))
            clear k1 k2 k3 k4 hd
            go_wp2_with fail
            refine (eval_told _ hr1 (by unfold maxLen; omega) x).mono ?_; rintro e w1 ⟨rfl, hb1⟩
            rw [K.out.1]
            have hs1 := hb1.size
            have hr2b := (hr2.below hb1).more hs1
            have hrsb := (hrs.below hb1).more hs1
            go_wp2_with fail
            refine (eval_told _ hr2b (by unfold maxLen; omega) x).mono ?_; rintro e w2 ⟨rfl, hb2⟩
            rw [K.out.2.1]
            have hs2 := hb2.size
            have hrsc := (hrsb.below hb2).more hs2
            go_wp2_with fail
            refine (eval_told _ hrsc (by unfold maxLen; omega) x).mono ?_; rintro e w3 ⟨rfl, hb3⟩
            rw [K.out.2.2]
            have hs3 := hb3.size
            go_wp2_with fail
            refine (fadd_told _ _ _).mono ?_; rintro e w' ⟨rfl, rfl⟩
            go_wp2_with fail
            refine (polys_any _).mono ?_; rintro e w4 ⟨rfl, hb4⟩
            go_wp2
            go_ret
            exact ⟨rfl, (((hb.trans (hb1.mono (by omega))).trans (hb2.mono (by omega))).trans (hb3.mono (by omega))).trans (hb4.mono (by omega))⟩
          · obtain ⟨k5, k6⟩ := k4 hd
            rw [hd] at k1 k2 k3
            have K := KH.hid (And.intro k1 (And.intro k2 (And.intro k3 (And.intro k5 k6))))
            clear k1 k2 k3 k4 k5 k6 hd
            go_wp2_with fail
            refine (eval_told _ hr1 (by unfold maxLen; omega) x).mono ?_; rintro e w1 ⟨rfl, hb1⟩
            rw [K.out.1]
            have hs1 := hb1.size
            have hr2b := (hr2.below hb1).more hs1
            have hrsb := (hrs.below hb1).more hs1
            go_wp2_with fail
            refine (eval_told _ hr2b (by unfold maxLen; omega) x).mono ?_; rintro e w2 ⟨rfl, hb2⟩
            rw [K.out.2.1]
            have hs2 := hb2.size
            have hrsc := (hrsb.below hb2).more hs2
            go_wp2_with fail
            refine (eval_told _ hrsc (by unfold maxLen; omega) x).mono ?_; rintro e w3 ⟨rfl, hb3⟩
            rw [K.out.2.2.1, K.out.2.2.2.2]
            have hs3 := hb3.size
            go_wp2_with fail
            refine (fadd_told _ _ _).mono ?_; rintro e w' ⟨rfl, rfl⟩
            rw [K.out.2.2.2.1]
            go_wp2_with fail
            refine (polys_any _).mono ?_; rintro e w4 ⟨rfl, hb4⟩
            go_wp2
            go_ret
            exact ⟨rfl, (((hb.trans (hb1.mono (by omega))).trans (hb2.mono (by omega))).trans (hb3.mono (by omega))).trans (hb4.mono (by omega))⟩
    · clear hl hl'
      go_enter Try.func10, Try.ntmps10
      go_wp2_with fail
      refine (polys_any _).mono ?_; rintro e w2 ⟨rfl, hb2⟩
      go_wp2
      go_ret
      exact ⟨rfl, hb2⟩
  · have hne : ((n : Int) != (n' : Int)) = true := by simp; omega
    clear hl hl' hnn
    go_enter Try.func10, Try.ntmps10
    go_wp2_with fail
    refine (polys_any _).mono ?_; rintro e w2 ⟨rfl, hb2⟩
    go_wp2
    go_ret
    exact ⟨rfl, hb2⟩

theorem own : ownKnob Try.prog.godebug = none := by kernel_rfl
theorem laidOut : laidOutB Try.prog = true := by kernel_rfl

/-! ### The step from the walk to the row -/
set_option maxRecDepth 100000 in
theorem lifted (os : Os) (started : os.Started) (H : Type) (enc : TypeId × Value → H) :
    ReturnsInHanded {} Try.checked os 10 .any (Rows.polyAddsSpec.pre6 enc Try.prog Try.f10 Rows.polyAddsRow.domain false) (Rows.polyAddsSpec.post enc Try.prog Try.f10 false true false false) := by
  refine returnsInHanded_of_change (C := Try.checked) own started (by kernel_rfl) Try.func10
    (ChangeSpec.witness6 (enc := enc) (C := Try.checked) false ⟨#[], #[.slice none 0 0, .slice none 0 0, .int .i64 0], []⟩ 8 (by kernel_rfl) (by kernel_rfl) (by kernel_rfl) (by kernel_rfl)) ?_
  intro W base args ds gs before hval0 hW hcnd _
  have hval : ∀ (j : Nat) t v, Try.f10.params[j]? = some t → args[j]? = some v → Value.okWide Try.prog W .any base t v := hval0
  have hW' := hW
  obtain ⟨p, q, hA0, hV, rfl, hfz, hnd⟩ := hW
  have hA : DataW.TrodAll enc Try.prog W 0 (fun _ => true) true Try.f10.params.toList args.toList ds p := hA0
  rw [Try.params10] at hA hval
  obtain ⟨v0, vs0, d0, ds0, p0, q0, hargs, rfl, rfl, h0, r0⟩ := trodAll_cons hA
  obtain ⟨v1, vs1, d1, ds1, p1, q1, rfl, rfl, rfl, h1, r1⟩ := trodAll_cons r0
  obtain ⟨v2, vs2, d2, ds2, p2, q2, rfl, rfl, rfl, h2, r2⟩ := trodAll_cons r1
  obtain ⟨rfl, rfl, rfl⟩ := trodAll_nil r2
  obtain rfl : args = #[v0, v1, v2] := by cases args; simp_all
  obtain ⟨rfl, rfl⟩ := trodVars_none hV
  obtain ⟨a0, len0, cap0, rfl⟩ := okWide_slice Try.underlying34 (hval 0 34 v0 rfl rfl)
  have k0 := h0
  have lt0 : ∀ x ∈ p0, x.block < W.heap.size := by obtain ⟨m, hm⟩ := k0; exact DataW.trod_lt m _ _ _ hm
  obtain ⟨z0, w0⟩ : ∃ zs, IntsIn W a0 len0 cap0 zs := ints_in Try.underlying34 Try.underlying3 (by kernel_rfl) h0
  obtain ⟨a1, len1, cap1, rfl⟩ := okWide_slice Try.underlying34 (hval 1 34 v1 rfl rfl)
  have k1 := h1
  have lt1 : ∀ x ∈ p1, x.block < W.heap.size := by obtain ⟨m, hm⟩ := k1; exact DataW.trod_lt m _ _ _ hm
  obtain ⟨z1, w1⟩ : ∃ zs, IntsIn W a1 len1 cap1 zs := ints_in Try.underlying34 Try.underlying3 (by kernel_rfl) h1
  obtain ⟨a2, rfl, rfl, rfl, w2⟩ := open_int Try.underlying3 (hval 2 3 v2 rfl rfl) h2
  clear hA0 hval0
  refine (walk w0 w1 a2 w2).mono fun e W' ⟨he, bel⟩ => ?_
  subst he
  exact ⟨_, rfl, _, _, _, [], _, [], hW', trodAll_mk1 (shut_bool Try.underlying4 _), (trodAll_cons_mk (Below.trod laidOut (by kernel_rfl) (of_decide_eq_true (by kernel_rfl)) k0 bel lt0) (trodAll_cons_mk (Below.trod laidOut (by kernel_rfl) (of_decide_eq_true (by kernel_rfl)) k1 bel lt1) (trodAll_cons_mk (shut_int Try.underlying3 w2) (trodAll_mk0)))), rfl, bel.frame _, fun h => by cases h⟩

theorem over : Rows.polyAddsRow.holds Try.pinned (OpenSpec.ofChange Rows.polyAddsSpec) :=
  OpenClaim.holds_of_wide 10 Try.f10 rfl rfl rfl rfl rfl rfl rfl ⟨rfl, rfl, rfl, rfl, rfl⟩ rfl rfl rfl rfl rfl (by kernel_rfl) Try.func10 (by kernel_rfl)
    (of_decide_eq_true (by kernel_rfl)) (by unfold Func.isWrapper; first | (rw [if_pos (by decide +kernel)]; kernel_rfl) | (rw [if_neg (by decide +kernel)]; exact ⟨rfl, rfl⟩))
    (fun os started H enc _ => lifted os started H enc)

theorem proved : Rows.PolyAddsSaid := over

end Go.Proofs.Ytdeoibgedjbeiaa.polyAdds
