/- For any row PolyZeros returns true and turns nothing that was there: a polynomial that is not 0 is 0 at no more places than its degree. No condition. -/
import Derived.Test.YtdeoibgedjbeiaaPolyF
import Derived.Test.YtdeoibgedjbeiaaArgs
import Derived.WalkKit
import Derived.ProofKit
import Derived.OpenShut
import Derived.ShutString
import Derived.ChangeOld
import Derived.Below
namespace Go.Proofs.Ytdeoibgedjbeiaa.polyZeros
open Go.ChangeShapes Go.WideShapes Go.ChangeAt Go.RowKit
open Go.ChangeMaps (open_string shut_string)
open KH (IntsIn ints_in BoolsIn bools_in StrsIn strs_in)
set_option linter.unusedVariables false

set_option maxRecDepth 100000 in
theorem walk {w : World} {A : Option Addr} {n c : Nat} {l : List Int} (w0 : IntsIn w A n c l) :
    Calls Try.prog 11 #[.slice A n c] w fun e w' => e = .returned (.bool true) ∧ Below w.heap.size w w' := by
  obtain ⟨hl, hnc, hcm, _, hr⟩ := w0
  have hn : n ≤ maxLen := by omega
  have hn9 : n ≤ 9223372036854775807 := by unfold maxLen at hn; omega
  have hd1 := (dgN_le l l.length).1
  have hd2 := (dgN_le l l.length).2
  have hdg : Hid (degL l = dgN l l.length) := rfl
  rw [hl] at hd1 hd2 hdg
  clear hnc hcm
  by_cases h30 : n ≤ 30
  · cases ha : allB l
    · generalize hD : degL l = d at *
      have HD := KH.hid hD
      clear hl hdg hD
      go_enter Try.func11, Try.ntmps11
      go_wp2_with fail
      refine (degree_any _ hr hn).mono ?_; rintro e w' ⟨rfl, rfl⟩
      rw [HD.out]
      go_wp2_with fail
      refine (rAll_any _ hr hn).mono ?_; rintro e w' ⟨rfl, rfl⟩
      rw [ha]
      go_wp2_with fail
      refine (polys_any _).mono ?_; rintro e w2 ⟨rfl, hb2⟩
      go_wp2
      go_ret
      exact ⟨rfl, hb2⟩
    · by_cases h0 : 0 ≤ degL l
      · have hz := zeros_law ha (by omega) h0
        have HK : Hid (∀ k : Nat, k < 256 → evalK l k = true) := fun k hk => evalK_iff.2 ⟨by omega, ha, dgB_iff.2 (by omega)⟩
        rw [hl] at hz
        obtain ⟨hz1, hz2⟩ := hz
        generalize hD : degL l = d at *
        have HD := KH.hid hD
        clear hl hdg hd1 hd2 hD
        go_enter Try.func11, Try.ntmps11
        go_wp2_with fail
        refine (degree_any _ hr hn).mono ?_; rintro e w' ⟨rfl, rfl⟩
        rw [HD.out]
        go_wp2_with fail
        refine (rAll_any _ hr hn).mono ?_; rintro e w' ⟨rfl, rfl⟩
        rw [ha]
        clear ha
        go_wp2
        go_loopw [4, 5] (fun s i wr => ∃ k : Nat, k ≤ 256 ∧ i = .int .i64 k ∧ s = .int .i64 (zc l k : Nat) ∧ Below w.heap.size w wr) (fun _ i _ => 256 - (intOf i).toNat)
        case atStart => exact ⟨0, by omega, rfl, rfl, Below.refl _ _⟩
        case round =>
          obtain ⟨k, hk, rfl, rfl, hb⟩ := hrel
          have hzl := zc_le l k
          have hsz := hb.size
          by_cases hlt : k < 256
          · have HS := KH.hid (zc_step l k)
            have HE := KH.hid (HK.out k hlt)
            have hrb := (hr.below hb).more hsz
            generalize zc l k = s at *
            by_cases hv : evalV l (k : Int) = 0
            · have HS2 : Hid (zc l (k + 1) = s + 1) := by unfold Hid; rw [HS.out, hv]; rfl
              have HV := KH.hid hv
              clear hv HS
              go_wp2_with fail
              refine (eval_told _ hrb hn _).mono ?_; rintro e w2 ⟨rfl, hb2⟩
              rw [HE.out, HV.out]
              go_wp2
              go_roundw
              case rel => exact ⟨k + 1, by omega, by go_num, by rw [HS2.out]; go_num, hb.trans (hb2.mono hsz)⟩
              case measure => simp [intOf]; omega
            · have HS2 : Hid (zc l (k + 1) = s) := by
                unfold Hid; rw [HS.out]
                have : (evalV l (k : Int) == 0) = false := by simpa using hv
                rw [this]; rfl
              have hne : (evalV l (k : Int) == 0) = false := by simpa using hv
              clear hv HS
              go_wp2_with fail
              refine (eval_told _ hrb hn _).mono ?_; rintro e w2 ⟨rfl, hb2⟩
              rw [HE.out]
              go_wp2
              go_roundw
              case rel => exact ⟨k + 1, by omega, by go_num, by rw [HS2.out], hb.trans (hb2.mono hsz)⟩
              case measure => simp [intOf]; omega
          · obtain rfl : k = 256 := by omega
            clear hlt hk
            generalize zc l 256 = s at *
            go_wp2_with fail
            refine (polys_any _).mono ?_; rintro e w2 ⟨rfl, hb2⟩
            go_wp2
            go_ret
            exact ⟨rfl, hb.trans (hb2.mono hsz)⟩
      · generalize hD : degL l = d at *
        have HD := KH.hid hD
        clear hl hdg hD
        go_enter Try.func11, Try.ntmps11
        go_wp2_with fail
        refine (degree_any _ hr hn).mono ?_; rintro e w' ⟨rfl, rfl⟩
        rw [HD.out]
        go_wp2_with fail
        refine (rAll_any _ hr hn).mono ?_; rintro e w' ⟨rfl, rfl⟩
        rw [ha]
        go_wp2_with fail
        refine (polys_any _).mono ?_; rintro e w2 ⟨rfl, hb2⟩
        go_wp2
        go_ret
        exact ⟨rfl, hb2⟩
  · generalize hD : degL l = d at *
    have HD := KH.hid hD
    clear hl hdg hD
    go_enter Try.func11, Try.ntmps11
    go_wp2_with fail
    refine (degree_any _ hr hn).mono ?_; rintro e w' ⟨rfl, rfl⟩
    rw [HD.out]
    go_wp2_with fail
    refine (polys_any _).mono ?_; rintro e w2 ⟨rfl, hb2⟩
    go_wp2
    go_ret
    exact ⟨rfl, hb2⟩

theorem own : ownKnob Try.prog.godebug = none := by kernel_rfl
theorem laidOut : laidOutB Try.prog = true := by kernel_rfl

/-! ### The step from the walk to the row -/
set_option maxRecDepth 100000 in
theorem lifted (os : Os) (started : os.Started) (H : Type) (enc : TypeId × Value → H) :
    ReturnsInHanded {} Try.checked os 11 .any (Rows.polyZerosSpec.pre6 enc Try.prog Try.f11 Rows.polyZerosRow.domain false) (Rows.polyZerosSpec.post enc Try.prog Try.f11 false true false false) := by
  refine returnsInHanded_of_change (C := Try.checked) own started (by kernel_rfl) Try.func11
    (ChangeSpec.witness6 (enc := enc) (C := Try.checked) false ⟨#[], #[.slice none 0 0], []⟩ 8 (by kernel_rfl) (by kernel_rfl) (by kernel_rfl) (by kernel_rfl)) ?_
  intro W base args ds gs before hval0 hW hcnd _
  have hval : ∀ (j : Nat) t v, Try.f11.params[j]? = some t → args[j]? = some v → Value.okWide Try.prog W .any base t v := hval0
  have hW' := hW
  obtain ⟨p, q, hA0, hV, rfl, hfz, hnd⟩ := hW
  have hA : DataW.TrodAll enc Try.prog W 0 (fun _ => true) true Try.f11.params.toList args.toList ds p := hA0
  rw [Try.params11] at hA hval
  obtain ⟨v0, vs0, d0, ds0, p0, q0, hargs, rfl, rfl, h0, r0⟩ := trodAll_cons hA
  obtain ⟨rfl, rfl, rfl⟩ := trodAll_nil r0
  obtain rfl : args = #[v0] := by cases args; simp_all
  obtain ⟨rfl, rfl⟩ := trodVars_none hV
  obtain ⟨a0, len0, cap0, rfl⟩ := okWide_slice Try.underlying34 (hval 0 34 v0 rfl rfl)
  have k0 := h0
  have lt0 : ∀ x ∈ p0, x.block < W.heap.size := by obtain ⟨m, hm⟩ := k0; exact DataW.trod_lt m _ _ _ hm
  obtain ⟨z0, w0⟩ : ∃ zs, IntsIn W a0 len0 cap0 zs := ints_in Try.underlying34 Try.underlying3 (by kernel_rfl) h0
  clear hA0 hval0
  refine (walk w0).mono fun e W' ⟨he, bel⟩ => ?_
  subst he
  exact ⟨_, rfl, _, _, _, [], _, [], hW', trodAll_mk1 (shut_bool Try.underlying4 _), (trodAll_cons_mk (Below.trod laidOut (by kernel_rfl) (of_decide_eq_true (by kernel_rfl)) k0 bel lt0) (trodAll_mk0)), rfl, bel.frame _, fun h => by cases h⟩

theorem over : Rows.polyZerosRow.holds Try.pinned (OpenSpec.ofChange Rows.polyZerosSpec) :=
  OpenClaim.holds_of_wide 11 Try.f11 rfl rfl rfl rfl rfl rfl rfl ⟨rfl, rfl, rfl, rfl, rfl⟩ rfl rfl rfl rfl rfl (by kernel_rfl) Try.func11 (by kernel_rfl)
    (of_decide_eq_true (by kernel_rfl)) (by unfold Func.isWrapper; first | (rw [if_pos (by decide +kernel)]; kernel_rfl) | (rw [if_neg (by decide +kernel)]; exact ⟨rfl, rfl⟩))
    (fun os started H enc _ => lifted os started H enc)

theorem proved : Rows.PolyZerosSaid := over

end Go.Proofs.Ytdeoibgedjbeiaa.polyZeros
