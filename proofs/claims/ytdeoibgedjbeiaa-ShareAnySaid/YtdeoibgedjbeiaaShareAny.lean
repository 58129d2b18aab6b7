/- For any texts, numbers and choice ShareAny returns true and turns nothing that was there: any k of the shares, or more, combine to the secret, and tell each other share. No condition. -/
import Derived.Test.YtdeoibgedjbeiaaShareJ
import Derived.Test.YtdeoibgedjbeiaaArgs
import Derived.WalkKit
import Derived.ProofKit
import Derived.OpenShut
import Derived.ShutString
import Derived.ChangeOld
import Derived.Below
namespace Go.Proofs.Ytdeoibgedjbeiaa.shareAny
open Go.ChangeShapes Go.WideShapes Go.ChangeAt Go.RowKit
open Go.ChangeMaps (open_string shut_string)
open KH (IntsIn ints_in BoolsIn bools_in StrsIn strs_in)
set_option linter.unusedVariables false

set_option maxHeartbeats 1000000 in
set_option maxRecDepth 100000 in
theorem core {A : Option Addr} {m c' : Nat} {wh : List Bool} (s : ByteArray) (n k : Int) (t : ByteArray) {w : World} (hs : s.size ≤ 100) (ht : t.size ≤ 1000) (hm : m ≤ 300) (hn : n ≤ 40 ∨ (40 < n ∧ 255 < n)) (hw : KH.Reads w w.heap.size 1 A m (wh.map .bool)) :
    Calls Try.prog 13 #[.string s, .int .i64 n, .int .i64 k, .string t, .slice A m c'] w fun e w' => e = .returned (.bool true) ∧ Below w.heap.size w w' := by
  have hsm : s.size ≤ maxLen := by unfold maxLen; omega
  have htm : t.size ≤ maxLen := by unfold maxLen; omega
  have hmm : m ≤ maxLen := by unfold maxLen; omega
  cases hK : splitK s n k t
  · have hV : splitV s n k t = [] := by unfold splitV; rw [hK]; rfl
    have HV := KH.hid hV; clear hV
    rcases hn with h4 | ⟨h4, h5⟩
    all_goals
      go_enter Try.func13, Try.ntmps13
      go_wp2_with fail
      refine (split_told s n k t _ hsm htm).mono ?_; rintro e w1 ⟨A1, n1, c1, rfl, ho1, hb1, hl1⟩
      rw [HV.out] at ho1 hl1
      obtain rfl : 0 = n1 := hl1
      have hin1 : ShIn w1 w1.heap.size A1 0 [] := KH.Reads.of_own ho1
      have hw1 := (hw.below hb1).more hb1.size
      rw [hK]
      clear ho1
      have hs1 := hb1.size
      go_wp2_with fail
      refine (chosen_any _ _ hin1 (by omega) hw1 hmm).mono ?_; rintro e w2 ⟨A2, n2, c2, rfl, ho2, hb2, hl2⟩
      clear ho2
      have hs2 := hb2.size
      have e1 : splitE false = 1 := rfl
      rw [e1]
      go_wp2_with fail
      refine (shares_any _).mono ?_; rintro e w3 ⟨rfl, hb3⟩
      go_wp2
      go_ret
      exact ⟨rfl, (hb1.trans (hb2.mono (by omega))).trans (hb3.mono (by omega))⟩
  · obtain ⟨q1, q2, q3, q4, q5, q6⟩ := splitK_iff.1 hK
    obtain ⟨n', rfl⟩ := Int.eq_ofNat_of_zero_le (show 0 ≤ n by omega)
    obtain ⟨k', rfl⟩ := Int.eq_ofNat_of_zero_le (show 0 ≤ k by omega)
    have hV : splitV s n' k' t = splitL s t n' k' := by unfold splitV; rw [hK]; rfl
    have HV := KH.hid hV; clear hV
    have hn40 : n' ≤ 40 := by omega
    have HQ := KH.hid (And.intro q1 (And.intro q4 q6))
    clear q1 q2 q3 q6 hn
    go_enter Try.func13, Try.ntmps13
    go_wp2_with fail
    refine (split_told s n' k' t _ hsm htm).mono ?_; rintro e w1 ⟨A1, n1, c1, rfl, ho1, hb1, hl1⟩
    rw [HV.out] at ho1 hl1
    rw [splitL_length] at hl1
    subst hl1
    have hin1 : ShIn w1 w1.heap.size A1 n' (splitL s t n' k') := KH.Reads.of_own ho1
    have hw1 := (hw.below hb1).more hb1.size
    rw [hK]
    clear ho1 hw hK
    have hs1 := hb1.size
    go_wp2_with fail
    refine (chosen_any _ _ hin1 (by omega) hw1 hmm).mono ?_; rintro e w2 ⟨A2, n2, c2, rfl, ho2, hb2, hl2⟩
    have hs2 := hb2.size
    have e1 : splitE true = 0 := rfl
    rw [e1]
    clear e1
    have hsub := chsL_sub (splitL s t n' k') wh
    have hle := hsub.length_le
    rw [splitL_length, hl2] at hle
    have hin2 : ShIn w2 w2.heap.size A2 n2 (chsL (splitL s t n' k') wh) := KH.Reads.of_own ho2
    have hin12 := KH.Reads.below hin1 hb2
    clear ho2 hw1 hin1
    have hB2 := hb1.trans (hb2.mono hs1)
    clear hb1 hb2
    by_cases hkc : n2 < k'
    · clear hsub hl2
      go_wp2_with fail
      refine (shares_any _).mono ?_; rintro e w3 ⟨rfl, hb3⟩
      go_wp2
      go_ret
      exact ⟨rfl, hB2.trans (hb3.mono (by omega))⟩
    · obtain ⟨L1, L2, L3⟩ := any_law HQ.out.1 (by omega) (by omega) hsub (by omega)
      have HL := KH.hid (And.intro L1 (And.intro L2 L3))
      have hszc : ∀ p ∈ chsL (splitL s t n' k') wh, p.2.size ≤ maxLen := fun p hp => by
        obtain ⟨i, hi, rfl⟩ := splitL_mem (hsub.subset hp)
        rw [tx_size]; unfold maxLen; omega
      have HZ := KH.hid hszc
      clear L1 L2 L3 hszc hsub hl2
      generalize chsL (splitL s t n' k') wh = cc at *
      go_wp2_with fail
      refine (combine_told _ hin2 (by unfold maxLen; omega) HZ.out).mono ?_; rintro e w3 ⟨rfl, hb3⟩
      rw [HL.out.1, HL.out.2.1]
      have hs3 := hb3.size
      have hin3 := (KH.Reads.below hin2 hb3).more hs3
      have hin13 := KH.Reads.below hin12 (hb3.mono hs2)
      have hB3 := hB2.trans (hb3.mono (by omega))
      clear hb3 hin2 hin12 hB2
      go_wp2
      go_loopw [16] (fun i wr => ∃ i' : Nat, i' ≤ n' ∧ i = .int .i64 i' ∧ Below w3.heap.size w3 wr) (fun i _ => n' - (intOf i).toNat)
      case atStart => exact ⟨0, Nat.zero_le _, rfl, Below.refl _ _⟩
      case round =>
        obtain ⟨i, hin, rfl, hb⟩ := hrel
        have hsz := hb.size
        by_cases hil : i < n'
        · obtain ⟨ad, X, b, rfl, hab, hx, hc1, hc2⟩ := ShIn.at_ (KH.Reads.below hin13 (hb.mono (by omega))) hil
          rw [splitL_get hil] at hx
          injection hx with hx; injection hx with e1 e2
          subst e1; subst e2
          have HA := HL.out.2.2 i hil
          have e3 : ((i + 1 : Nat) : Int) = (i : Int) + 1 := rfl
          rw [e3] at HA
          have HA' := KH.hid HA
          have hcc : ShIn wr wr.heap.size A2 n2 cc := (KH.Reads.below hin3 hb).more hsz
          clear HA
          generalize tx 32 (shv s t k' i) = sv at *
          go_wp2_with fail
          refine (at_told _ hcc (by unfold maxLen; omega) HZ.out _).mono ?_; rintro e w5 ⟨rfl, hb5⟩
          rw [HA'.out.1, HA'.out.2]
          have hc3 := (hb5.cell (p := ⟨(ad.add (i * 2)).block, (ad.add (i * 2)).off + 1, none⟩) (by show (ad.add (i * 2)).block < _; rw [KH.block_of_add]; omega)).trans hc2
          go_wp2
          go_roundw
          case rel => exact ⟨i + 1, by omega, by go_num, hb.trans (hb5.mono hsz)⟩
          case measure => simp [intOf]; omega
        · obtain rfl : i = n' := by omega
          go_wp2_with fail
          refine (shares_any _).mono ?_; rintro e w5 ⟨rfl, hb5⟩
          go_wp2
          go_ret
          exact ⟨rfl, (hB3.trans (hb.mono hB3.size)).trans (hb5.mono (by omega))⟩

theorem walk {w : World} (s : ByteArray) (w0 : s.size ≤ 9223372036854775807) (n : Int) (w1 : (Lit.int .i64 n).wf = true) (k : Int) (w2 : (Lit.int .i64 k).wf = true) (t : ByteArray) (w3 : t.size ≤ 9223372036854775807) {A : Option Addr} {m c' : Nat} {wh : List Bool} (w4 : BoolsIn w A m c' wh) :
    Calls Try.prog 13 #[.string s, .int .i64 n, .int .i64 k, .string t, .slice A m c'] w fun e w' => e = .returned (.bool true) ∧ Below w.heap.size w w' := by
  obtain ⟨hl, hmc, hcm, hw⟩ := w4
  have hm9 : m ≤ 9223372036854775807 := by unfold maxLen at hcm; omega
  clear w1 w2 hl hmc
  by_cases h1 : s.size ≤ 100
  · by_cases h2 : t.size ≤ 1000
    · by_cases h3 : 40 < n ∧ n ≤ 255
      · obtain ⟨h3, h4⟩ := h3
        clear hw
        go_enter Try.func13, Try.ntmps13
        go_wp2
        go_ret
        exact ⟨rfl, Below.refl _ _⟩
      · by_cases h5 : m ≤ 300
        · exact core s n k t h1 h2 h5 (by omega) hw
        · have h4 : n ≤ 40 ∨ (40 < n ∧ 255 < n) := by omega
          clear h3 hw
          rcases h4 with h4 | ⟨h4, h6⟩
          all_goals
            go_enter Try.func13, Try.ntmps13
            go_wp2
            go_ret
            exact ⟨rfl, Below.refl _ _⟩
    · clear hw
      go_enter Try.func13, Try.ntmps13
      go_wp2
      go_ret
      exact ⟨rfl, Below.refl _ _⟩
  · clear hw
    go_enter Try.func13, Try.ntmps13
    go_wp2
    go_ret
    exact ⟨rfl, Below.refl _ _⟩

theorem own : ownKnob Try.prog.godebug = none := by kernel_rfl
theorem laidOut : laidOutB Try.prog = true := by kernel_rfl

/-! ### The step from the walk to the row -/
set_option maxRecDepth 100000 in
theorem lifted (os : Os) (started : os.Started) (H : Type) (enc : TypeId × Value → H) :
    ReturnsInHanded {} Try.checked os 13 .any (Rows.shareAnySpec.pre6 enc Try.prog Try.f13 Rows.shareAnyRow.domain false) (Rows.shareAnySpec.post enc Try.prog Try.f13 false true false false) := by
  refine returnsInHanded_of_change (C := Try.checked) own started (by kernel_rfl) Try.func13
    (ChangeSpec.witness6 (enc := enc) (C := Try.checked) false ⟨#[], #[.string ByteArray.empty, .int .i64 0, .int .i64 0, .string ByteArray.empty, .slice none 0 0], []⟩ 8 (by kernel_rfl) (by kernel_rfl) (by kernel_rfl) (by kernel_rfl)) ?_
  intro W base args ds gs before hval0 hW hcnd _
  have hval : ∀ (j : Nat) t v, Try.f13.params[j]? = some t → args[j]? = some v → Value.okWide Try.prog W .any base t v := hval0
  have hW' := hW
  obtain ⟨p, q, hA0, hV, rfl, hfz, hnd⟩ := hW
  have hA : DataW.TrodAll enc Try.prog W 0 (fun _ => true) true Try.f13.params.toList args.toList ds p := hA0
  rw [Try.params13] at hA hval
  obtain ⟨v0, vs0, d0, ds0, p0, q0, hargs, rfl, rfl, h0, r0⟩ := trodAll_cons hA
  obtain ⟨v1, vs1, d1, ds1, p1, q1, rfl, rfl, rfl, h1, r1⟩ := trodAll_cons r0
  obtain ⟨v2, vs2, d2, ds2, p2, q2, rfl, rfl, rfl, h2, r2⟩ := trodAll_cons r1
  obtain ⟨v3, vs3, d3, ds3, p3, q3, rfl, rfl, rfl, h3, r3⟩ := trodAll_cons r2
  obtain ⟨v4, vs4, d4, ds4, p4, q4, rfl, rfl, rfl, h4, r4⟩ := trodAll_cons r3
  obtain ⟨rfl, rfl, rfl⟩ := trodAll_nil r4
  obtain rfl : args = #[v0, v1, v2, v3, v4] := by cases args; simp_all
  obtain ⟨rfl, rfl⟩ := trodVars_none hV
  obtain ⟨a0, rfl, rfl, rfl, w0⟩ := open_string Try.underlying9 (hval 0 9 v0 rfl rfl) h0
  obtain ⟨a1, rfl, rfl, rfl, w1⟩ := open_int Try.underlying3 (hval 1 3 v1 rfl rfl) h1
  obtain ⟨a2, rfl, rfl, rfl, w2⟩ := open_int Try.underlying3 (hval 2 3 v2 rfl rfl) h2
  obtain ⟨a3, rfl, rfl, rfl, w3⟩ := open_string Try.underlying9 (hval 3 9 v3 rfl rfl) h3
  obtain ⟨a4, len4, cap4, rfl⟩ := okWide_slice Try.underlying49 (hval 4 49 v4 rfl rfl)
  have k4 := h4
  have lt4 : ∀ x ∈ p4, x.block < W.heap.size := by obtain ⟨m, hm⟩ := k4; exact DataW.trod_lt m _ _ _ hm
  obtain ⟨z4, w4⟩ : ∃ zs, BoolsIn W a4 len4 cap4 zs := bools_in Try.underlying49 Try.underlying4 (by kernel_rfl) h4
  clear hA0 hval0
  refine (walk a0 w0 a1 w1 a2 w2 a3 w3 w4).mono fun e W' ⟨he, bel⟩ => ?_
  subst he
  exact ⟨_, rfl, _, _, _, [], _, [], hW', trodAll_mk1 (shut_bool Try.underlying4 _), (trodAll_cons_mk (shut_string Try.underlying9 w0) (trodAll_cons_mk (shut_int Try.underlying3 w1) (trodAll_cons_mk (shut_int Try.underlying3 w2) (trodAll_cons_mk (shut_string Try.underlying9 w3) (trodAll_cons_mk (Below.trod laidOut (by kernel_rfl) (of_decide_eq_true (by kernel_rfl)) k4 bel lt4) (trodAll_mk0)))))), rfl, bel.frame _, fun h => by cases h⟩

theorem over : Rows.shareAnyRow.holds Try.pinned (OpenSpec.ofChange Rows.shareAnySpec) :=
  OpenClaim.holds_of_wide 13 Try.f13 rfl rfl rfl rfl rfl rfl rfl ⟨rfl, rfl, rfl, rfl, rfl⟩ rfl rfl rfl rfl rfl (by kernel_rfl) Try.func13 (by kernel_rfl)
    (of_decide_eq_true (by kernel_rfl)) (by unfold Func.isWrapper; first | (rw [if_pos (by decide +kernel)]; kernel_rfl) | (rw [if_neg (by decide +kernel)]; exact ⟨rfl, rfl⟩))
    (fun os started H enc _ => lifted os started H enc)

theorem proved : Rows.ShareAnySaid := over

end Go.Proofs.Ytdeoibgedjbeiaa.shareAny
