/- For any texts, numbers and choice ShareHides returns true and turns nothing that was there: whatever other secret there is, there is a tape with which k less 1 chosen shares are the same. No condition. -/
import Derived.Test.YtdeoibgedjbeiaaTapeF
import Derived.Test.YtdeoibgedjbeiaaArgs
import Derived.WalkKit
import Derived.ProofKit
import Derived.OpenShut
import Derived.ShutString
import Derived.ChangeOld
import Derived.Below
namespace Go.Proofs.Ytdeoibgedjbeiaa.shareHides
open Go.ChangeShapes Go.WideShapes Go.ChangeAt Go.RowKit
open Go.ChangeMaps (open_string shut_string)
open KH (IntsIn ints_in BoolsIn bools_in StrsIn strs_in)
set_option linter.unusedVariables false

set_option maxHeartbeats 1000000 in
set_option maxRecDepth 100000 in
theorem core {A : Option Addr} {m c' : Nat} {wh : List Bool} (s o : ByteArray) (n k : Int) (t : ByteArray) {w : World} (hs : s.size ≤ 100) (ho9 : o.size ≤ 9223372036854775807) (ht : t.size ≤ 300) (hm : m ≤ 300) (hn : n ≤ 20 ∨ (20 < n ∧ 255 < n)) (hw : KH.Reads w w.heap.size 1 A m (wh.map .bool)) :
    Calls Try.prog 17 #[.string s, .string o, .int .i64 n, .int .i64 k, .string t, .slice A m c'] w fun e w' => e = .returned (.bool true) ∧ Below w.heap.size w w' := by
  have hsm : s.size ≤ maxLen := by unfold maxLen; omega
  have htm : t.size ≤ maxLen := by unfold maxLen; omega
  have hmm : m ≤ maxLen := by unfold maxLen; omega
  cases hK : splitK s n k t
  · have hV : splitV s n k t = [] := by unfold splitV; rw [hK]; rfl
    have HV := KH.hid hV; clear hV
    rcases hn with h4 | ⟨h4, h5⟩
    all_goals
      go_enter Try.func17, Try.ntmps17
      go_wp2_with fail
      refine (split_told s n k t _ hsm htm).mono ?_; rintro e w1 ⟨A1, n1, c1, rfl, ho1, hb1, hl1⟩
      rw [HV.out] at ho1 hl1
      obtain rfl : 0 = n1 := hl1
      have hin1 : ShIn w1 w1.heap.size A1 0 [] := KH.Reads.of_own ho1
      have hw1 := (hw.below hb1).more hb1.size
      rw [hK]
      clear ho1
      have hs1 := hb1.size
      go_wp2_with fail
      refine (chosen_any _ _ hin1 (by omega) hw1 hmm).mono ?_; rintro e w2 ⟨A2, n2, c2, rfl, ho2, hb2, hl2⟩
      clear ho2
      have hs2 := hb2.size
      have e1 : splitE false = 1 := rfl
      rw [e1]
      go_wp2_with fail
      refine (shares_any _).mono ?_; rintro e w3 ⟨rfl, hb3⟩
      go_wp2
      go_ret
      exact ⟨rfl, (hb1.trans (hb2.mono (by omega))).trans (hb3.mono (by omega))⟩
  · obtain ⟨q1, q2, q3, q4, q5, q6⟩ := splitK_iff.1 hK
    have hK1 : 1 ≤ k := q4
    obtain ⟨n', rfl⟩ := Int.eq_ofNat_of_zero_le (show 0 ≤ n by omega)
    obtain ⟨k', rfl⟩ := Int.eq_ofNat_of_zero_le (show 0 ≤ k by omega)
    have hV : splitV s n' k' t = splitL s t n' k' := by unfold splitV; rw [hK]; rfl
    have HV := KH.hid hV; clear hV
    have hn20 : n' ≤ 20 := by omega
    have HQ := KH.hid (And.intro q1 (And.intro q4 q6))
    clear q1 q2 q3 q6 hn
    go_enter Try.func17, Try.ntmps17
    go_wp2_with fail
    refine (split_told s n' k' t _ hsm htm).mono ?_; rintro e w1 ⟨A1, n1, c1, rfl, ho1, hb1, hl1⟩
    rw [HV.out] at ho1 hl1
    rw [splitL_length] at hl1
    subst hl1
    have hin1 : ShIn w1 w1.heap.size A1 n' (splitL s t n' k') := KH.Reads.of_own ho1
    have hw1 := (hw.below hb1).more hb1.size
    rw [hK]
    clear ho1 hw hK
    have hs1 := hb1.size
    go_wp2_with fail
    refine (chosen_any _ _ hin1 (by omega) hw1 hmm).mono ?_; rintro e w2 ⟨A2, n2, c2, rfl, ho2, hb2, hl2⟩
    have hs2 := hb2.size
    have e1 : splitE true = 0 := rfl
    rw [e1]
    clear e1
    have hsub := chsL_sub (splitL s t n' k') wh
    have hle := hsub.length_le
    rw [splitL_length, hl2] at hle
    have hin2 : ShIn w2 w2.heap.size A2 n2 (chsL (splitL s t n' k') wh) := KH.Reads.of_own ho2
    have hw2 := (hw1.below hb2).more hs2
    clear ho2 hw1 hin1
    have hB2 := hb1.trans (hb2.mono hs1)
    clear hb1 hb2
    by_cases hgo : o.size = 32 ∧ n2 = k' - 1 ∧ 1 ≤ n2
    · obtain ⟨g1, g2, g3⟩ := hgo
      obtain ⟨L1, L2, L3, L4, L5⟩ := hides_law (wh := wh) (o := o) (n := n') (k := k') (s := s) (t := t) HQ.out.1 g1 (by omega) (by omega) (by have := HQ.out.2.2; omega) (by rw [hl2]; exact g2) (by rw [hl2]; exact g3)
      have hszc : ∀ p ∈ chsL (splitL s t n' k') wh, p.2.size ≤ maxLen := fun p hp => by
        obtain ⟨i, hi, rfl⟩ := splitL_mem (hsub.subset hp)
        rw [tx_size]; unfold maxLen; omega
      have hTS : (tapeV o (chsL (splitL s t n' k') wh)).size ≤ maxLen := by
        have := (splitK_iff.1 L3).2.2.2.2.2
        unfold maxLen; omega
      have hE : tapeE o (chsL (splitL s t n' k') wh) = 0 ∧ tapeE s (chsL (splitL s t n' k') wh) = 0 := by
        unfold tapeK at L1 L2
        rw [Bool.and_eq_true, decide_eq_true_iff] at L1 L2
        unfold tapeE
        rw [if_pos L1.1, if_pos L2.1, L1.2]; exact ⟨rfl, rfl⟩
      have hV2 : splitV o n' k' (tapeV o (chsL (splitL s t n' k') wh)) = splitL o (tapeV o (chsL (splitL s t n' k') wh)) n' k' := by unfold splitV; rw [L3]; rfl
      have hom : o.size ≤ maxLen := by unfold maxLen; omega
      have HZ := KH.hid (And.intro hszc hTS)
      have HL := KH.hid (And.intro L3 (And.intro L4 (And.intro L5 (And.intro hE hV2))))
      have b1 : ((o.size : Int) != 32) = false := by simp [g1]
      have b2 : ((n2 : Int) != (k' : Int) - 1) = false := by simp; omega
      have b3 : ((n2 : Int) == 0) = false := by simp; omega
      clear L1 L2 L3 L4 L5 hszc hTS hE hV2 hsub hl2 g1 g2
      generalize hT : tapeV o (chsL (splitL s t n' k') wh) = T at *
      generalize chsL (splitL s t n' k') wh = cc at *
      have HT := KH.hid hT
      clear hT
      go_wp2_with fail
      refine (tape_told _ o hin2 (by unfold maxLen; omega) HZ.out.1).mono ?_; rintro e w3 ⟨rfl, hb3⟩
      rw [HL.out.2.2.2.1.1, HT.out]
      have hs3 := hb3.size
      have hin3 := (KH.Reads.below hin2 hb3).more hs3
      have hw3 := (hw2.below hb3).more hs3
      have hB3 := hB2.trans (hb3.mono (by omega))
      clear hb3 hin2 hB2 hw2
      go_wp2_with fail
      refine (split_told o n' k' T _ hom HZ.out.2).mono ?_; rintro e w4 ⟨A4, n4, c4, rfl, ho4, hb4, hl4⟩
      rw [HL.out.2.2.2.2] at ho4 hl4
      rw [splitL_length] at hl4
      subst hl4
      rw [HL.out.1]
      have e1 : splitE true = 0 := rfl
      rw [e1]
      clear e1
      have hs4 := hb4.size
      have hin4 : ShIn w4 w4.heap.size A4 n' (splitL o T n' k') := KH.Reads.of_own ho4
      have hinc := (KH.Reads.below hin3 hb4).more hs4
      have hw4 := (hw3.below hb4).more hs4
      have hB4 := hB3.trans (hb4.mono (by omega))
      clear hb4 hin3 hB3 hw3 ho4
      go_wp2_with fail
      refine (tape_told _ s hinc (by unfold maxLen; omega) HZ.out.1).mono ?_; rintro e w5 ⟨rfl, hb5⟩
      rw [HL.out.2.2.2.1.2, HL.out.2.2.1]
      have hs5 := hb5.size
      have hin5 := (KH.Reads.below hin4 hb5).more hs5
      have hinc5 := (KH.Reads.below hinc hb5).more hs5
      have hw5 := (hw4.below hb5).more hs5
      have hB5 := hB4.trans (hb5.mono (by omega))
      clear hb5 hin4 hinc hB4 hw4
      go_wp2_with fail
      refine (shares_any _).mono ?_; rintro e w6 ⟨rfl, hb6⟩
      have hs6 := hb6.size
      have hin6 := (KH.Reads.below hin5 hb6).more hs6
      have hinc6 := (KH.Reads.below hinc5 hb6).more hs6
      have hw6 := (hw5.below hb6).more hs6
      have hB6 := hB5.trans (hb6.mono (by omega))
      clear hb6 hin5 hinc5 hB5 hw5
      go_wp2_with fail
      refine (chosen_any _ _ hin6 (by omega) hw6 hmm).mono ?_; rintro e w7 ⟨A7, n7, c7, rfl, ho7, hb7, hl7⟩
      rw [HL.out.2.1] at ho7 hl7
      have hs7 := hb7.size
      have hin7 : ShIn w7 w7.heap.size A7 n7 cc := KH.Reads.of_own ho7
      have hinc7 := (KH.Reads.below hinc6 hb7).more hs7
      have hn7 : n7 = n2 := by rw [← hl7, ShIn.len (show ShIn w7 w7.heap.size A2 n2 cc from hinc7)]
      subst hn7
      have hB7 := hB6.trans (hb7.mono (by omega))
      clear hb7 hin6 hinc6 hB6 hw6 ho7 hl7
      go_wp2_with fail
      refine (same_any _ _ hin7 hinc7 (by unfold maxLen; omega) (by unfold maxLen; omega)).mono ?_; rintro e w8 ⟨rfl, q, rfl⟩
      rw [decide_eq_true rfl]
      go_wp2
      go_ret
      exact ⟨rfl, below_drewN hB7 q⟩
    · clear hsub hl2
      by_cases g1 : o.size = 32
      · have b1 : ((o.size : Int) != 32) = false := by simp [g1]
        by_cases g2 : n2 = k' - 1
        · have b2 : ((n2 : Int) != (k' : Int) - 1) = false := by simp; omega
          have b3 : ((n2 : Int) == 0) = true := by simp; omega
          clear hgo g1 g2
          go_wp2_with fail
          refine (shares_any _).mono ?_; rintro e w3 ⟨rfl, hb3⟩
          go_wp2
          go_ret
          exact ⟨rfl, hB2.trans (hb3.mono (by omega))⟩
        · have b2 : ((n2 : Int) != (k' : Int) - 1) = true := by simp; omega
          clear hgo g1 g2
          go_wp2_with fail
          refine (shares_any _).mono ?_; rintro e w3 ⟨rfl, hb3⟩
          go_wp2
          go_ret
          exact ⟨rfl, hB2.trans (hb3.mono (by omega))⟩
      · have b1 : ((o.size : Int) != 32) = true := by simp; omega
        clear hgo g1
        go_wp2_with fail
        refine (shares_any _).mono ?_; rintro e w3 ⟨rfl, hb3⟩
        go_wp2
        go_ret
        exact ⟨rfl, hB2.trans (hb3.mono (by omega))⟩

theorem walk {w : World} (s : ByteArray) (w0 : s.size ≤ 9223372036854775807) (o : ByteArray) (w00 : o.size ≤ 9223372036854775807) (n : Int) (w1 : (Lit.int .i64 n).wf = true) (k : Int) (w2 : (Lit.int .i64 k).wf = true) (t : ByteArray) (w3 : t.size ≤ 9223372036854775807) {A : Option Addr} {m c' : Nat} {wh : List Bool} (w4 : BoolsIn w A m c' wh) :
    Calls Try.prog 17 #[.string s, .string o, .int .i64 n, .int .i64 k, .string t, .slice A m c'] w fun e w' => e = .returned (.bool true) ∧ Below w.heap.size w w' := by
  obtain ⟨hl, hmc, hcm, hw⟩ := w4
  have hm9 : m ≤ 9223372036854775807 := by unfold maxLen at hcm; omega
  clear w1 w2 hl hmc
  by_cases h1 : s.size ≤ 100
  · by_cases h2 : t.size ≤ 300
    · by_cases h3 : 20 < n ∧ n ≤ 255
      · obtain ⟨h3, h4⟩ := h3
        clear hw
        go_enter Try.func17, Try.ntmps17
        go_wp2
        go_ret
        exact ⟨rfl, Below.refl _ _⟩
      · by_cases h5 : m ≤ 300
        · exact core s o n k t h1 w00 h2 h5 (by omega) hw
        · have h4 : n ≤ 20 ∨ (20 < n ∧ 255 < n) := by omega
          clear h3 hw
          rcases h4 with h4 | ⟨h4, h6⟩
          all_goals
            go_enter Try.func17, Try.ntmps17
            go_wp2
            go_ret
            exact ⟨rfl, Below.refl _ _⟩
    · clear hw
      go_enter Try.func17, Try.ntmps17
      go_wp2
      go_ret
      exact ⟨rfl, Below.refl _ _⟩
  · clear hw
    go_enter Try.func17, Try.ntmps17
    go_wp2
    go_ret
    exact ⟨rfl, Below.refl _ _⟩

theorem own : ownKnob Try.prog.godebug = none := by kernel_rfl
theorem laidOut : laidOutB Try.prog = true := by kernel_rfl

/-! ### The step from the walk to the row -/
set_option maxRecDepth 100000 in
theorem lifted (os : Os) (started : os.Started) (H : Type) (enc : TypeId × Value → H) :
    ReturnsInHanded {} Try.checked os 17 .any (Rows.shareHidesSpec.pre6 enc Try.prog Try.f17 Rows.shareHidesRow.domain false) (Rows.shareHidesSpec.post enc Try.prog Try.f17 false true false false) := by
  refine returnsInHanded_of_change (C := Try.checked) own started (by kernel_rfl) Try.func17
    (ChangeSpec.witness6 (enc := enc) (C := Try.checked) false ⟨#[], #[.string ByteArray.empty, .string ByteArray.empty, .int .i64 0, .int .i64 0, .string ByteArray.empty, .slice none 0 0], []⟩ 8 (by kernel_rfl) (by kernel_rfl) (by kernel_rfl) (by kernel_rfl)) ?_
  intro W base args ds gs before hval0 hW hcnd _
  have hval : ∀ (j : Nat) t v, Try.f17.params[j]? = some t → args[j]? = some v → Value.okWide Try.prog W .any base t v := hval0
  have hW' := hW
  obtain ⟨p, q, hA0, hV, rfl, hfz, hnd⟩ := hW
  have hA : DataW.TrodAll enc Try.prog W 0 (fun _ => true) true Try.f17.params.toList args.toList ds p := hA0
  rw [Try.params17] at hA hval
  obtain ⟨v0, vs0, d0, ds0, p0, q0, hargs, rfl, rfl, h0, r0⟩ := trodAll_cons hA
  obtain ⟨v1, vs1, d1, ds1, p1, q1, rfl, rfl, rfl, h1, r1⟩ := trodAll_cons r0
  obtain ⟨v2, vs2, d2, ds2, p2, q2, rfl, rfl, rfl, h2, r2⟩ := trodAll_cons r1
  obtain ⟨v3, vs3, d3, ds3, p3, q3, rfl, rfl, rfl, h3, r3⟩ := trodAll_cons r2
  obtain ⟨v4, vs4, d4, ds4, p4, q4, rfl, rfl, rfl, h4, r4⟩ := trodAll_cons r3
  obtain ⟨v5, vs5, d5, ds5, p5, q5, rfl, rfl, rfl, h5, r5⟩ := trodAll_cons r4
  obtain ⟨rfl, rfl, rfl⟩ := trodAll_nil r5
  obtain rfl : args = #[v0, v1, v2, v3, v4, v5] := by cases args; simp_all
  obtain ⟨rfl, rfl⟩ := trodVars_none hV
  obtain ⟨a0, rfl, rfl, rfl, w0⟩ := open_string Try.underlying9 (hval 0 9 v0 rfl rfl) h0
  obtain ⟨a1, rfl, rfl, rfl, w1⟩ := open_string Try.underlying9 (hval 1 9 v1 rfl rfl) h1
  obtain ⟨a2, rfl, rfl, rfl, w2⟩ := open_int Try.underlying3 (hval 2 3 v2 rfl rfl) h2
  obtain ⟨a3, rfl, rfl, rfl, w3⟩ := open_int Try.underlying3 (hval 3 3 v3 rfl rfl) h3
  obtain ⟨a4, rfl, rfl, rfl, w4⟩ := open_string Try.underlying9 (hval 4 9 v4 rfl rfl) h4
  obtain ⟨a5, len5, cap5, rfl⟩ := okWide_slice Try.underlying49 (hval 5 49 v5 rfl rfl)
  have k5 := h5
  have lt5 : ∀ x ∈ p5, x.block < W.heap.size := by obtain ⟨m, hm⟩ := k5; exact DataW.trod_lt m _ _ _ hm
  obtain ⟨z5, w5⟩ : ∃ zs, BoolsIn W a5 len5 cap5 zs := bools_in Try.underlying49 Try.underlying4 (by kernel_rfl) h5
  clear hA0 hval0
  refine (walk a0 w0 a1 w1 a2 w2 a3 w3 a4 w4 w5).mono fun e W' ⟨he, bel⟩ => ?_
  subst he
  exact ⟨_, rfl, _, _, _, [], _, [], hW', trodAll_mk1 (shut_bool Try.underlying4 _), (trodAll_cons_mk (shut_string Try.underlying9 w0) (trodAll_cons_mk (shut_string Try.underlying9 w1) (trodAll_cons_mk (shut_int Try.underlying3 w2) (trodAll_cons_mk (shut_int Try.underlying3 w3) (trodAll_cons_mk (shut_string Try.underlying9 w4) (trodAll_cons_mk (Below.trod laidOut (by kernel_rfl) (of_decide_eq_true (by kernel_rfl)) k5 bel lt5) (trodAll_mk0))))))), rfl, bel.frame _, fun h => by cases h⟩

theorem over : Rows.shareHidesRow.holds Try.pinned (OpenSpec.ofChange Rows.shareHidesSpec) :=
  OpenClaim.holds_of_wide 17 Try.f17 rfl rfl rfl rfl rfl rfl rfl ⟨rfl, rfl, rfl, rfl, rfl⟩ rfl rfl rfl rfl rfl (by kernel_rfl) Try.func17 (by kernel_rfl)
    (of_decide_eq_true (by kernel_rfl)) (by unfold Func.isWrapper; first | (rw [if_pos (by decide +kernel)]; kernel_rfl) | (rw [if_neg (by decide +kernel)]; exact ⟨rfl, rfl⟩))
    (fun os started H enc _ => lifted os started H enc)

theorem proved : Rows.ShareHidesSaid := over

end Go.Proofs.Ytdeoibgedjbeiaa.shareHides
