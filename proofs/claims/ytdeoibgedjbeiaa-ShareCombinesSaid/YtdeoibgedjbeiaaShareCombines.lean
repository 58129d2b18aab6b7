/- For any shares, number and text ShareCombines returns true and turns nothing that was there: shares are combined, and told at a place, just as the document tells, or refused; just that tape belongs to them. No condition. -/
import Derived.Test.YtdeoibgedjbeiaaShareK
import Derived.Test.YtdeoibgedjbeiaaRefW
import Derived.WalkKit
import Derived.ProofKit
import Derived.OpenShut
import Derived.ShutString
import Derived.ChangeOld
import Derived.Below
namespace Go.Proofs.Ytdeoibgedjbeiaa.shareCombines
open Go.ChangeShapes Go.WideShapes Go.ChangeAt Go.RowKit
open Go.ChangeMaps (open_string shut_string)
set_option linter.unusedVariables false

theorem opened0 {H : Type} {enc : TypeId × Value → H} {W : World} {a : Option Addr} {len cap : Nat} {d : DataW H} {p : List MemPlace}
    (h : DataW.Trod enc Try.prog W 0 (fun _ => true) true 43 (.slice a len cap) d p) (_ : ∀ x ∈ p, x.block < W.heap.size) : ∃ zs, SharesIn W a len cap zs := shares_in h

set_option maxHeartbeats 2000000 in
set_option maxRecDepth 100000 in
theorem walk {w : World} {A : Option Addr} {n c : Nat} {l : List (Int × ByteArray)} (w0 : SharesIn w A n c l) (x : Int) (w1 : (Lit.int .i64 x).wf = true) (s : ByteArray) (w2 : s.size ≤ 9223372036854775807) :
    Calls Try.prog 16 #[.slice A n c, .int .i64 x, .string s] w fun e w' => e = .returned (.bool true) ∧ Below w.heap.size w w' := by
  obtain ⟨hsz, hnc, hcm, hnil, hin⟩ := w0
  have hnm : n ≤ maxLen := Nat.le_trans hnc hcm
  clear w1 hnc hcm
  by_cases hbig : bigS l = true
  · go_enter Try.func16, Try.ntmps16
    go_wp2_with fail
    refine (big_any _ hin hnm hsz).mono ?_; rintro e w1 ⟨rfl, rfl⟩
    rw [hbig]
    go_wp2
    go_ret
    exact ⟨rfl, Below.refl _ _⟩
  · have hbig : bigS l = false := by simpa using hbig
    by_cases hs : s.size ≤ 100
    · have hn3 : n ≤ 300 := by
        have hl := hin.len
        unfold bigS bigL at hbig
        rw [Bool.or_eq_false_iff, decide_eq_false_iff_not] at hbig
        omega
      have HN := KH.hid hnil
      have HSZ := KH.hid hsz
      clear hnil
      go_enter Try.func16, Try.ntmps16
      go_wp2_with fail
      refine (big_any _ hin hnm hsz).mono ?_; rintro e w1 ⟨rfl, rfl⟩
      rw [hbig]
      clear hsz hbig
      go_wp2_with fail
      refine (rown_any _ hin hn3 HN.out).mono ?_; rintro e w1 ⟨Ao, co, rfl, ho1, hb1⟩
      have hs1 := hb1.size
      have hio1 : ShIn w1 w1.heap.size Ao n l := KH.Reads.of_own ho1
      have hin1 : ShIn w1 w1.heap.size A n l := (KH.Reads.below hin hb1).more hs1
      clear ho1 hin
      go_wp2_with fail
      refine (combine_told _ hin1 hnm HSZ.out).mono ?_; rintro e w2 ⟨rfl, hb2⟩
      have hs2 := hb2.size
      have hio2 : ShIn w2 w2.heap.size Ao n l := (KH.Reads.below hio1 hb2).more hs2
      have hin2 : ShIn w2 w2.heap.size A n l := (KH.Reads.below hin1 hb2).more hs2
      have hB2 := hb1.trans (hb2.mono hs1)
      clear hio1 hin1 hb1 hb2
      go_wp2_with fail
      refine (rcombine_told _ hio2 hnm HSZ.out).mono ?_; rintro e w3 ⟨rfl, hb3⟩
      have hs3 := hb3.size
      have hio3 : ShIn w3 w3.heap.size Ao n l := (KH.Reads.below hio2 hb3).more hs3
      have hin3 : ShIn w3 w3.heap.size A n l := (KH.Reads.below hin2 hb3).more hs3
      have hB3 := hB2.trans (hb3.mono (by omega))
      clear hio2 hin2 hB2 hb3
      generalize combV l = cv at *
      generalize combE l = ce at *
      go_wp2_with fail
      refine (at_told _ hin3 hnm HSZ.out x).mono ?_; rintro e w4 ⟨rfl, hb4⟩
      have hs4 := hb4.size
      have hio4 : ShIn w4 w4.heap.size Ao n l := (KH.Reads.below hio3 hb4).more hs4
      have hin4 : ShIn w4 w4.heap.size A n l := (KH.Reads.below hin3 hb4).more hs4
      have hB4 := hB3.trans (hb4.mono (by omega))
      clear hio3 hin3 hB3 hb4
      go_wp2_with fail
      refine (rat_told _ hio4 hnm HSZ.out x).mono ?_; rintro e w5 ⟨rfl, hb5⟩
      have hs5 := hb5.size
      have hio5 : ShIn w5 w5.heap.size Ao n l := (KH.Reads.below hio4 hb5).more hs5
      have hin5 : ShIn w5 w5.heap.size A n l := (KH.Reads.below hin4 hb5).more hs5
      have hB5 := hB4.trans (hb5.mono (by omega))
      clear hio4 hin4 hB4 hb5
      generalize atV l x = av at *
      generalize atE l x = ae at *
      go_wp2_with fail
      refine (tape_told _ s hin5 hnm HSZ.out).mono ?_; rintro e w6 ⟨rfl, hb6⟩
      have hs6 := hb6.size
      have hio6 : ShIn w6 w6.heap.size Ao n l := (KH.Reads.below hio5 hb6).more hs6
      have hin6 : ShIn w6 w6.heap.size A n l := (KH.Reads.below hin5 hb6).more hs6
      have hB6 := hB5.trans (hb6.mono (by omega))
      clear hio5 hin5 hB5 hb6
      go_wp2_with fail
      refine (rctape_told _ s hio6 hnm HSZ.out).mono ?_; rintro e w7 ⟨rfl, hb7⟩
      have hs7 := hb7.size
      have hio7 : ShIn w7 w7.heap.size Ao n l := (KH.Reads.below hio6 hb7).more hs7
      have hin7 : ShIn w7 w7.heap.size A n l := (KH.Reads.below hin6 hb7).more hs7
      have hB7 := hB6.trans (hb7.mono (by omega))
      clear hio6 hin6 hB6 hb7
      generalize tapeV s l = tv at *
      generalize tapeE s l = te at *
      go_wp2_with fail
      refine (shares_any _).mono ?_; rintro e w8 ⟨rfl, hb8⟩
      have hs8 := hb8.size
      have hio8 : ShIn w8 w8.heap.size Ao n l := (KH.Reads.below hio7 hb8).more hs8
      have hin8 : ShIn w8 w8.heap.size A n l := (KH.Reads.below hin7 hb8).more hs8
      have hB8 := hB7.trans (hb8.mono (by omega))
      clear hio7 hin7 hB7 hb8
      go_wp2_with fail
      refine (same_any _ _ hin8 hio8 hnm hnm).mono ?_; rintro e w9 ⟨rfl, q, rfl⟩
      rw [decide_eq_true rfl]
      go_wp2
      go_ret
      exact ⟨rfl, below_drewN hB8 q⟩
    · go_enter Try.func16, Try.ntmps16
      go_wp2_with fail
      refine (big_any _ hin hnm hsz).mono ?_; rintro e w1 ⟨rfl, rfl⟩
      rw [hbig]
      go_wp2
      go_ret
      exact ⟨rfl, Below.refl _ _⟩

theorem own : ownKnob Try.prog.godebug = none := by kernel_rfl
theorem laidOut : laidOutB Try.prog = true := by kernel_rfl

/-! ### The step from the walk to the row -/
set_option maxRecDepth 100000 in
theorem lifted (os : Os) (started : os.Started) (H : Type) (enc : TypeId × Value → H) :
    ReturnsInHanded {} Try.checked os 16 .any (Rows.shareCombinesSpec.pre6 enc Try.prog Try.f16 Rows.shareCombinesRow.domain false) (Rows.shareCombinesSpec.post enc Try.prog Try.f16 false true false false) := by
  refine returnsInHanded_of_change (C := Try.checked) own started (by kernel_rfl) Try.func16
    (ChangeSpec.witness6 (enc := enc) (C := Try.checked) false ⟨#[], #[.slice none 0 0, .int .i64 0, .string ByteArray.empty], []⟩ 8 (by kernel_rfl) (by kernel_rfl) (by kernel_rfl) (by kernel_rfl)) ?_
  intro W base args ds gs before hval0 hW hcnd _
  have hval : ∀ (j : Nat) t v, Try.f16.params[j]? = some t → args[j]? = some v → Value.okWide Try.prog W .any base t v := hval0
  have hW' := hW
  obtain ⟨p, q, hA0, hV, rfl, hfz, hnd⟩ := hW
  have hA : DataW.TrodAll enc Try.prog W 0 (fun _ => true) true Try.f16.params.toList args.toList ds p := hA0
  rw [Try.params16] at hA hval
  obtain ⟨v0, vs0, d0, ds0, p0, q0, hargs, rfl, rfl, h0, r0⟩ := trodAll_cons hA
  obtain ⟨v1, vs1, d1, ds1, p1, q1, rfl, rfl, rfl, h1, r1⟩ := trodAll_cons r0
  obtain ⟨v2, vs2, d2, ds2, p2, q2, rfl, rfl, rfl, h2, r2⟩ := trodAll_cons r1
  obtain ⟨rfl, rfl, rfl⟩ := trodAll_nil r2
  obtain rfl : args = #[v0, v1, v2] := by cases args; simp_all
  obtain ⟨rfl, rfl⟩ := trodVars_none hV
  obtain ⟨a0, len0, cap0, rfl⟩ := okWide_slice Try.underlying43 (hval 0 43 v0 rfl rfl)
  have k0 := h0
  have lt0 : ∀ x ∈ p0, x.block < W.heap.size := by obtain ⟨m, hm⟩ := k0; exact DataW.trod_lt m _ _ _ hm
  obtain ⟨z0, w0⟩ := opened0 h0 lt0
  obtain ⟨a1, rfl, rfl, rfl, w1⟩ := open_int Try.underlying3 (hval 1 3 v1 rfl rfl) h1
  obtain ⟨a2, rfl, rfl, rfl, w2⟩ := open_string Try.underlying9 (hval 2 9 v2 rfl rfl) h2
  clear hA0 hval0
  refine (walk w0 a1 w1 a2 w2).mono fun e W' ⟨he, bel⟩ => ?_
  subst he
  exact ⟨_, rfl, _, _, _, [], _, [], hW', trodAll_mk1 (shut_bool Try.underlying4 _), (trodAll_cons_mk (Below.trod laidOut (by kernel_rfl) (of_decide_eq_true (by kernel_rfl)) k0 bel lt0) (trodAll_cons_mk (shut_int Try.underlying3 w1) (trodAll_cons_mk (shut_string Try.underlying9 w2) (trodAll_mk0)))), rfl, bel.frame _, fun h => by cases h⟩

theorem over : Rows.shareCombinesRow.holds Try.pinned (OpenSpec.ofChange Rows.shareCombinesSpec) :=
  OpenClaim.holds_of_wide 16 Try.f16 rfl rfl rfl rfl rfl rfl rfl ⟨rfl, rfl, rfl, rfl, rfl⟩ rfl rfl rfl rfl rfl (by kernel_rfl) Try.func16 (by kernel_rfl)
    (of_decide_eq_true (by kernel_rfl)) (by unfold Func.isWrapper; first | (rw [if_pos (by decide +kernel)]; kernel_rfl) | (rw [if_neg (by decide +kernel)]; exact ⟨rfl, rfl⟩))
    (fun os started H enc _ => lifted os started H enc)

theorem proved : Rows.ShareCombinesSaid := over

end Go.Proofs.Ytdeoibgedjbeiaa.shareCombines
