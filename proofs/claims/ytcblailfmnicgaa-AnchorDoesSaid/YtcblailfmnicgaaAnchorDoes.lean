/- For any rows and numbers AnchorDoes returns true and turns nothing that was there: anchors are set, known and told just as the document says, or refused. No condition. -/
import Derived.Test.YtcblailfmnicgaaAnchorF
import Derived.Test.YtcblailfmnicgaaAnchorQ
import Derived.Test.YtcblailfmnicgaaArgs
import Derived.WalkKit
import Derived.ProofKit
import Derived.OpenShut
import Derived.ShutString
import Derived.ChangeOld
import Derived.Below
namespace Go.Proofs.Ytcblailfmnicgaa.anchorDoes
open Go.ChangeShapes Go.WideShapes Go.ChangeAt Go.RowKit
open Go.ChangeMaps (open_string shut_string)
open KH (IntsIn ints_in BoolsIn bools_in StrsIn strs_in)
set_option linter.unusedVariables false

open KH
theorem set_len {l : List Int} (k : Nat) (x : Int) (n : Nat) (h : l.length = n) : (l.set k x).length = n := by simpa using h

/-- writing into a row of the call's own leaves what lies below it -/
theorem own_put {w w' : World} {base : Nat} {e : TypeId} {n c : Nat} {A : Option Addr} {xs : List Value} (h : w'.ownsRow base e 1 (.slice A n c) n xs) (hb : Below base w w') {k : Nat} (hk : k < n) (u : Value) :
    ∃ gb, A = some ⟨gb, 0, none⟩ ∧ (∃ v, w'.cell? ⟨gb, k, none⟩ = some v) ∧ w'.frozen? ⟨gb, k, none⟩ = false ∧ (∃ ys, (w'.setCell ⟨gb, k, none⟩ u).ownsRow base e 1 (.slice A n c) n ys) ∧ Below base w (w'.setCell ⟨gb, k, none⟩ u) := by
  obtain ⟨gb, cap, hv, hgb, _⟩ := h.form (by omega)
  injection hv with hA hn hc
  subst hA
  have hlen := h.1
  have hcell := h.cellAt k (by omega)
  rw [List.getElem?_eq_getElem (by omega)] at hcell
  exact ⟨gb, rfl, ⟨_, hcell⟩, h.frozenAt k, ⟨_, (h.stored k u).1⟩, hb.setCell hgb u⟩

set_option maxHeartbeats 4000000 in
set_option maxRecDepth 100000 in
theorem core {A : Option Addr} {n c : Nat} {l : List Int} {A4 A5 : Option Addr} {n4 c4 n5 c5 : Nat} {x y : List Bool} {w : World}
    (hr : KH.Reads w w.heap.size 1 A n (l.map (.int .i64))) (hl : l.length = n) (h60 : n ≤ 60)
    (hr4 : KH.Reads w w.heap.size 1 A4 n4 (x.map .bool)) (hr5 : KH.Reads w w.heap.size 1 A5 n5 (y.map .bool)) (h4 : n4 ≤ 60) (h5 : n5 ≤ 60) (i g a : Int) :
    Calls Try.prog 7 #[.slice A n c, .int .i64 i, .int .i64 g, .int .i64 a, .slice A4 n4 c4, .slice A5 n5 c5] w fun e w' => e = .returned (.bool true) ∧ Below w.heap.size w w' := by
  obtain ⟨i0, hi, hz0, hz1, hz2⟩ := info_parts int_info
  have hn : n ≤ maxLen := by unfold maxLen; omega
  have HL := KH.hid hl; clear hl
  go_enter Try.func7, Try.ntmps7
  go_wp2_with (at_builtin; refine KH.wpList_append_any _ rfl (.tmp 37) (.tmp 38) _ rfl w.heap.size 3 i0 _ 1 8 Try.underlying24 hi hz0 hz1 hz2 rfl (by omega) (.slice none 0 0) 0 [] rfl ⟨by simp, .inl ⟨rfl, rfl⟩⟩ w.heap.size _ n c _ rfl hr ?c1 ?c2 ?c3 (Nat.le_refl _) ?_)
  case c1 => intro u hu; simp at hu; obtain ⟨_, _, rfl⟩ := hu; rfl
  case c2 => unfold maxLen; omega
  case c3 => omega
  intro v1 w1 hown1 hg1 _
  have hb1 : Below w.heap.size w w1 := (Below.refl _ _).grown hg1 (Nat.le_refl _) (by simp [Value.ownBlock])
  clear hg1
  obtain ⟨B, cB, hv⟩ := KH.own_form hown1
  subst hv
  have hown0 : w1.ownsRow w.heap.size 3 1 (.slice B n cB) n (l.map (.int .i64)) := by simpa using hown1
  have ho1 := KH.Reads.of_own hown0
  have hr1 := (hr.below hb1).more hb1.size
  have hr14 := (hr4.below hb1).more hb1.size
  have hr15 := (hr5.below hb1).more hb1.size
  clear hown1 hown0 hr hr4 hr5
  go_wp2_with fail
  refine (set_told (set_cases hr1 hn) HL.out i g).mono ?_; rintro e w2 ⟨A2, n2, c2, rfl, hown2, hb2⟩
  have hs2 := hb2.size
  generalize hSC : sc (setB l n i g) l n i = code at *
  have HSC := KH.hid hSC; clear hSC
  generalize hSL : sl (setB l n i g) l i g = lst at *
  have HSL := KH.hid hSL; clear hSL
  have hr2 := (hr1.below hb2).more hs2
  have ho2 := (ho1.below hb2).more hs2
  have hr24 := (hr14.below hb2).more hs2
  have hr25 := (hr15.below hb2).more hs2
  go_wp2_with fail
  refine (set_told (rset_cases ho2 hn) HL.out i g).mono ?_; rintro e w3 ⟨A3, n3, c3, rfl, hown3, hb3⟩
  rw [HSC.out]
  rw [HSL.out] at hown3
  have hs3 := hb3.size
  have hr3 := (hr2.below hb3).more hs3
  have ho3 := (ho2.below hb3).more hs3
  have hr34 := (hr24.below hb3).more hs3
  have hr35 := (hr25.below hb3).more hs3
  have hown23 := own_below hown2 hb3
  clear hr14 hr15 hr24 hr25 hr2 ho2 hown2
  go_wp2_with fail
  refine (known_post _ hr3 hn a _ rfl).mono ?_; rintro e w4 ⟨rfl, hb4⟩
  generalize hKV : kv (okB l n a) l a = kn at *
  have HKV := KH.hid hKV; clear hKV
  generalize hKC : kc (okB l n a) = kcode at *
  have HKC := KH.hid hKC; clear hKC
  have hs4 := hb4.size
  have hr4 := (hr3.below hb4).more hs4
  have ho4 := (ho3.below hb4).more hs4
  have hr44 := (hr34.below hb4).more hs4
  have hr45 := (hr35.below hb4).more hs4
  have hownb4 := own_below hown23 hb4
  have hownc4 := own_below hown3 hb4
  clear hr34 hr35 hr3 ho3 hown3 hown23
  go_wp2_with fail
  refine (rknown_post _ ho4 hn a _ rfl).mono ?_; rintro e w5 ⟨rfl, hb5⟩
  rw [HKV.out, HKC.out]
  have hs5 := hb5.size
  have hr5 := (hr4.below hb5).more hs5
  have ho5 := (ho4.below hb5).more hs5
  have hr54 := (hr44.below hb5).more hs5
  have hr55 := (hr45.below hb5).more hs5
  have hownb5 := own_below hownb4 hb5
  have hownc5 := own_below hownc4 hb5
  have hb15 : Below w1.heap.size w1 w5 := ((hb2.trans (hb3.mono hs2)).trans (hb4.mono (by omega))).trans (hb5.mono (by omega))
  clear hr44 hr45 hr4 ho4 hownb4 hownc4 hb2 hb3 hb4 hb5 hs2 hs3 hs4 hs5
  go_wp2_with fail
  refine (ints_any _ _ (KH.Reads.of_own hownb5) (KH.Reads.of_own hownc5) (own_max hownb5) (own_max hownc5)).mono ?_
  rintro e w' ⟨rfl, q, rfl⟩
  rw [show decide (lst = lst) = true from by simp]
  go_wp2_with fail
  refine (newest_any _ (hr5.drewN q) hn).mono ?_; rintro e w' ⟨rfl, rfl⟩
  go_wp2_with fail
  refine (rNewest_any _ (ho5.drewN q) hn).mono ?_; rintro e w' ⟨rfl, rfl⟩
  have hr6 := (hr5.drewN q).more (B' := (w5.drewN q).heap.size) (Nat.le_refl _)
  have ho6 := (ho5.drewN q).more (B' := (w5.drewN q).heap.size) (Nat.le_refl _)
  have hr64 := (hr54.drewN q).more (B' := (w5.drewN q).heap.size) (Nat.le_refl _)
  have hr65 := (hr55.drewN q).more (B' := (w5.drewN q).heap.size) (Nat.le_refl _)
  have hownb6 : (w5.drewN q).ownsRow w1.heap.size 3 1 (.slice A2 n2 c2) n2 (lst.map (.int .i64)) := hownb5
  have hb16 := below_drewN hb15 q
  generalize hW6 : w5.drewN q = w6 at *
  clear hW6 hr54 hr55 hr5 ho5 hownb5 hownc5 hb15
  generalize gst l = newest at *
  go_wp2_with fail
  refine (overlap_any _ _ hr64 hr65 h4 h5).mono ?_; rintro e w7 ⟨A7, m7, c7, rfl, hown7, hb7⟩
  have hs7 := hb7.size
  have hr7 := (hr6.below hb7).more hs7
  have ho7 := (ho6.below hb7).more hs7
  have hr74 := (hr64.below hb7).more hs7
  have hr75 := (hr65.below hb7).more hs7
  have hownb7 := own_below hownb6 hb7
  clear hr64 hr65 hr6 ho6 hownb6
  go_wp2_with fail
  refine (rOverlap_any _ _ hr74 hr75 h4).mono ?_; rintro e w8 ⟨A8, m8, c8, rfl, hown8, hb8⟩
  have hs8 := hb8.size
  have hr8 := (hr7.below hb8).more hs8
  have ho8 := (ho7.below hb8).more hs8
  have hownb8 := own_below hownb7 hb8
  have hown78 := own_below hown7 hb8
  have hs6 := hb16.size
  have hb18 := (hb16.trans (hb7.mono hs6)).trans (hb8.mono (by omega))
  clear hr74 hr75 hr7 ho7 hownb7 hown7 hb7 hb8 hb16 hs6 hs7
  go_wp2_with fail
  refine (ints_any _ _ (KH.Reads.of_own hown78) (KH.Reads.of_own hown8) (own_max hown78) (own_max hown8)).mono ?_
  rintro e w' ⟨rfl, q, rfl⟩
  rw [show decide (ovl x y (min n4 n5) = ovl x y (min n4 n5)) = true from by simp]
  have hr9 := hr8.drewN q
  have ho9 := ho8.drewN q
  have hownb9 : (w8.drewN q).ownsRow w1.heap.size 3 1 (.slice A2 n2 c2) n2 (lst.map (.int .i64)) := hownb8
  have hb19 := below_drewN hb18 q
  generalize hW9 : w8.drewN q = w9 at *
  clear hW9 hr8 ho8 hownb8 hown78 hown8 hb18 hs8
  have hm2 : n2 ≤ 9223372036854775807 := by have := own_max hownb9; unfold maxLen at this; omega
  go_wp2_with fail
  go_loopw [23] (fun j wr => ∃ k ys, k ≤ n2 ∧ j = .int .i64 (k : Nat) ∧ wr.ownsRow w1.heap.size 3 1 (.slice A2 n2 c2) n2 ys ∧ Below w1.heap.size w1 wr) (fun j _ => n2 - (intOf j).toNat)
  case atStart => exact ⟨0, _, Nat.zero_le _, rfl, hownb9, hb19⟩
  case round =>
    obtain ⟨k, ys, hk, rfl, hown, hbr⟩ := hrel
    clear hownb9 hb19
    by_cases hlt : k < n2
    · obtain ⟨gb, rfl, ⟨v, hc⟩, hf, ⟨ys', hown'⟩, hbr'⟩ := own_put hown hbr hlt (.int .i64 (-7))
      clear hown hbr hr9 ho9
      go_wp2
      go_roundw
      case rel => exact ⟨k + 1, ys', by omega, by go_num, hown', hbr'⟩
      case measure => simp [intOf]; omega
    · obtain rfl : k = n2 := by omega
      have hrA := hr1.below hbr
      have hoA := ho1.below hbr
      have hsr := hbr.size
      clear hown hr9 ho9
      go_wp2_with fail
      refine (anchors_any _).mono ?_; rintro e w10 ⟨rfl, hb10⟩
      go_wp2_with fail
      refine (ints_any _ _ (hrA.below (hb10.mono hsr)) (hoA.below (hb10.mono hsr)) hn hn).mono ?_
      rintro e w' ⟨rfl, q', rfl⟩
      rw [show decide (l = l) = true from by simp]
      go_wp2
      go_ret
      exact ⟨rfl, below_drewN ((hb1.trans (hbr.mono hb1.size)).trans (hb10.mono (by have := hb1.size; omega))) _⟩

theorem walk {w : World} {A : Option Addr} {n c : Nat} {l : List Int} (w0 : IntsIn w A n c l) (i : Int) (w1 : (Lit.int .i64 i).wf = true) (g : Int) (w2 : (Lit.int .i64 g).wf = true) (a : Int) (w3 : (Lit.int .i64 a).wf = true)
    {A4 A5 : Option Addr} {n4 c4 n5 c5 : Nat} {x y : List Bool} (w4 : BoolsIn w A4 n4 c4 x) (w5 : BoolsIn w A5 n5 c5 y) :
    Calls Try.prog 7 #[.slice A n c, .int .i64 i, .int .i64 g, .int .i64 a, .slice A4 n4 c4, .slice A5 n5 c5] w fun e w' => e = .returned (.bool true) ∧ Below w.heap.size w w' := by
  obtain ⟨hl, hnc, hcm, hbd, hr⟩ := w0
  obtain ⟨hl4, hnc4, hcm4, hr4⟩ := w4
  obtain ⟨hl5, hnc5, hcm5, hr5⟩ := w5
  unfold maxLen at hcm hcm4 hcm5
  have hm : n ≤ 9223372036854775807 := by omega
  have hm4 : n4 ≤ 9223372036854775807 := by omega
  have hm5 : n5 ≤ 9223372036854775807 := by omega
  by_cases h60 : n ≤ 60
  · by_cases h4 : n4 ≤ 60
    · by_cases h5 : n5 ≤ 60
      · exact core hr hl h60 hr4 hr5 h4 h5 i g a
      · clear w1 w2 w3 hl hl4 hl5 hbd
        go_enter Try.func7, Try.ntmps7
        go_wp2
        go_ret
        exact ⟨rfl, Below.refl _ _⟩
    · clear w1 w2 w3 hl hl4 hl5 hbd
      go_enter Try.func7, Try.ntmps7
      go_wp2
      go_ret
      exact ⟨rfl, Below.refl _ _⟩
  · clear w1 w2 w3 hl hl4 hl5 hbd
    go_enter Try.func7, Try.ntmps7
    go_wp2
    go_ret
    exact ⟨rfl, Below.refl _ _⟩

theorem own : ownKnob Try.prog.godebug = none := by kernel_rfl
theorem laidOut : laidOutB Try.prog = true := by kernel_rfl

/-! ### The step from the walk to the row -/
set_option maxRecDepth 100000 in
theorem lifted (os : Os) (started : os.Started) (H : Type) (enc : TypeId × Value → H) :
    ReturnsInHanded {} Try.checked os 7 .any (Rows.anchorDoesSpec.pre6 enc Try.prog Try.f7 Rows.anchorDoesRow.domain false) (Rows.anchorDoesSpec.post enc Try.prog Try.f7 false true false false) := by
  refine returnsInHanded_of_change (C := Try.checked) own started (by kernel_rfl) Try.func7
    (ChangeSpec.witness6 (enc := enc) (C := Try.checked) false ⟨#[], #[.slice none 0 0, .int .i64 0, .int .i64 0, .int .i64 0, .slice none 0 0, .slice none 0 0], []⟩ 8 (by kernel_rfl) (by kernel_rfl) (by kernel_rfl) (by kernel_rfl)) ?_
  intro W base args ds gs before hval0 hW hcnd _
  have hval : ∀ (j : Nat) t v, Try.f7.params[j]? = some t → args[j]? = some v → Value.okWide Try.prog W .any base t v := hval0
  have hW' := hW
  obtain ⟨p, q, hA0, hV, rfl, hfz, hnd⟩ := hW
  have hA : DataW.TrodAll enc Try.prog W 0 (fun _ => true) true Try.f7.params.toList args.toList ds p := hA0
  rw [Try.params7] at hA hval
  obtain ⟨v0, vs0, d0, ds0, p0, q0, hargs, rfl, rfl, h0, r0⟩ := trodAll_cons hA
  obtain ⟨v1, vs1, d1, ds1, p1, q1, rfl, rfl, rfl, h1, r1⟩ := trodAll_cons r0
  obtain ⟨v2, vs2, d2, ds2, p2, q2, rfl, rfl, rfl, h2, r2⟩ := trodAll_cons r1
  obtain ⟨v3, vs3, d3, ds3, p3, q3, rfl, rfl, rfl, h3, r3⟩ := trodAll_cons r2
  obtain ⟨v4, vs4, d4, ds4, p4, q4, rfl, rfl, rfl, h4, r4⟩ := trodAll_cons r3
  obtain ⟨v5, vs5, d5, ds5, p5, q5, rfl, rfl, rfl, h5, r5⟩ := trodAll_cons r4
  obtain ⟨rfl, rfl, rfl⟩ := trodAll_nil r5
  obtain rfl : args = #[v0, v1, v2, v3, v4, v5] := by cases args; simp_all
  obtain ⟨rfl, rfl⟩ := trodVars_none hV
  obtain ⟨a0, len0, cap0, rfl⟩ := okWide_slice Try.underlying24 (hval 0 24 v0 rfl rfl)
  have k0 := h0
  have lt0 : ∀ x ∈ p0, x.block < W.heap.size := by obtain ⟨m, hm⟩ := k0; exact DataW.trod_lt m _ _ _ hm
  obtain ⟨z0, w0⟩ : ∃ zs, IntsIn W a0 len0 cap0 zs := ints_in Try.underlying24 Try.underlying3 (by kernel_rfl) h0
  obtain ⟨a1, rfl, rfl, rfl, w1⟩ := open_int Try.underlying3 (hval 1 3 v1 rfl rfl) h1
  obtain ⟨a2, rfl, rfl, rfl, w2⟩ := open_int Try.underlying3 (hval 2 3 v2 rfl rfl) h2
  obtain ⟨a3, rfl, rfl, rfl, w3⟩ := open_int Try.underlying3 (hval 3 3 v3 rfl rfl) h3
  obtain ⟨a4, len4, cap4, rfl⟩ := okWide_slice Try.underlying31 (hval 4 31 v4 rfl rfl)
  have k4 := h4
  have lt4 : ∀ x ∈ p4, x.block < W.heap.size := by obtain ⟨m, hm⟩ := k4; exact DataW.trod_lt m _ _ _ hm
  obtain ⟨z4, w4⟩ : ∃ zs, BoolsIn W a4 len4 cap4 zs := bools_in Try.underlying31 Try.underlying4 (by kernel_rfl) h4
  obtain ⟨a5, len5, cap5, rfl⟩ := okWide_slice Try.underlying31 (hval 5 31 v5 rfl rfl)
  have k5 := h5
  have lt5 : ∀ x ∈ p5, x.block < W.heap.size := by obtain ⟨m, hm⟩ := k5; exact DataW.trod_lt m _ _ _ hm
  obtain ⟨z5, w5⟩ : ∃ zs, BoolsIn W a5 len5 cap5 zs := bools_in Try.underlying31 Try.underlying4 (by kernel_rfl) h5
  clear hA0 hval0
  refine (walk w0 a1 w1 a2 w2 a3 w3 w4 w5).mono fun e W' ⟨he, bel⟩ => ?_
  subst he
  exact ⟨_, rfl, _, _, _, [], _, [], hW', trodAll_mk1 (shut_bool Try.underlying4 _), (trodAll_cons_mk (Below.trod laidOut (by kernel_rfl) (of_decide_eq_true (by kernel_rfl)) k0 bel lt0) (trodAll_cons_mk (shut_int Try.underlying3 w1) (trodAll_cons_mk (shut_int Try.underlying3 w2) (trodAll_cons_mk (shut_int Try.underlying3 w3) (trodAll_cons_mk (Below.trod laidOut (by kernel_rfl) (of_decide_eq_true (by kernel_rfl)) k4 bel lt4) (trodAll_cons_mk (Below.trod laidOut (by kernel_rfl) (of_decide_eq_true (by kernel_rfl)) k5 bel lt5) (trodAll_mk0))))))), rfl, bel.frame _, fun h => by cases h⟩

theorem over : Rows.anchorDoesRow.holds Try.pinned (OpenSpec.ofChange Rows.anchorDoesSpec) :=
  OpenClaim.holds_of_wide 7 Try.f7 rfl rfl rfl rfl rfl rfl rfl ⟨rfl, rfl, rfl, rfl, rfl⟩ rfl rfl rfl rfl rfl (by kernel_rfl) Try.func7 (by kernel_rfl)
    (of_decide_eq_true (by kernel_rfl)) (by unfold Func.isWrapper; first | (rw [if_pos (by decide +kernel)]; kernel_rfl) | (rw [if_neg (by decide +kernel)]; exact ⟨rfl, rfl⟩))
    (fun os started H enc _ => lifted os started H enc)

theorem proved : Rows.AnchorDoesSaid := over

end Go.Proofs.Ytcblailfmnicgaa.anchorDoes
