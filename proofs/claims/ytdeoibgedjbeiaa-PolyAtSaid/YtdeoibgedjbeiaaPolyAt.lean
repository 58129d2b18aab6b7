/- For any rows and numbers PolyAt returns true and turns nothing that was there: at one of the places it is that one's value; the weights' sum is 1. No condition. -/
import Derived.Test.YtdeoibgedjbeiaaPolyF
import Derived.Test.YtdeoibgedjbeiaaArgs
import Derived.WalkKit
import Derived.ProofKit
import Derived.OpenShut
import Derived.ShutString
import Derived.ChangeOld
import Derived.Below
namespace Go.Proofs.Ytdeoibgedjbeiaa.polyAt
open Go.ChangeShapes Go.WideShapes Go.ChangeAt Go.RowKit
open Go.ChangeMaps (open_string shut_string)
open KH (IntsIn ints_in BoolsIn bools_in StrsIn strs_in)
set_option linter.unusedVariables false

/-- what holds once the first test is let by, however Through answers -/
theorem wsum {xs : List Int} {x : Int} (h : weightsK xs x = true) : wsI xs x.toNat xs.length = 1 := by
  obtain ⟨h1, _, hn, ha, h5, h6⟩ := weightsK_len h
  have := KH.ws_one (dg_nats ha) (nats_nodup ha hn) (by rw [nats_length]; exact h1) (x := x.toNat) (by omega)
  rw [nats_length] at this
  unfold wsI; rw [this]; rfl
theorem wts_get {xs : List Int} {x k : Nat} (hk : k < xs.length) : (wts xs x xs.length xs.length)[k]? = some ((KH.wt (nats xs) k x xs.length : Nat) : Int) := by
  unfold wts; rw [List.getElem?_map, List.getElem?_range hk]; show some (if k < xs.length then _ else _) = _; rw [if_pos hk]
theorem wsI_step (xs : List Int) (x k : Nat) : addV (wsI xs x k) ((KH.wt (nats xs) k x xs.length : Nat) : Int) = wsI xs x (k + 1) ∧ addK (wsI xs x k) ((KH.wt (nats xs) k x xs.length : Nat) : Int) = true := by
  have h1 := ws_lt (nats xs) x k
  have h2 := KH.wt_lt (nats xs) k x xs.length
  have hk : addK (wsI xs x k) ((KH.wt (nats xs) k x xs.length : Nat) : Int) = true := addK_iff.2 ⟨by unfold wsI; omega, by omega⟩
  refine ⟨?_, hk⟩
  unfold addV
  rw [hk]
  unfold wsI
  show ((_ : Nat) : Int) = ((KH.ws (nats xs) x k ^^^ KH.wt (nats xs) k x (nats xs).length : Nat) : Int)
  rw [Int.toNat_natCast, Int.toNat_natCast, nats_length]

set_option maxHeartbeats 1000000 in
set_option maxRecDepth 100000 in
theorem walk {w : World} {A A' : Option Addr} {n n' c c' : Nat} {xs ys : List Int} (w0 : IntsIn w A n c xs) (w1 : IntsIn w A' n' c' ys) (at_ : Int) (w2 : (Lit.int .i64 at_).wf = true) (x : Int) (w3 : (Lit.int .i64 x).wf = true) :
    Calls Try.prog 9 #[.slice A n c, .slice A' n' c', .int .i64 at_, .int .i64 x] w fun e w' => e = .returned (.bool true) ∧ Below w.heap.size w w' := by
  obtain ⟨hl, hnc, hcm, _, hr⟩ := w0
  obtain ⟨hl', hnc', hcm', _, hr'⟩ := w1
  have hn : n ≤ maxLen := by omega
  have hn' : n' ≤ maxLen := by omega
  have hn9 : n ≤ 9223372036854775807 := by unfold maxLen at hn; omega
  have hn9' : n' ≤ 9223372036854775807 := by unfold maxLen at hcm'; omega
  clear w2 w3 hnc hnc' hcm hcm'
  have hcase : 20 < n ∨ (n ≤ 20 ∧ at_ < 0) ∨ (n ≤ 20 ∧ 0 ≤ at_ ∧ n ≤ at_) ∨ (n ≤ 20 ∧ 0 ≤ at_ ∧ at_ < n) := by omega
  rcases hcase with h | ⟨h1, h2⟩ | ⟨h1, h2, h3⟩ | ⟨h1, h2, h3⟩
  · clear hl hl'
    go_enter Try.func9, Try.ntmps9
    go_wp2_with fail
    refine (polys_any _).mono ?_; rintro e w2 ⟨rfl, hb2⟩
    go_wp2
    go_ret
    exact ⟨rfl, hb2⟩
  · clear hl hl'
    go_enter Try.func9, Try.ntmps9
    go_wp2_with fail
    refine (polys_any _).mono ?_; rintro e w2 ⟨rfl, hb2⟩
    go_wp2
    go_ret
    exact ⟨rfl, hb2⟩
  · clear hl hl'
    go_enter Try.func9, Try.ntmps9
    go_wp2_with fail
    refine (polys_any _).mono ?_; rintro e w2 ⟨rfl, hb2⟩
    go_wp2
    go_ret
    exact ⟨rfl, hb2⟩
  · obtain ⟨j, rfl⟩ := Int.eq_ofNat_of_zero_le h2
    have hj : j < n := by omega
    obtain ⟨ad, z, rfl, hab, hz, hc⟩ := hr.int hj
    have HZ := KH.hid hz
    have HT : Hid (throughK xs ys z = true → j < n' ∧ throughV xs ys z = ys.getD j 0) := fun h => ⟨by have := (throughK_iff.1 h).2.1; omega, at_law hz h⟩
    have HL := KH.hid (And.intro hl hl')
    clear hz hl hl'
    have HW : Hid (weightsV xs x = if weightsK xs x then wts xs x.toNat n n else []) := by unfold Hid weightsV; rw [HL.out.1]
    have HS : Hid (weightsK xs x = true → wsI xs x.toNat n = 1) := fun h => by have := wsum h; rw [HL.out.1] at this; exact this
    go_enter Try.func9, Try.ntmps9
    go_wp2_with fail
    refine (through_told _ _ hr hn hr' hn' z).mono ?_; rintro e w1 ⟨rfl, hb1⟩
    have hs1 := hb1.size
    have hr1 := (hr.below hb1).more hs1
    have hrz1 := hr.below hb1
    have hr1' := hr'.below hb1
    have hc1 := (hb1.cell (p := ad.add j) (by rw [KH.block_of_add]; exact hab)).trans hc
    go_wp2_with fail
    refine (weights_told _ hr1 hn x).mono ?_; rintro e w2 ⟨A2, n2, c2, rfl, ho2, hb2, hn2⟩
    rw [HW.out] at ho2 hn2
    have hb12 := hb1.trans (hb2.mono hs1)
    have hs2 := hb12.size
    have hr2' := hr1'.below (hb2.mono hs1)
    have hc2 := (hb2.cell (p := ad.add j) (by rw [KH.block_of_add]; omega)).trans hc1
    have hrw := (KH.Reads.of_own ho2)
    clear ho2 hr1 hrz1 hr1' hc1 hc hr hr' hb1 hb2
    have hn20 : n2 ≤ 20 := by
      rw [← hn2]; split
      · rw [wts_length]; omega
      · exact Nat.zero_le _
    go_wp2_with fail
    go_loopw [13, 14] (fun s i wr => ∃ k : Nat, k ≤ n2 ∧ i = .int .i64 k ∧ s = .int .i64 (wsI xs x.toNat k) ∧ ∃ q, wr = w2.drewN q) (fun _ i _ => n2 - (intOf i).toNat)
    case atStart => exact ⟨0, by omega, rfl, rfl, 0, rfl⟩
    case round =>
      obtain ⟨k, hk, rfl, rfl, q, rfl⟩ := hrel
      by_cases hlt : k < n2
      · obtain ⟨ad2, v, rfl, _, hv, hcv⟩ := (hrw.drewN q).int hlt
        have hv2 : v = ((KH.wt (nats xs) k x.toNat n : Nat) : Int) ∧ weightsK xs x = true := by
          cases hwk : weightsK xs x
          · rw [hwk] at hn2; simp at hn2; omega
          · rw [hwk] at hv hn2
            simp only [if_true] at hv hn2
            rw [wts_length] at hn2
            have := wts_get (xs := xs) (x := x.toNat) (k := k) (by rw [HL.out.1]; omega)
            rw [HL.out.1] at this
            rw [this] at hv
            injection hv with hv
            exact ⟨hv.symm, rfl⟩
        obtain ⟨hv2, hwk⟩ := hv2
        have hst := wsI_step xs x.toNat k
        rw [HL.out.1, ← hv2] at hst
        have HST := KH.hid hst
        have hk1 : (0 : Int) ≤ (k : Int) := by omega
        have hk2 : (k : Int) < (n2 : Int) := by omega
        clear hst hv2 hv hwk
        generalize hA : wsI xs x.toNat k = s at *
        have HA := KH.hid hA
        clear hA
        go_wp2_with fail
        refine (fadd_told _ _ _).mono ?_; rintro e w' ⟨rfl, rfl⟩
        rw [HST.out.1, HST.out.2]
        go_wp2
        go_roundw
        case rel => exact ⟨k + 1, by omega, by go_num, rfl, q, rfl⟩
        case measure => simp [intOf]; omega
      · obtain rfl : k = n2 := by omega
        clear hlt hk
        have hwn : Hid (weightsK xs x = true → wsI xs x.toNat k = 1 ∧ k = n) := by
          intro hwk
          have h1 := hn2
          rw [hwk] at h1
          simp only [if_true] at h1
          rw [wts_length] at h1
          subst h1
          exact ⟨HS.out hwk, rfl⟩
        clear hrw hn2
        have hcq : (w2.drewN q).cell? (ad.add j) = some (.int .i64 z) := hc2
        clear hc2
        have hbq := below_drewN hb12 q
        have hsq : w.heap.size ≤ (w2.drewN q).heap.size := hs2
        have hrq := hr2'.drewN q
        generalize w2.drewN q = wq at *
        cases htk : throughK xs ys z
        · cases hwk : weightsK xs x
          · go_wp2_with fail
            refine (polys_any _).mono ?_; rintro e w4 ⟨rfl, hb4⟩
            go_wp2
            go_ret
            exact ⟨rfl, hbq.trans (hb4.mono (by omega))⟩
          · obtain ⟨e1, rfl⟩ := hwn.out hwk
            rw [e1]
            go_wp2_with fail
            refine (polys_any _).mono ?_; rintro e w4 ⟨rfl, hb4⟩
            go_wp2
            go_ret
            exact ⟨rfl, hbq.trans (hb4.mono (by omega))⟩
        · obtain ⟨hjn, hV⟩ := HT.out htk
          obtain ⟨ad', y, rfl, _, hy, hcy⟩ := hrq.int hjn
          have hY : ys.getD j 0 = y := by rw [List.getD, hy]; rfl
          rw [hY] at hV
          rw [hV]
          clear hY hy hV
          have hyy : (y != y) = false := by simp
          cases hwk : weightsK xs x
          · go_wp2_with fail
            refine (polys_any _).mono ?_; rintro e w4 ⟨rfl, hb4⟩
            go_wp2
            go_ret
            exact ⟨rfl, hbq.trans (hb4.mono (by omega))⟩
          · obtain ⟨e1, rfl⟩ := hwn.out hwk
            rw [e1]
            go_wp2_with fail
            refine (polys_any _).mono ?_; rintro e w4 ⟨rfl, hb4⟩
            go_wp2
            go_ret
            exact ⟨rfl, hbq.trans (hb4.mono (by omega))⟩

theorem own : ownKnob Try.prog.godebug = none := by kernel_rfl
theorem laidOut : laidOutB Try.prog = true := by kernel_rfl

/-! ### The step from the walk to the row -/
set_option maxRecDepth 100000 in
theorem lifted (os : Os) (started : os.Started) (H : Type) (enc : TypeId × Value → H) :
    ReturnsInHanded {} Try.checked os 9 .any (Rows.polyAtSpec.pre6 enc Try.prog Try.f9 Rows.polyAtRow.domain false) (Rows.polyAtSpec.post enc Try.prog Try.f9 false true false false) := by
  refine returnsInHanded_of_change (C := Try.checked) own started (by kernel_rfl) Try.func9
    (ChangeSpec.witness6 (enc := enc) (C := Try.checked) false ⟨#[], #[.slice none 0 0, .slice none 0 0, .int .i64 0, .int .i64 0], []⟩ 8 (by kernel_rfl) (by kernel_rfl) (by kernel_rfl) (by kernel_rfl)) ?_
  intro W base args ds gs before hval0 hW hcnd _
  have hval : ∀ (j : Nat) t v, Try.f9.params[j]? = some t → args[j]? = some v → Value.okWide Try.prog W .any base t v := hval0
  have hW' := hW
  obtain ⟨p, q, hA0, hV, rfl, hfz, hnd⟩ := hW
  have hA : DataW.TrodAll enc Try.prog W 0 (fun _ => true) true Try.f9.params.toList args.toList ds p := hA0
  rw [Try.params9] at hA hval
  obtain ⟨v0, vs0, d0, ds0, p0, q0, hargs, rfl, rfl, h0, r0⟩ := trodAll_cons hA
  obtain ⟨v1, vs1, d1, ds1, p1, q1, rfl, rfl, rfl, h1, r1⟩ := trodAll_cons r0
  obtain ⟨v2, vs2, d2, ds2, p2, q2, rfl, rfl, rfl, h2, r2⟩ := trodAll_cons r1
  obtain ⟨v3, vs3, d3, ds3, p3, q3, rfl, rfl, rfl, h3, r3⟩ := trodAll_cons r2
  obtain ⟨rfl, rfl, rfl⟩ := trodAll_nil r3
  obtain rfl : args = #[v0, v1, v2, v3] := by cases args; simp_all
  obtain ⟨rfl, rfl⟩ := trodVars_none hV
  obtain ⟨a0, len0, cap0, rfl⟩ := okWide_slice Try.underlying34 (hval 0 34 v0 rfl rfl)
  have k0 := h0
  have lt0 : ∀ x ∈ p0, x.block < W.heap.size := by obtain ⟨m, hm⟩ := k0; exact DataW.trod_lt m _ _ _ hm
  obtain ⟨z0, w0⟩ : ∃ zs, IntsIn W a0 len0 cap0 zs := ints_in Try.underlying34 Try.underlying3 (by kernel_rfl) h0
  obtain ⟨a1, len1, cap1, rfl⟩ := okWide_slice Try.underlying34 (hval 1 34 v1 rfl rfl)
  have k1 := h1
  have lt1 : ∀ x ∈ p1, x.block < W.heap.size := by obtain ⟨m, hm⟩ := k1; exact DataW.trod_lt m _ _ _ hm
  obtain ⟨z1, w1⟩ : ∃ zs, IntsIn W a1 len1 cap1 zs := ints_in Try.underlying34 Try.underlying3 (by kernel_rfl) h1
  obtain ⟨a2, rfl, rfl, rfl, w2⟩ := open_int Try.underlying3 (hval 2 3 v2 rfl rfl) h2
  obtain ⟨a3, rfl, rfl, rfl, w3⟩ := open_int Try.underlying3 (hval 3 3 v3 rfl rfl) h3
  clear hA0 hval0
  refine (walk w0 w1 a2 w2 a3 w3).mono fun e W' ⟨he, bel⟩ => ?_
  subst he
  exact ⟨_, rfl, _, _, _, [], _, [], hW', trodAll_mk1 (shut_bool Try.underlying4 _), (trodAll_cons_mk (Below.trod laidOut (by kernel_rfl) (of_decide_eq_true (by kernel_rfl)) k0 bel lt0) (trodAll_cons_mk (Below.trod laidOut (by kernel_rfl) (of_decide_eq_true (by kernel_rfl)) k1 bel lt1) (trodAll_cons_mk (shut_int Try.underlying3 w2) (trodAll_cons_mk (shut_int Try.underlying3 w3) (trodAll_mk0))))), rfl, bel.frame _, fun h => by cases h⟩

theorem over : Rows.polyAtRow.holds Try.pinned (OpenSpec.ofChange Rows.polyAtSpec) :=
  OpenClaim.holds_of_wide 9 Try.f9 rfl rfl rfl rfl rfl rfl rfl ⟨rfl, rfl, rfl, rfl, rfl⟩ rfl rfl rfl rfl rfl (by kernel_rfl) Try.func9 (by kernel_rfl)
    (of_decide_eq_true (by kernel_rfl)) (by unfold Func.isWrapper; first | (rw [if_pos (by decide +kernel)]; kernel_rfl) | (rw [if_neg (by decide +kernel)]; exact ⟨rfl, rfl⟩))
    (fun os started H enc _ => lifted os started H enc)

theorem proved : Rows.PolyAtSaid := over

end Go.Proofs.Ytdeoibgedjbeiaa.polyAt
