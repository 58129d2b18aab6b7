/- For any rows and number PolyThrough returns true and turns nothing that was there: through the values of a polynomial with at most as many digits as there are places goes that polynomial. No condition. -/
import Derived.Test.YtdeoibgedjbeiaaPolyG
import Derived.Test.YtdeoibgedjbeiaaArgs
import Derived.WalkKit
import Derived.ProofKit
import Derived.OpenShut
import Derived.ShutString
import Derived.ChangeOld
import Derived.Below
namespace Go.Proofs.Ytdeoibgedjbeiaa.polyThrough
open Go.ChangeShapes Go.WideShapes Go.ChangeAt Go.RowKit
open Go.ChangeMaps (open_string shut_string)
open KH (IntsIn ints_in BoolsIn bools_in StrsIn strs_in)
set_option linter.unusedVariables false

/-- the values so far -/
def vals (l xs : List Int) : List Int := xs.map (evalV l)
theorem vals_step {l xs : List Int} {k : Nat} {z : Int} (hz : xs[k]? = some z) : (vals l xs).take (k + 1) = (vals l xs).take k ++ [evalV l z] := by
  rw [List.take_add_one]
  congr 1
  unfold vals
  rw [List.getElem?_map, hz]; rfl

set_option maxHeartbeats 1000000 in
set_option maxRecDepth 100000 in
theorem walk {w : World} {A A' : Option Addr} {n n' c c' : Nat} {l xs : List Int} (w0 : IntsIn w A n c l) (w1 : IntsIn w A' n' c' xs) (x : Int) (w2 : (Lit.int .i64 x).wf = true) :
    Calls Try.prog 8 #[.slice A n c, .slice A' n' c', .int .i64 x] w fun e w' => e = .returned (.bool true) ∧ Below w.heap.size w w' := by
  obtain ⟨hl, hnc, hcm, _, hr⟩ := w0
  obtain ⟨hl', hnc', hcm', _, hr'⟩ := w1
  obtain ⟨i0, hi, hz0, hz1, hz2⟩ := info_parts int_info
  have hn : n ≤ maxLen := by omega
  have hn' : n' ≤ maxLen := by omega
  have hn9 : n ≤ 9223372036854775807 := by unfold maxLen at hn; omega
  have hn9' : n' ≤ 9223372036854775807 := by unfold maxLen at hcm'; omega
  clear w2 hnc hnc' hcm hcm'
  by_cases hnn : n ≤ n'
  · by_cases h20 : n' ≤ 20
    · have HL := KH.hid (And.intro hl hl'); clear hl hl'
      have hd0 : decide (n' < n) = false := by simp; omega
      go_enter Try.func8, Try.ntmps8
      go_wp2_with fail
      go_loopw [7, 8] (fun v i wr => ∃ k : Nat, k ≤ n' ∧ i = .int .i64 k ∧ Hid (∀ (j : Nat) (z : Int), j < k → xs[j]? = some z → evalK l z = true) ∧ wr.ownsRow w.heap.size 3 1 v k (((vals l xs).take k).map (.int .i64)) ∧ Below w.heap.size w wr) (fun _ i _ => n' - (intOf i).toNat)
      case atStart => exact ⟨0, Nat.zero_le _, rfl, fun j z h => by omega, World.ownsRow_nil _ _ _ _, Below.refl _ _⟩
      case round =>
        obtain ⟨k, hk, rfl, HA, hown, hb⟩ := hrel
        have hsz := hb.size
        have hrb := (hr.below hb).more hsz
        by_cases hlt : k < n'
        · obtain ⟨ad', z, rfl, _, hz, hc'⟩ := (hr'.below hb).int hlt
          have HS := KH.hid (vals_step (l := l) hz)
          have HY := KH.hid hz
          clear hz
          cases hak : evalK l z
          · clear HS
            go_wp2_with fail
            refine (eval_told _ hrb hn z).mono ?_; rintro e w2 ⟨rfl, hb2⟩
            rw [hak]
            clear hak
            have hs2 := hb2.size
            go_wp2_with fail
            refine (polys_any _).mono ?_; rintro e w3 ⟨rfl, hb3⟩
            go_wp2
            go_ret
            exact ⟨rfl, (hb.trans (hb2.mono hsz)).trans (hb3.mono (by omega))⟩
          · have HA2 : Hid (∀ (j : Nat) (z : Int), j < k + 1 → xs[j]? = some z → evalK l z = true) := by
              intro j z' hj hz'
              by_cases e : j = k
              · subst e; have := HY.out; rw [hz'] at this; injection this with this; subst this; exact hak
              · exact HA.out j z' (by omega) hz'
            go_wp2_with fail
            refine (eval_told _ hrb hn z).mono ?_; rintro e w2 ⟨rfl, hb2⟩
            rw [hak]
            clear hak
            have hown2 := KH.own_below hown hb2
            have hb3 := hb.trans (hb2.mono hsz)
            have hsz3 := hb3.size
            generalize evalV l z = u at *
            clear hown hb hb2
            go_wp2_with (at_builtin; refine KH.wpList_append_one rfl (.tmp 44) (.tmp 46) 34 rfl w.heap.size 3 i0 _ 8 Try.underlying34 hi hz0 hz1 hz2 rfl _ k _ rfl (hown2.alloc _) w2.heap.size 1 (.int .i64 u) rfl ?c1 rfl ?c3 ?c4 ?c5 ?_)
            first | (case c1 => simp) | skip
            case c3 => unfold maxLen; omega
            case c4 => omega
            case c5 => first | omega | (simp; omega)
            intro v1 w1' hown1 hb1
            have hb4 := (hb3.alloc hsz3 (.cells #[.int .i64 u] 3)).trans hb1
            clear hown2 hb3
            go_wp2
            go_roundw
            case rel => exact ⟨k + 1, by omega, by go_num, HA2, by rw [HS.out]; simpa [List.map_take] using hown1, hb4⟩
            case measure => simp [intOf]; omega
        · obtain rfl : k = n' := by omega
          have hvl : (vals l xs).length = k := by unfold vals; rw [List.length_map]; exact HL.out.2
          rw [List.take_of_length_le (by omega)] at hown
          obtain ⟨k1, k2⟩ := through_law (l := l) (xs := xs) (ys := vals l xs) (by have := HL.out; omega) (by have := HL.out; omega) (fun j z hz => ⟨HA.out j z (by
            rcases Nat.lt_or_ge j k with h | h
            · exact h
            · rw [List.getElem?_eq_none (by have := HL.out; omega)] at hz; cases hz) hz, by unfold vals; rw [List.getElem?_map, hz]; rfl⟩) x
          have hcs : (placesB xs = true ∧ evalK l x = true ∧ throughK xs (vals l xs) x = true ∧ evalV l x = throughV xs (vals l xs) x) ∨ (placesB xs = true ∧ evalK l x = false ∧ throughK xs (vals l xs) x = false) ∨ (placesB xs = false ∧ throughK xs (vals l xs) x = false) := by
            cases hp : placesB xs
            · exact Or.inr (Or.inr ⟨rfl, k2 (Or.inl hp)⟩)
            · cases he : evalK l x
              · exact Or.inr (Or.inl ⟨rfl, rfl, k2 (Or.inr he)⟩)
              · obtain ⟨a, b⟩ := k1 hp he
                exact Or.inl ⟨rfl, rfl, a, b⟩
          clear k1 k2 HA
          obtain ⟨As, cs, rfl⟩ := KH.own_form hown
          have hry := KH.Reads.of_own hown
          have hrx := (hr'.below hb).more hsz
          clear hown hr hr'
          rcases hcs with ⟨e1, e2, e3, e4⟩ | ⟨e1, e2, e3⟩ | ⟨e1, e3⟩
          · have K := KH.hid (And.intro e1 (And.intro e2 (And.intro e3 e4)))
            clear e1 e2 e3 e4
            go_wp2_with fail
            refine (eval_told _ hrb hn x).mono ?_; rintro e w1 ⟨rfl, hb1⟩
            rw [K.out.2.1, K.out.2.2.2]
            have hs1 := hb1.size
            have hrx1 := (hrx.below hb1).more hs1
            have hry1 := (hry.below hb1).more hs1
            go_wp2_with fail
            refine (through_told _ _ hrx1 hn' hry1 hn' x).mono ?_; rintro e w2 ⟨rfl, hb2⟩
            rw [K.out.2.2.1]
            have hs2 := hb2.size
            have hrx2 := hrx1.below hb2
            go_wp2_with fail
            refine (rPlaces_any _ hrx2 hn').mono ?_; rintro e w' ⟨rfl, q, rfl⟩
            rw [K.out.1]
            go_wp2_with fail
            refine (polys_any _).mono ?_; rintro e w4 ⟨rfl, hb4⟩
            go_wp2
            go_ret
            exact ⟨rfl, (below_drewN ((hb.trans (hb1.mono (by omega))).trans (hb2.mono (by omega))) q).trans (hb4.mono (by simp; omega))⟩
          · have K := KH.hid (And.intro e1 (And.intro e2 e3))
            clear e1 e2 e3
            go_wp2_with fail
            refine (eval_told _ hrb hn x).mono ?_; rintro e w1 ⟨rfl, hb1⟩
            rw [K.out.2.1]
            have hs1 := hb1.size
            have hrx1 := (hrx.below hb1).more hs1
            have hry1 := (hry.below hb1).more hs1
            go_wp2_with fail
            refine (through_told _ _ hrx1 hn' hry1 hn' x).mono ?_; rintro e w2 ⟨rfl, hb2⟩
            rw [K.out.2.2]
            have hs2 := hb2.size
            have hrx2 := hrx1.below hb2
            go_wp2_with fail
            refine (rPlaces_any _ hrx2 hn').mono ?_; rintro e w' ⟨rfl, q, rfl⟩
            rw [K.out.1]
            go_wp2_with fail
            refine (polys_any _).mono ?_; rintro e w4 ⟨rfl, hb4⟩
            go_wp2
            go_ret
            exact ⟨rfl, (below_drewN ((hb.trans (hb1.mono (by omega))).trans (hb2.mono (by omega))) q).trans (hb4.mono (by simp; omega))⟩
          · have K := KH.hid (And.intro e1 e3)
            clear e1 e3
            go_wp2_with fail
            refine (eval_told _ hrb hn x).mono ?_; rintro e w1 ⟨rfl, hb1⟩
            have hs1 := hb1.size
            have hrx1 := (hrx.below hb1).more hs1
            have hry1 := (hry.below hb1).more hs1
            go_wp2_with fail
            refine (through_told _ _ hrx1 hn' hry1 hn' x).mono ?_; rintro e w2 ⟨rfl, hb2⟩
            rw [K.out.2]
            have hs2 := hb2.size
            have hrx2 := hrx1.below hb2
            go_wp2_with fail
            refine (rPlaces_any _ hrx2 hn').mono ?_; rintro e w' ⟨rfl, q, rfl⟩
            rw [K.out.1]
            go_wp2_with fail
            refine (polys_any _).mono ?_; rintro e w4 ⟨rfl, hb4⟩
            go_wp2
            go_ret
            exact ⟨rfl, (below_drewN ((hb.trans (hb1.mono (by omega))).trans (hb2.mono (by omega))) q).trans (hb4.mono (by simp; omega))⟩
    · clear hl hl'
      go_enter Try.func8, Try.ntmps8
      go_wp2_with fail
      refine (polys_any _).mono ?_; rintro e w2 ⟨rfl, hb2⟩
      go_wp2
      go_ret
      exact ⟨rfl, hb2⟩
  · clear hl hl'
    go_enter Try.func8, Try.ntmps8
    go_wp2_with fail
    refine (polys_any _).mono ?_; rintro e w2 ⟨rfl, hb2⟩
    go_wp2
    go_ret
    exact ⟨rfl, hb2⟩

theorem own : ownKnob Try.prog.godebug = none := by kernel_rfl
theorem laidOut : laidOutB Try.prog = true := by kernel_rfl

/-! ### The step from the walk to the row -/
set_option maxRecDepth 100000 in
theorem lifted (os : Os) (started : os.Started) (H : Type) (enc : TypeId × Value → H) :
    ReturnsInHanded {} Try.checked os 8 .any (Rows.polyThroughSpec.pre6 enc Try.prog Try.f8 Rows.polyThroughRow.domain false) (Rows.polyThroughSpec.post enc Try.prog Try.f8 false true false false) := by
  refine returnsInHanded_of_change (C := Try.checked) own started (by kernel_rfl) Try.func8
    (ChangeSpec.witness6 (enc := enc) (C := Try.checked) false ⟨#[], #[.slice none 0 0, .slice none 0 0, .int .i64 0], []⟩ 8 (by kernel_rfl) (by kernel_rfl) (by kernel_rfl) (by kernel_rfl)) ?_
  intro W base args ds gs before hval0 hW hcnd _
  have hval : ∀ (j : Nat) t v, Try.f8.params[j]? = some t → args[j]? = some v → Value.okWide Try.prog W .any base t v := hval0
  have hW' := hW
  obtain ⟨p, q, hA0, hV, rfl, hfz, hnd⟩ := hW
  have hA : DataW.TrodAll enc Try.prog W 0 (fun _ => true) true Try.f8.params.toList args.toList ds p := hA0
  rw [Try.params8] at hA hval
  obtain ⟨v0, vs0, d0, ds0, p0, q0, hargs, rfl, rfl, h0, r0⟩ := trodAll_cons hA
  obtain ⟨v1, vs1, d1, ds1, p1, q1, rfl, rfl, rfl, h1, r1⟩ := trodAll_cons r0
  obtain ⟨v2, vs2, d2, ds2, p2, q2, rfl, rfl, rfl, h2, r2⟩ := trodAll_cons r1
  obtain ⟨rfl, rfl, rfl⟩ := trodAll_nil r2
  obtain rfl : args = #[v0, v1, v2] := by cases args; simp_all
  obtain ⟨rfl, rfl⟩ := trodVars_none hV
  obtain ⟨a0, len0, cap0, rfl⟩ := okWide_slice Try.underlying34 (hval 0 34 v0 rfl rfl)
  have k0 := h0
  have lt0 : ∀ x ∈ p0, x.block < W.heap.size := by obtain ⟨m, hm⟩ := k0; exact DataW.trod_lt m _ _ _ hm
  obtain ⟨z0, w0⟩ : ∃ zs, IntsIn W a0 len0 cap0 zs := ints_in Try.underlying34 Try.underlying3 (by kernel_rfl) h0
  obtain ⟨a1, len1, cap1, rfl⟩ := okWide_slice Try.underlying34 (hval 1 34 v1 rfl rfl)
  have k1 := h1
  have lt1 : ∀ x ∈ p1, x.block < W.heap.size := by obtain ⟨m, hm⟩ := k1; exact DataW.trod_lt m _ _ _ hm
  obtain ⟨z1, w1⟩ : ∃ zs, IntsIn W a1 len1 cap1 zs := ints_in Try.underlying34 Try.underlying3 (by kernel_rfl) h1
  obtain ⟨a2, rfl, rfl, rfl, w2⟩ := open_int Try.underlying3 (hval 2 3 v2 rfl rfl) h2
  clear hA0 hval0
  refine (walk w0 w1 a2 w2).mono fun e W' ⟨he, bel⟩ => ?_
  subst he
  exact ⟨_, rfl, _, _, _, [], _, [], hW', trodAll_mk1 (shut_bool Try.underlying4 _), (trodAll_cons_mk (Below.trod laidOut (by kernel_rfl) (of_decide_eq_true (by kernel_rfl)) k0 bel lt0) (trodAll_cons_mk (Below.trod laidOut (by kernel_rfl) (of_decide_eq_true (by kernel_rfl)) k1 bel lt1) (trodAll_cons_mk (shut_int Try.underlying3 w2) (trodAll_mk0)))), rfl, bel.frame _, fun h => by cases h⟩

theorem over : Rows.polyThroughRow.holds Try.pinned (OpenSpec.ofChange Rows.polyThroughSpec) :=
  OpenClaim.holds_of_wide 8 Try.f8 rfl rfl rfl rfl rfl rfl rfl ⟨rfl, rfl, rfl, rfl, rfl⟩ rfl rfl rfl rfl rfl (by kernel_rfl) Try.func8 (by kernel_rfl)
    (of_decide_eq_true (by kernel_rfl)) (by unfold Func.isWrapper; first | (rw [if_pos (by decide +kernel)]; kernel_rfl) | (rw [if_neg (by decide +kernel)]; exact ⟨rfl, rfl⟩))
    (fun os started H enc _ => lifted os started H enc)

theorem proved : Rows.PolyThroughSaid := over

end Go.Proofs.Ytdeoibgedjbeiaa.polyThrough
