import Derived.Test.YtlnilfcjcoclhaaGreatDoorHsI
import Derived.Test.YtlnilfcjcoclhaaGreatDoorRows
import Derived.Deep.SlicePairs
import Derived.LaidMore
import Derived.OpenShut
import Derived.ProofKit
import Derived.Stop.Joined
/- The walk of TopNonces, whole. -/
namespace Go.Proofs.YtlnilfcjcoclhaaGreatDoor
open Go.RowKit Go.Shelf
attribute [local go_sem] Oper.semAt_some

/-- what is drawn is never drawn again -/
theorem DrOk.ne {dr : List ByteArray} {N i k : Nat} (h : DrOk dr N) (hN : N ≤ 4294967296) (hk : k < i) {a b : ByteArray} (ha : dr[i]? = some a) (hb : dr[k]? = some b) : a ≠ b := by
  obtain ⟨-, ns, rfl, h2, h3⟩ := h
  rw [List.getElem?_map] at ha hb
  obtain ⟨x, hx, rfl⟩ := Option.map_eq_some_iff.1 ha
  obtain ⟨y, hy, rfl⟩ := Option.map_eq_some_iff.1 hb
  intro e
  have m1 := h3 x (List.mem_of_getElem? hx)
  have m2 := h3 y (List.mem_of_getElem? hy)
  have e' := nonV_inj (by omega) (by omega) e
  obtain ⟨hxl, hx'⟩ := List.getElem?_eq_some_iff.1 hx
  obtain ⟨hyl, hy'⟩ := List.getElem?_eq_some_iff.1 hy
  have := List.pairwise_iff_getElem.1 h2 k i hyl hxl hk
  omega
theorem wrG_new (key : ByteArray) (n : Nat) : WrG key n (List.replicate n ⟨#[]⟩) (List.replicate n ⟨#[]⟩) (List.replicate 3 ⟨#[]⟩) 0 0 [] :=
  ⟨noOk_new, Nat.le_refl _, DrOk.nil, rep_len n, rep_len n, vSz_none n, fun _ _ => .inl ⟨rep_get _ _, rep_get _ _⟩⟩
/-- what stands between the steps -/
def TnS (K : Nat → Nat) (w wr : World) (h n : Nat) (key : ByteArray) (k : Nat) : Prop :=
  ∃ S Sn N j g a Bl said dr x, House wr w.heap.size h 0 0 S Sn N (16 * j) key said dr x ∧ VaS K S n g a Bl ∧ g ≤ k ∧ WrG key n Bl said Sn N j dr ∧ j ≤ 6 * k ∧ Below w.heap.size w wr
set_option maxHeartbeats 4000000 in
set_option maxRecDepth 100000 in
theorem walk (K : Nat → Nat) {w : World} (n : Int) (key : ByteArray) {A : Option Addr} {m : Nat} (c : Nat) {L : Nat → Stp} (hS : StepsIn w w.heap.size A m L) (hm : m ≤ maxLen) (hK : RoundsAt K w) (hT : TurnsAt w) (hP : PowAt w) (hg2 : 2 < w.heap.size) :
    Calls Tryz.prog 3 #[.int .i64 n, .string key, .slice A m c] w fun e w' => e = .returned (.bool true) ∧ Below w.heap.size w w' := by
  have hg0 := hT.1
  have hg1 := hK.1
  have hm9 : m ≤ 9223372036854775807 := by unfold maxLen at hm; omega
  have HX := KH.hid (And.intro hS (And.intro hm (And.intro hK (And.intro hT hP))))
  have HKp : Hid (∀ W, Below w.heap.size w W → Calls Tryz.prog 6 #[] W fun e w' => e = .returned (.bool true) ∧ Below W.heap.size W w') := fun W hb =>
    kept_any K (rounds_below HX.out.2.2.1 hb hg1) (turns_below HX.out.2.2.2.1 hb hg0)
  clear hS hm hK hT hP
  cases hc : cntB n
  · have HH := KH.hid (house_no n key (w := w) hc)
    clear hc
    go_enter Tryz.func3, Tryz.ntmps3
    go_wp2_with fail
    refine HH.out.mono ?_; rintro e w1 ⟨v1, rfl, hb1⟩
    go_wp2_with fail
    refine (HKp.out _ hb1).mono ?_; rintro e w2 ⟨rfl, hb2⟩
    go_wp2
    go_ret
    exact ⟨rfl, hb1.trans (hb2.mono hb1.size)⟩
  · obtain ⟨n', hn', -⟩ := cntB_nat hc
    subst hn'
    have HH := KH.hid (house_yes K n' key (w := w) hc HX.out.2.2.1)
    have HV := KH.hid (fmt_vaS K hc).2
    have HC := KH.hid hc
    clear hc
    by_cases h8 : n' ≤ 8
    · have d8 : decide ((8 : Int) < (n' : Int)) = false := by rw [decide_eq_false_iff_not]; omega
      by_cases hk : key.size = 32
      · have hk0 : (key.size : Int) = 32 := by omega
        have hHk := KH.hid hk
        clear hk
        go_enter Tryz.func3, Tryz.ntmps3
        go_wp2_with fail
        refine HH.out.mono ?_; rintro e w1 ⟨h, x, rfl, H1, hb1⟩
        have hz1 := hb1.size
        have HH1 := KH.hid (And.intro H1 hb1)
        have hLg := KH.hid (large_any c (HX.out.1.below hb1 hz1) HX.out.2.1)
        clear H1 HH
        go_wp2_with fail
        refine hLg.out.mono ?_; rintro e w2 ⟨b, rfl, hbs, hb2⟩
        have hb12 := HH1.out.2.trans (hb2.mono hz1)
        have hz2 := hb12.size
        cases b
        · have HW2 : Hid (TnS K w w2 h n' key 0) := KH.hid ⟨_, _, _, _, _, _, _, _, _, _, HH1.out.1.below hb2, HV.out, Nat.le_refl _, wrG_new key n', Nat.zero_le _, hb12⟩
          have HSm := KH.hid (hbs rfl)
          clear hb2 hb12 hbs hLg hb1
          go_wp2_with fail
          go_loopw [9] (fun i wr => ∃ k : Nat, k ≤ m ∧ i = .int .i64 k ∧ Hid (TnS K w wr h n' key k)) (fun i _ => m - (intOf i).toNat)
          case atStart => exact ⟨0, Nat.zero_le _, rfl, HW2⟩
          case round =>
            obtain ⟨k, hkm, rfl, HR⟩ := hrel
            clear HW2
            by_cases hlt : k < m
            · obtain ⟨S, Sn, N, j, g, a, Bl, said, dr, x2, rH, rV, rg, rG, rj, rB⟩ := HR
              have h8m := HSm.out.1
              obtain ⟨ad, rfl, hab, hx⟩ := HX.out.1 (by omega)
              obtain ⟨hAt, hOk⟩ := hx k hlt
              obtain ⟨hc0, hc1, hc2, hc3, hc4⟩ := hAt.below rB (by rw [KH.block_of_add]; exact hab)
              have hsm := Stp.small_iff.1 (HSm.out.2 k hlt)
              have hzr := rB.size
              have HSt := KH.hid (step_any K rH rV (by omega) rG hHk.out (by omega) (hOk.below rB (Nat.le_refl _)) hsm.1 hsm.2.1 (rounds_below HX.out.2.2.1 rB hg1) (turns_below HX.out.2.2.2.1 rB hg0) (HX.out.2.2.2.2.below rB hg2) hg0 hg1 hg2)
              have HRB := KH.hid (And.intro rB (And.intro rg rj))
              clear rH rV rG rB hx hAt hOk hsm rg rj
              generalize L k = s at *
              unfold Stp.cells at HSt
              go_wp2_with fail
              refine HSt.out.mono ?_; rintro e w3 ⟨rfl, S', Sn', N', j', g', a', Bl', said', dr', x', rH, rV, rg, rG, rj, rB⟩
              have HR3 : Hid (TnS K w w3 h n' key (k + 1)) := KH.hid ⟨_, _, _, _, _, _, _, _, _, _, rH, rV, by have := HRB.out.2.1; omega, rG, by have := HRB.out.2.2; omega, HRB.out.1.trans (rB.mono (by omega))⟩
              clear rH rV rG rB rg rj HSt
              go_wp2
              go_roundw
              case rel => exact ⟨k + 1, by omega, by go_num, HR3⟩
              case measure => simp [intOf]; omega
            · obtain rfl : k = m := by omega
              obtain ⟨S, Sn, N, j, g, a, Bl, said, dr, x2, rH, rV, rg, rG, rj, rB⟩ := HR
              have HH3 := KH.hid (And.intro rH (And.intro rB rG.d))
              have hN : N ≤ 1000 := by have := rG.le; have := HSm.out.1; omega
              have hdl : dr.length ≤ 9223372036854775807 := by have := rG.d.1; omega
              have e9 := rH.blk.cell 9
              simp only [hsC, List.getElem?_toArray, List.getElem?_cons_zero, List.getElem?_cons_succ] at e9
              have hzr := rB.size
              clear rH rV rg rG rj rB
              generalize wr = w5 at *
              go_wp2_with fail
              go_loopw [10] (fun i wq => ∃ p : Nat, p ≤ dr.length ∧ i = .int .i64 p ∧ Below w5.heap.size w5 wq) (fun i _ => dr.length - (intOf i).toNat)
              case atStart => exact ⟨0, Nat.zero_le _, rfl, Below.refl _ _⟩
              case round =>
                obtain ⟨p, hp, rfl, hbq⟩ := hrel
                generalize wr = wq at *
                have hzq := hbq.size
                have Hq := HH3.out.1.below hbq
                have e9q : wq.cell? ⟨h, 9, none⟩ = some (.slice x2.A6 dr.length x2.c6) := (hbq.cell (World.block_lt_of_cell? _ _ e9)).trans e9
                have hRd := KH.Reads.of_own Hq.d
                by_cases hpl : p < dr.length
                · obtain ⟨ad, u, hA6, hab, hx, hc⟩ := hRd.at_ hpl
                  obtain ⟨sa, hsa, rfl⟩ : ∃ b, dr[p]? = some b ∧ u = .string b := by
                    rw [List.getElem?_map] at hx
                    cases hq : dr[p]? with
                    | none => rw [hq] at hx; cases hx
                    | some b => rw [hq] at hx; exact ⟨b, rfl, by simpa using hx.symm⟩
                  have HSA := KH.hid (And.intro hsa hRd)
                  have HBq := KH.hid hbq
                  have HA6 := KH.hid hA6
                  rw [hA6] at e9q
                  have HE9 := KH.hid (And.intro e9q hc)
                  clear hA6 hsa hx hRd Hq hbq e9q hc
                  have e9q := HE9.out.1
                  go_wp2_with fail
                  go_loopw [11] (fun i wt => ∃ q : Nat, q ≤ p ∧ i = .int .i64 q ∧ Below wq.heap.size wq wt) (fun i _ => p - (intOf i).toNat)
                  case atStart => exact ⟨0, Nat.zero_le _, rfl, Below.refl _ _⟩
                  case round =>
                    obtain ⟨q, hq, rfl, hbt⟩ := hrel
                    by_cases hql : q < p
                    · have e9t := (hbt.cell (World.block_lt_of_cell? _ _ HE9.out.1)).trans HE9.out.1
                      have hct := (hbt.cell (World.block_lt_of_cell? _ _ HE9.out.2)).trans HE9.out.2
                      obtain ⟨ad', u', hA', hab', hx', hc'⟩ := (HSA.out.2.below hbt).at_ (show q < dr.length by omega)
                      obtain rfl : ad = ad' := by rw [HA6.out] at hA'; exact Option.some.inj hA'
                      obtain ⟨sb', hsb, rfl⟩ : ∃ b, dr[q]? = some b ∧ u' = .string b := by
                        rw [List.getElem?_map] at hx'
                        cases hq' : dr[q]? with
                        | none => rw [hq'] at hx'; cases hx'
                        | some b => rw [hq'] at hx'; exact ⟨b, rfl, by simpa using hx'.symm⟩
                      have hne : (sa.toList == sb'.toList) = false := bytes_ne (HH3.out.2.2.ne (by omega) hql HSA.out.1 hsb)
                      have HBt := KH.hid hbt
                      have j0 : (0 : Int) ≤ (p : Int) := by omega
                      have j1 : (p : Int) < (dr.length : Int) := by omega
                      have j2 : (0 : Int) ≤ (q : Int) := by omega
                      have j3 : (q : Int) < (dr.length : Int) := by omega
                      clear hbt hA' hx' hsb e9q
                      go_wp2
                      go_quiet (fail)
                      go_wp2
                      go_roundw
                      case rel => exact ⟨q + 1, by omega, by go_num, below_drewN HBt.out _⟩
                      case measure => simp [intOf]; omega
                    · obtain rfl : q = p := by omega
                      clear e9q
                      go_wp2
                      go_roundw
                      case rel => exact ⟨q + 1, by omega, by go_num, HBq.out.trans (hbt.mono hzq)⟩
                      case measure => simp [intOf]; omega
                · obtain rfl : p = dr.length := by omega
                  have hB5 := HH3.out.2.1.trans (hbq.mono hzr)
                  clear Hq hRd
                  go_wp2_with fail
                  refine (HKp.out _ hB5).mono ?_; rintro e w6 ⟨rfl, hb6⟩
                  go_wp2
                  go_ret
                  exact ⟨rfl, hB5.trans (hb6.mono hB5.size)⟩
        · clear hbs
          have hb1 := hb12
          go_wp2_with fail
          refine (HKp.out _ hb1).mono ?_; rintro e w2 ⟨rfl, hb2⟩
          go_wp2
          go_ret
          exact ⟨rfl, hb1.trans (hb2.mono hb1.size)⟩
      · have hk0 : ¬ (key.size : Int) = 32 := by omega
        clear hk
        go_enter Tryz.func3, Tryz.ntmps3
        go_wp2_with fail
        refine HH.out.mono ?_; rintro e w1 ⟨h, x, rfl, H1, hb1⟩
        clear H1
        go_wp2_with fail
        refine (HKp.out _ hb1).mono ?_; rintro e w2 ⟨rfl, hb2⟩
        go_wp2
        go_ret
        exact ⟨rfl, hb1.trans (hb2.mono hb1.size)⟩
    · have d8 : decide ((8 : Int) < (n' : Int)) = true := by rw [decide_eq_true_iff]; omega
      go_enter Tryz.func3, Tryz.ntmps3
      go_wp2_with fail
      refine HH.out.mono ?_; rintro e w1 ⟨h, x, rfl, H1, hb1⟩
      clear H1
      go_wp2_with fail
      refine (HKp.out _ hb1).mono ?_; rintro e w2 ⟨rfl, hb2⟩
      go_wp2
      go_ret
      exact ⟨rfl, hb1.trans (hb2.mono hb1.size)⟩
end Go.Proofs.YtlnilfcjcoclhaaGreatDoor
/- What the listed variables give the walk; a script that comes in. -/
namespace Go.Proofs.YtlnilfcjcoclhaaGreatDoor
open Go.RowKit Go.ChangeShapes Go.WideShapes Go.Deep

/-- what is listed -/
def laidL : List (String × DataW Unit) := [("math/bits.deBruijn32tab", Rows.laid_math_bits_deBruijn32tab), ("math/bits.deBruijn64tab", Rows.laid_math_bits_deBruijn64tab), ("internal/strconv.uint64pow10", Rows.laid_internal_strconv_uint64pow10), ("keyhole/stream.turns", Rows.laid_keyhole_stream_turns), ("keyhole/digest.rounds", Rows.laid_keyhole_digest_rounds)]
def partsOf : DataW Unit → List (DataW Unit)
  | .agg l => l
  | _ => []
/-- a part of it is a word -/
def isWord : DataW Unit → Bool
  | .lit (.int .i64 k) => decide (0 ≤ k) && decide (k < 4294967296)
  | _ => false
theorem laid_words : ((partsOf Rows.laid_keyhole_digest_rounds).all isWord) = true := by kernel_rfl
/-- the number that a cell holds -/
def numAt (w : World) (g i : Nat) : Nat := match w.cell? ⟨g, i, none⟩ with
  | some (.int .i64 k) => k.toNat
  | _ => 0
theorem gRounds : Tryz.prog.globalNamed "keyhole/digest.rounds" = some 1 := by kernel_rfl
theorem tRounds : (Tryz.prog.globals[1]?).map (·.type) = some 203 := by kernel_rfl
theorem gTurns : Tryz.prog.globalNamed "keyhole/stream.turns" = some 0 := by kernel_rfl
theorem tTurns : (Tryz.prog.globals[0]?).map (·.type) = some 167 := by kernel_rfl
theorem tPow : (Tryz.prog.globals[2]?).map (·.type) = some 210 := by kernel_rfl
theorem pow_tab : (Rows.laid_internal_strconv_uint64pow10 : DataW Unit) = Lib.tabData IntKind.u64 Lib.pow10Tab := by kernel_rfl
/-- the number that is listed at turn j, place i -/
def turnAt (j i : Nat) : Option Int := match (partsOf Rows.laid_keyhole_stream_turns)[j]? with
  | some d => match (partsOf d)[i]? with
    | some (.lit (.int .i64 k)) => some k
    | _ => none
  | none => none
theorem laid_turns : ((List.range 8).all fun j => (List.range 4).all fun i => turnAt j i == some ((trn j i : Nat) : Int)) = true := by kernel_rfl
theorem turnAt_eq {j i : Nat} (hj : j < 8) (hi : i < 4) : turnAt j i = some ((trn j i : Nat) : Int) := by
  have h := List.all_eq_true.1 (List.all_eq_true.1 laid_turns j (List.mem_range.2 hj)) i (List.mem_range.2 hi)
  exact eq_of_beq h
set_option maxRecDepth 100000 in
theorem of_laid {W : World} (h : laidMetH Tryz.prog laidL W) : ∃ K, RoundsAt K W ∧ TurnsAt W ∧ PowAt W ∧ 2 < W.heap.size := by
  rw [MakeChecks.laidMetH_plain _ _ _ (by kernel_rfl)] at h
  obtain ⟨ps, ⟨_, _, _, _, _, _, _, _, _, _, ⟨_, _, _, _, _, _, _, _, _, _, ⟨g2, t2, cs2, f2, p2, q2, hg2, ht2, hv2, hd2, ⟨g3, t3, cs3, f3, p3, q3, hg3, ht3, hv3, hd3, ⟨g4, t4, cs4, f4, p4, q4, hg4, ht4, hv4, hd4, _⟩, _⟩, _⟩, _⟩, _⟩, _⟩ := h
  obtain rfl := Option.some.inj (gPow.symm.trans hg2)
  obtain rfl := Option.some.inj (gTurns.symm.trans hg3)
  obtain rfl := Option.some.inj (gRounds.symm.trans hg4)
  obtain rfl := Option.some.inj (tPow.symm.trans ht2)
  obtain rfl := Option.some.inj (tTurns.symm.trans ht3)
  obtain rfl := Option.some.inj (tRounds.symm.trans ht4)
  have hP : PowAt W := by
    unfold PowAt Lib.TabIs
    rw [hv2, ← Lib.cells_of_tab (k := IntKind.u64) (zs := Lib.pow10Tab) Tryz.underlying210 Tryz.underlying198 (by kernel_rfl) (by kernel_rfl) (by rw [pow_tab] at hd2; exact hd2)]
  have hgp : 2 < W.heap.size := World.block_lt_of_cell? W _ (Lib.TabIs.cell hP gPow 0 (by decide))
  have hT : ∀ j, j < 8 → ∀ i, i < 4 → W.cell? ⟨0, j * 4 + i, none⟩ = some (.int .i64 (trn j i : Nat)) := by
    have c3 : Tryz.prog.cellsOf 166 = 4 := by kernel_rfl
    have c4 : Tryz.prog.cellsOf 3 = 1 := by kernel_rfl
    obtain ⟨xs, m1, rfl, hx1, hlen, hn3, hel⟩ := DataW.trod_array Tryz.underlying167 hd3
    simp only [Prod.mk.injEq] at hx1
    intro j hj i hi
    have h0 := hel j hj
    obtain ⟨y, hy⟩ : ∃ y, xs[j]? = some y := ⟨_, List.getElem?_eq_getElem (by omega)⟩
    rw [hy] at h0
    obtain ⟨ys, m2, rfl, hy1, hlen2, hn4, hel2⟩ := DataW.trod_array Tryz.underlying166 h0
    have h2 := hel2 i hi
    obtain ⟨z, hz⟩ : ∃ z, ys[i]? = some z := ⟨_, List.getElem?_eq_getElem (by omega)⟩
    rw [hz] at h2
    obtain ⟨k, e1, e2, _⟩ := DataW.trod_int Tryz.underlying3 h2
    have ht : turnAt j i = some k := by
      unfold turnAt
      rw [hx1.1]
      show (match (xs.map (·.1))[j]? with | some d => _ | none => none) = _
      rw [List.getElem?_map, hy]
      simp only [Option.map_some]
      rw [hy1]
      show (match (ys.map (·.1))[i]? with | some (.lit (.int .i64 k)) => some k | _ => none) = some k
      rw [List.getElem?_map, hz]
      simp only [Option.map_some]
      rw [e2]
    rw [turnAt_eq hj hi] at ht
    injection ht with ht
    rw [World.var?_cell hg3 hv3]
    rw [c3, c4, Nat.mul_one] at e1
    have : cs3.toList[j * 4 + i]? = some (.int .i64 k) := by
      have h3 := congrArg (fun l => l[0]?) e1
      simpa [List.getElem?_take, List.getElem?_drop, hi] using h3
    rw [ht]
    simpa using this
  have hT0 : 0 < W.heap.size := World.block_lt_of_cell? W _ (hT 0 (by omega) 0 (by omega))
  have c3 : Tryz.prog.cellsOf 3 = 1 := by kernel_rfl
  obtain ⟨xs, m1, rfl, hx1, hlen, hn3, hel⟩ := DataW.trod_array Tryz.underlying203 hd4
  simp only [Prod.mk.injEq] at hx1
  have hw : ∀ d ∈ xs.map (·.1), isWord d = true := by
    have := laid_words
    rw [hx1.1] at this
    exact List.all_eq_true.1 this
  have hcell : ∀ i, i < 64 → ∃ k : Int, W.cell? ⟨1, i, none⟩ = some (.int .i64 k) ∧ 0 ≤ k ∧ k < 4294967296 := by
    intro i hi
    have h0 := hel i hi
    obtain ⟨y, hy⟩ : ∃ y, xs[i]? = some y := ⟨_, List.getElem?_eq_getElem (by omega)⟩
    rw [hy] at h0
    obtain ⟨k, e1, e2, _⟩ := DataW.trod_int Tryz.underlying3 h0
    have hm := hw y.1 (List.mem_map.2 ⟨y, List.mem_of_getElem? hy, rfl⟩)
    rw [e2] at hm
    have hk : 0 ≤ k ∧ k < 4294967296 := by
      have : (decide (0 ≤ k) && decide (k < 4294967296)) = true := hm
      simpa using this
    refine ⟨k, ?_, hk⟩
    rw [World.var?_cell hg4 hv4 i]
    rw [c3, Nat.mul_one] at e1
    have : cs4.toList[i]? = some (.int .i64 k) := by
      have h2 := congrArg (fun l => l[0]?) e1
      simpa [List.getElem?_take, List.getElem?_drop] using h2
    simpa using this
  refine ⟨numAt W 1, ⟨?_, fun i hi => ?_⟩, ⟨hT0, hT⟩, hP, hgp⟩
  · obtain ⟨k, hk, _⟩ := hcell 0 (by omega)
    exact World.block_lt_of_cell? W _ hk
  · obtain ⟨k, hk, h1, h2⟩ := hcell i hi
    have e : numAt W 1 i = k.toNat := by unfold numAt; rw [hk]
    rw [e, hk]
    exact ⟨by rw [Int.toNat_of_nonneg h1], by omega⟩
/-! ### A script that comes in -/
theorem addr_add0 (p : Addr) : p.add 0 = p := by simp [Addr.add]
theorem addr_addS (p : Addr) (k : Nat) : p.add (k + 1) = ⟨p.block, p.off + (k + 1), none⟩ := by simp [Addr.add]
instance : Inhabited Stp := ⟨⟨none, 0, 0, none, 0, 0, 0, none, 0, 0, none, 0, 0, [], [], [], []⟩⟩
theorem ints_cell {H : Type} {enc : TypeId × Value → H} {W : World} {n : Nat} {v : Value} {y : DataW H × List MemPlace} (h : DataW.trod enc Tryz.prog W 0 (fun _ => true) true n 29 [v] = some y) : ∃ A l c zs, v = .slice A l c ∧ KH.IntsIn W A l c zs := by
  obtain ⟨A, l, c, rfl⟩ : ∃ A l c, v = .slice A l c := by
    rcases open_ints Tryz.underlying29 Tryz.underlying3 (by kernel_rfl) h with ⟨hcs, _⟩ | ⟨x, l, c, zs, hcs, _⟩
    · injection hcs with hcs _; exact ⟨_, _, _, hcs⟩
    · injection hcs with hcs _; exact ⟨_, _, _, hcs⟩
  obtain ⟨zs, hz⟩ := KH.ints_in (d := y.1) (p := y.2) Tryz.underlying29 Tryz.underlying3 (by kernel_rfl) ⟨n, h⟩
  exact ⟨A, l, c, zs, rfl, hz⟩
theorem strs_cell {H : Type} {enc : TypeId × Value → H} {W : World} {n : Nat} {v : Value} {y : DataW H × List MemPlace} (h : DataW.trod enc Tryz.prog W 0 (fun _ => true) true n 30 [v] = some y) : ∃ A l c zs, v = .slice A l c ∧ KH.StrsIn W A l c zs := by
  obtain ⟨A, l, c, rfl⟩ : ∃ A l c, v = .slice A l c := by
    rcases open_strings Tryz.underlying30 Tryz.underlying9 (by kernel_rfl) h with ⟨hcs, _⟩ | ⟨x, l, c, zs, hcs, _⟩
    · injection hcs with hcs _; exact ⟨_, _, _, hcs⟩
    · injection hcs with hcs _; exact ⟨_, _, _, hcs⟩
  obtain ⟨zs, hz⟩ := KH.strs_in (d := y.1) (p := y.2) Tryz.underlying30 Tryz.underlying9 (by kernel_rfl) ⟨n, h⟩
  exact ⟨A, l, c, zs, rfl, hz⟩
set_option maxRecDepth 100000 in
theorem steps_in {H : Type} {enc : TypeId × Value → H} {W : World} {a : Option Addr} {len cap : Nat} {d : DataW H} {p : List MemPlace}
    (h : DataW.Trod enc Tryz.prog W 0 (fun _ => true) true 22 (.slice a len cap) d p) : len ≤ maxLen ∧ ∃ L, StepsIn W W.heap.size a len L := by
  obtain ⟨fuel, hf⟩ := h
  rcases open_slice Tryz.underlying22 hf with ⟨hcs, _⟩ | ⟨x, l, c, m, n, D, Pl, hcs, _, hl, hm, hz, _, hel⟩
  · simp [Value.cells] at hcs
    obtain ⟨rfl, rfl, rfl⟩ := hcs
    exact ⟨Nat.zero_le _, fun _ => default, fun h0 => absurd h0 (by omega)⟩
  · simp [Value.cells] at hcs
    obtain ⟨rfl, rfl, rfl⟩ := hcs
    simp only [if_true] at hz
    have c5 : Tryz.prog.cellsOf 32 = 5 := by kernel_rfl
    have ci : Tryz.prog.cellsOf 29 = 1 := by kernel_rfl
    have cs : Tryz.prog.cellsOf 30 = 1 := by kernel_rfl
    have cn : Tryz.prog.cellsOf 3 = 1 := by kernel_rfl
    have each : ∀ i, i < len → ∃ s : Stp, s.At W (x.add (i * 5)) ∧ s.Ok W W.heap.size ∧ x.block < W.heap.size := fun i hi => by
      obtain ⟨cs', e1, e2⟩ := hel i (by omega)
      rw [c5] at e1
      obtain ⟨_, hlen, hcell⟩ := World.cells?_some e1
      obtain ⟨xs, k, _, _, _, hxl, hfs⟩ := DataW.trod_struct Tryz.underlying32 e2
      match xs, hxl, cs', hlen with
      | [y0, y1, y2, y3, y4], _, [v0, v1, v2, v3, v4], _ =>
        have q0 := hfs 0 _ rfl
        have q1 := hfs 1 _ rfl
        have q2 := hfs 2 _ rfl
        have q3 := hfs 3 _ rfl
        have q4 := hfs 4 _ rfl
        simp [ci, cs, cn] at q0 q1 q2 q3 q4
        have w0 := hcell 0 (by omega)
        have w1 := hcell 1 (by omega)
        have w2 := hcell 2 (by omega)
        have w3 := hcell 3 (by omega)
        have w4 := hcell 4 (by omega)
        obtain ⟨A1, l1, k1, z1, rfl, i1⟩ := ints_cell q0
        obtain ⟨A2, l2, k2, z2, rfl, i2⟩ := strs_cell q1
        obtain ⟨z, hz', _, hw⟩ := DataW.trod_int Tryz.underlying3 q2
        obtain ⟨A3, l3, k3, z3, rfl, i3⟩ := ints_cell q3
        obtain ⟨A4, l4, k4, z4, rfl, i4⟩ := ints_cell q4
        injection hz' with hz' _
        subst hz'
        have hwz : -9223372036854775808 ≤ z ∧ z ≤ 9223372036854775807 := by simpa [Lit.wf, IntKind.min, IntKind.max, IntKind.bits, IntKind.signed] using hw
        refine ⟨⟨A1, l1, k1, A2, l2, k2, z, A3, l3, k3, A4, l4, k4, z1, z2, z3, z4⟩, ⟨?_, ?_, ?_, ?_, ?_⟩,
          ⟨i1.2.2.2.2, Nat.le_trans i1.2.1 i1.2.2.1, i1.2.2.2.1, i2.2.2.2.2, Nat.le_trans i2.2.1 i2.2.2.1, i2.2.2.2.1, i3.2.2.2.2, Nat.le_trans i3.2.1 i3.2.2.1, i3.2.2.2.1, i4.2.2.2.2, Nat.le_trans i4.2.1 i4.2.2.1, i4.2.2.2.1, hwz⟩, ?_⟩
        · rw [addr_add0] at w0; exact w0
        · rw [addr_addS] at w1; exact w1
        · rw [addr_addS] at w2; exact w2
        · rw [addr_addS] at w3; exact w3
        · rw [addr_addS] at w4; exact w4
        · have := World.block_lt_of_cell? W _ w0
          rw [KH.block_of_add, KH.block_of_add] at this
          exact this
    obtain ⟨L, hL⟩ := choose_lt each
    exact ⟨by omega, L, fun h0 => ⟨x, rfl, (hL 0 h0).2.2, fun k hk => ⟨(hL k hk).1, (hL k hk).2.1⟩⟩⟩
end Go.Proofs.YtlnilfcjcoclhaaGreatDoor
