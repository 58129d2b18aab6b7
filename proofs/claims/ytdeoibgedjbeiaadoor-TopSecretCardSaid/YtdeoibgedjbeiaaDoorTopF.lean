import Derived.Test.YtdeoibgedjbeiaaDoorRows
import Derived.Test.YtdeoibgedjbeiaaDoorTopD
import Derived.LaidMore
import Derived.OpenShut
import Derived.ProofKit
import Derived.Stop.Joined
import Derived.Test.YtdeoibgedjbeiaaDoorTopE
import Derived.Test.YtdeoibgedjbeiaaDoorArgs
/- What the listed variable gives the walk. -/
namespace Go.Proofs.YtdeoibgedjbeiaaDoor
open Go.RowKit

/-- what is listed -/
def laidL : List (String × DataW Unit) := [("keyhole/digest.rounds", Rows.laid_keyhole_digest_rounds)]
def partsOf : DataW Unit → List (DataW Unit)
  | .agg l => l
  | _ => []
/-- a part of it is a word -/
def isWord : DataW Unit → Bool
  | .lit (.int .i64 k) => decide (0 ≤ k) && decide (k < 4294967296)
  | _ => false
theorem laid_words : ((partsOf Rows.laid_keyhole_digest_rounds).all isWord) = true := by kernel_rfl
/-- the number that a cell holds -/
def numAt (w : World) (g i : Nat) : Nat := match w.cell? ⟨g, i, none⟩ with
  | some (.int .i64 k) => k.toNat
  | _ => 0
theorem gRounds : Tryd.prog.globalNamed "keyhole/digest.rounds" = some 0 := by kernel_rfl
theorem tRounds : (Tryd.prog.globals[0]?).map (·.type) = some 94 := by kernel_rfl
theorem of_laid {W : World} (h : laidMetH Tryd.prog laidL W) : ∃ K, RoundsAt K W := by
  rw [MakeChecks.laidMetH_plain _ _ _ (by kernel_rfl)] at h
  obtain ⟨ps, ⟨g0, t0, cs0, f0, p0, q0, hg0, ht0, hv0, hd0, _⟩, _⟩ := h
  obtain rfl := Option.some.inj (gRounds.symm.trans hg0)
  obtain rfl := Option.some.inj (tRounds.symm.trans ht0)
  have c3 : Tryd.prog.cellsOf 3 = 1 := by kernel_rfl
  obtain ⟨xs, m1, rfl, hx1, hlen, hn3, hel⟩ := DataW.trod_array Tryd.underlying94 hd0
  simp only [Prod.mk.injEq] at hx1
  have hw : ∀ d ∈ xs.map (·.1), isWord d = true := by
    have := laid_words
    rw [hx1.1] at this
    exact List.all_eq_true.1 this
  have hcell : ∀ i, i < 64 → ∃ k : Int, W.cell? ⟨0, i, none⟩ = some (.int .i64 k) ∧ 0 ≤ k ∧ k < 4294967296 := by
    intro i hi
    have h0 := hel i hi
    obtain ⟨y, hy⟩ : ∃ y, xs[i]? = some y := ⟨_, List.getElem?_eq_getElem (by omega)⟩
    rw [hy] at h0
    obtain ⟨k, e1, e2, _⟩ := DataW.trod_int Tryd.underlying3 h0
    have hm := hw y.1 (List.mem_map.2 ⟨y, List.mem_of_getElem? hy, rfl⟩)
    rw [e2] at hm
    have hk : 0 ≤ k ∧ k < 4294967296 := by
      have : (decide (0 ≤ k) && decide (k < 4294967296)) = true := hm
      simpa using this
    refine ⟨k, ?_, hk⟩
    rw [World.var?_cell hg0 hv0 i]
    rw [c3, Nat.mul_one] at e1
    have : cs0.toList[i]? = some (.int .i64 k) := by
      have h2 := congrArg (fun l => l[0]?) e1
      simpa [List.getElem?_take, List.getElem?_drop] using h2
    simpa using this
  refine ⟨numAt W 0, ?_, fun i hi => ?_⟩
  · obtain ⟨k, hk, _⟩ := hcell 0 (by omega)
    have := World.block_lt_of_cell? W _ hk
    exact Nat.lt_of_le_of_lt (Nat.zero_le _) this
  · obtain ⟨k, hk, h1, h2⟩ := hcell i hi
    have e : numAt W 0 i = k.toNat := by unfold numAt; rw [hk]
    rw [e, hk]
    exact ⟨by rw [Int.toNat_of_nonneg h1], by omega⟩
end Go.Proofs.YtdeoibgedjbeiaaDoor
/- The walk of TopSecret, whole. -/
namespace Go.Proofs.YtdeoibgedjbeiaaDoor
open Go.RowKit
open KH (StrsIn BoolsIn)

set_option maxHeartbeats 1000000 in
set_option maxRecDepth 100000 in
theorem walk (K : Nat → Nat) {w : World} (s : ByteArray) (w0 : s.size ≤ 9223372036854775807) (o : ByteArray) (w1 : o.size ≤ 9223372036854775807) (n : Int) (k : Int) (t : ByteArray) (w4 : t.size ≤ 9223372036854775807)
    {A5 A6 : Option Addr} {m5 m6 c5 c6 : Nat} {l5 : List ByteArray} {wh : List Bool} (w5 : StrsIn w A5 m5 c5 l5) (w6 : BoolsIn w A6 m6 c6 wh) (hK : RoundsAt K w) :
    Calls Tryd.prog 3 #[.string s, .string o, .int .i64 n, .int .i64 k, .string t, .slice A5 m5 c5, .slice A6 m6 c6] w fun e w' => e = .returned (.bool true) ∧ Below w.heap.size w w' := by
  obtain ⟨_, hmc5, hcm5, hl5, h5⟩ := w5
  obtain ⟨_, hmc6, hcm6, h6⟩ := w6
  have hm5 : m5 ≤ 9223372036854775807 := by unfold maxLen at hcm5; omega
  have hm6 : m6 ≤ 9223372036854775807 := by unfold maxLen at hcm6; omega
  have hm5' : m5 ≤ maxLen := by omega
  by_cases hgo : shrt [s, o] = true ∧ t.size ≤ 400 ∧ (n ≤ 10 ∨ (10 < n ∧ 255 < n)) ∧ m6 ≤ 30 ∧ m5 ≤ 20 ∧ shrt l5 = true
  · obtain ⟨g1, g2, g3, g4, g5, g6⟩ := hgo
    have hs2 : s.size ≤ 200 := shrt_mem g1 (by simp)
    have ho2 : o.size ≤ 200 := shrt_mem g1 (by simp)
    by_cases hR : remapNo s o t n k wh
    · exact top_no s o n k t hs2 ho2 g2 g3 g5 g4 hl5 g6 h5 h6 hR
    · obtain ⟨n', k', f, rfl, rfl, q1, q2, q3, q4, q5, q6, q7⟩ := remap_else hR
      exact top_yes K s o n' k' f t hK q2 q1 g2 (by omega) q5 q6 q3 q7 g5 g4 hl5 g6 h5 h6
  · have hb1 := (Below.refl w.heap.size w).alloc (Nat.le_refl _) (.cells #[.string s, .string o] 9)
    have hlit := strs_lit w s o 9 _ rfl
    have h51 := h5.alloc (Nat.le_refl _) (.cells #[.string s, .string o] 9)
    have hl0 : ∀ x ∈ [s, o], x.size ≤ maxLen := by intro x hx; simp at hx; unfold maxLen; rcases hx with rfl | rfl <;> omega
    have HL := KH.hid (And.intro hl0 hl5)
    clear hl0 hl5 h5 h6 hmc5 hcm5 hmc6 hcm6 hK
    cases g1 : shrt [s, o]
    · have HG := KH.hid g1
      clear g1 hgo
      go_enter Tryd.func3, Tryd.ntmps3
      go_wp2_with fail
      refine (tshort_any _ hlit (by unfold maxLen; omega) HL.out.1).mono ?_; rintro e w2 ⟨rfl, rfl⟩
      rw [HG.out]
      go_wp2
      go_ret
      exact ⟨rfl, hb1⟩
    · have HG := KH.hid g1
      rw [g1] at hgo
      clear g1
      by_cases g2 : t.size ≤ 400
      · have d2 : decide ((400 : Int) < (t.size : Int)) = false := by rw [decide_eq_false_iff_not]; omega
        by_cases g3 : 10 < n ∧ n ≤ 255
        · obtain ⟨x1, x2⟩ := g3
          clear hgo
          go_enter Tryd.func3, Tryd.ntmps3
          go_wp2_with fail
          refine (tshort_any _ hlit (by unfold maxLen; omega) HL.out.1).mono ?_; rintro e w2 ⟨rfl, rfl⟩
          rw [HG.out]
          go_wp2
          go_ret
          exact ⟨rfl, hb1⟩
        · have g3' : n ≤ 10 ∨ (10 < n ∧ 255 < n) := by omega
          by_cases g4 : m6 ≤ 30
          · have d4 : decide ((30 : Int) < (m6 : Int)) = false := by rw [decide_eq_false_iff_not]; omega
            by_cases g5 : m5 ≤ 20
            · have d5 : decide ((20 : Int) < (m5 : Int)) = false := by rw [decide_eq_false_iff_not]; omega
              have g6 : shrt l5 = false := by
                cases hq : shrt l5
                · rfl
                · exact absurd ⟨rfl, g2, g3', g4, g5, hq⟩ hgo
              have HH := KH.hid g6
              clear hgo g6 g3
              rcases g3' with x1 | ⟨x1, x2⟩
              all_goals
                go_enter Tryd.func3, Tryd.ntmps3
                go_wp2_with fail
                refine (tshort_any _ hlit (by unfold maxLen; omega) HL.out.1).mono ?_; rintro e w2 ⟨rfl, rfl⟩
                rw [HG.out]
                generalize w.alloc (.cells #[.string s, .string o] 9) = w1 at *
                go_wp2_with fail
                refine (tshort_any _ h51 hm5' HL.out.2).mono ?_; rintro e w2 ⟨rfl, rfl⟩
                rw [HH.out]
                go_wp2
                go_ret
                exact ⟨rfl, hb1⟩
            · have d5 : decide ((20 : Int) < (m5 : Int)) = true := by rw [decide_eq_true_iff]; omega
              clear hgo g3
              rcases g3' with x1 | ⟨x1, x2⟩
              all_goals
                go_enter Tryd.func3, Tryd.ntmps3
                go_wp2_with fail
                refine (tshort_any _ hlit (by unfold maxLen; omega) HL.out.1).mono ?_; rintro e w2 ⟨rfl, rfl⟩
                rw [HG.out]
                go_wp2
                go_ret
                exact ⟨rfl, hb1⟩
          · have d4 : decide ((30 : Int) < (m6 : Int)) = true := by rw [decide_eq_true_iff]; omega
            clear hgo g3
            rcases g3' with x1 | ⟨x1, x2⟩
            all_goals
              go_enter Tryd.func3, Tryd.ntmps3
              go_wp2_with fail
              refine (tshort_any _ hlit (by unfold maxLen; omega) HL.out.1).mono ?_; rintro e w2 ⟨rfl, rfl⟩
              rw [HG.out]
              go_wp2
              go_ret
              exact ⟨rfl, hb1⟩
      · have d2 : decide ((400 : Int) < (t.size : Int)) = true := by rw [decide_eq_true_iff]; omega
        clear hgo
        go_enter Tryd.func3, Tryd.ntmps3
        go_wp2_with fail
        refine (tshort_any _ hlit (by unfold maxLen; omega) HL.out.1).mono ?_; rintro e w2 ⟨rfl, rfl⟩
        rw [HG.out]
        go_wp2
        go_ret
        exact ⟨rfl, hb1⟩
end Go.Proofs.YtdeoibgedjbeiaaDoor
