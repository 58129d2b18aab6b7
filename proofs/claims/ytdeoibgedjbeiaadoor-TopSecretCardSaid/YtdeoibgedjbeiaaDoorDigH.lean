/- The walk of digest.Sum. -/
import Derived.Test.YtdeoibgedjbeiaaDoorDigG
namespace Go.Proofs.YtdeoibgedjbeiaaDoor
open Go.RowKit Go.Shelf
attribute [local go_sem] Oper.semAt_some

abbrev startL : Array Value := #[.int .i64 1779033703, .int .i64 3144134277, .int .i64 1013904242, .int .i64 2773480762, .int .i64 1359893119, .int .i64 2600822924, .int .i64 528734635, .int .i64 1541459225]
theorem start_lit (w : World) : Calls Tryd.prog 46 #[] w fun e w' => e = .returned (.agg startL) ∧ Below w.heap.size w w' := by
  refine (start_yes w).mono fun e w' ⟨he, hb⟩ => ⟨?_, hb⟩
  rw [he, ← startV_arr]
/-- the state behind blocks -/
def stF (K : Nat → Nat) (pre : List B64) : Nat → Nat := pre.foldl (fun st (x : B64) => stepV K st x.1) startV
theorem stF_snoc (K : Nat → Nat) (pre : List B64) (x : B64) : stF K (pre ++ [x]) = stepV K (stF K pre) x.1 := by unfold stF; rw [List.foldl_append]; rfl
theorem startV_lt : W8 startV := by
  intro j hj
  match j, hj with
  | 0, _ => decide
  | 1, _ => decide
  | 2, _ => decide
  | 3, _ => decide
  | 4, _ => decide
  | 5, _ => decide
  | 6, _ => decide
  | 7, _ => decide
theorem stF_lt (K : Nat → Nat) (pre : List B64) : W8 (stF K pre) := by
  rcases List.eq_nil_or_concat pre with rfl | ⟨p, x, rfl⟩
  · exact startV_lt
  · rw [List.concat_eq_append, stF_snoc]; exact stepV_lt _ _ _
def L8 (s : Nat → Nat) : List Nat := [s 0, s 1, s 2, s 3, s 4, s 5, s 6, s 7]
/-- the digest of a text -/
def sumV (K : Nat → Nat) (s : ByteArray) : ByteArray := joV true (L8 (stF K (allB64 s (padV s.size))))
theorem sumV_size (K : Nat → Nat) (s : ByteArray) : (sumV K s).size = 32 := by unfold sumV; rw [joV_size]; rfl
theorem padV_size (n : Nat) : (padV n).size = 1 + padZ n + 8 := tx_size _ _
theorem pad_fits (n : Nat) : (n + (padV n).size) % 64 = 0 := by rw [padV_size]; unfold padZ; omega

theorem rounds_below {K : Nat → Nat} {B : Nat} {w w' : World} (h : RoundsAt K w) (hb : Below B w w') (hB : 0 < B) : RoundsAt K w' :=
  ⟨Nat.lt_of_lt_of_le h.1 hb.size, fun i hi => ⟨(hb.cell (p := ⟨0, i, none⟩) hB).trans (h.2 i hi).1, (h.2 i hi).2⟩⟩
theorem keeps_of_below {W W' : World} (h : Below W.heap.size W W') : KeepsOthers W W' :=
  ⟨h.size, fun k _ ho _ => (h.block k (Array.getElem?_eq_some_iff.1 ho).1).trans ho⟩
theorem set8 {W : World} {g : Nat} {t : TypeId} {s : Nat → Nat} (h : KH.Blk W g t (S8 s)) (v : Nat → Nat) :
    KH.Blk ((((((((W.setCell ⟨g, 0, none⟩ (.int .i64 (v 0 : Nat))).setCell ⟨g, 1, none⟩ (.int .i64 (v 1 : Nat))).setCell ⟨g, 2, none⟩ (.int .i64 (v 2 : Nat))).setCell ⟨g, 3, none⟩ (.int .i64 (v 3 : Nat))).setCell ⟨g, 4, none⟩ (.int .i64 (v 4 : Nat))).setCell ⟨g, 5, none⟩ (.int .i64 (v 5 : Nat))).setCell ⟨g, 6, none⟩ (.int .i64 (v 6 : Nat))).setCell ⟨g, 7, none⟩ (.int .i64 (v 7 : Nat))) g t (S8 v) ∧ KeepsOthers W ((((((((W.setCell ⟨g, 0, none⟩ (.int .i64 (v 0 : Nat))).setCell ⟨g, 1, none⟩ (.int .i64 (v 1 : Nat))).setCell ⟨g, 2, none⟩ (.int .i64 (v 2 : Nat))).setCell ⟨g, 3, none⟩ (.int .i64 (v 3 : Nat))).setCell ⟨g, 4, none⟩ (.int .i64 (v 4 : Nat))).setCell ⟨g, 5, none⟩ (.int .i64 (v 5 : Nat))).setCell ⟨g, 6, none⟩ (.int .i64 (v 6 : Nat))).setCell ⟨g, 7, none⟩ (.int .i64 (v 7 : Nat))) ∧ (∀ B, B ≤ g → Below B W ((((((((W.setCell ⟨g, 0, none⟩ (.int .i64 (v 0 : Nat))).setCell ⟨g, 1, none⟩ (.int .i64 (v 1 : Nat))).setCell ⟨g, 2, none⟩ (.int .i64 (v 2 : Nat))).setCell ⟨g, 3, none⟩ (.int .i64 (v 3 : Nat))).setCell ⟨g, 4, none⟩ (.int .i64 (v 4 : Nat))).setCell ⟨g, 5, none⟩ (.int .i64 (v 5 : Nat))).setCell ⟨g, 6, none⟩ (.int .i64 (v 6 : Nat))).setCell ⟨g, 7, none⟩ (.int .i64 (v 7 : Nat)))) ∧ (∀ p : Addr, p.block ≠ g → (((((((((W.setCell ⟨g, 0, none⟩ (.int .i64 (v 0 : Nat))).setCell ⟨g, 1, none⟩ (.int .i64 (v 1 : Nat))).setCell ⟨g, 2, none⟩ (.int .i64 (v 2 : Nat))).setCell ⟨g, 3, none⟩ (.int .i64 (v 3 : Nat))).setCell ⟨g, 4, none⟩ (.int .i64 (v 4 : Nat))).setCell ⟨g, 5, none⟩ (.int .i64 (v 5 : Nat))).setCell ⟨g, 6, none⟩ (.int .i64 (v 6 : Nat))).setCell ⟨g, 7, none⟩ (.int .i64 (v 7 : Nat)))).cell? p = W.cell? p) := by
  have h8 := (KH.Blk.set_ (KH.Blk.set_ (KH.Blk.set_ (KH.Blk.set_ (KH.Blk.set_ (KH.Blk.set_ (KH.Blk.set_ (KH.Blk.set_ h 0 (.int .i64 (v 0 : Nat))) 1 (.int .i64 (v 1 : Nat))) 2 (.int .i64 (v 2 : Nat))) 3 (.int .i64 (v 3 : Nat))) 4 (.int .i64 (v 4 : Nat))) 5 (.int .i64 (v 5 : Nat))) 6 (.int .i64 (v 6 : Nat))) 7 (.int .i64 (v 7 : Nat)))
  simp only [S8, List.setIfInBounds_toArray, List.set_cons_zero, List.set_cons_succ] at h8
  refine ⟨h8, ((((((((KeepsOthers.refl W).trans (KeepsOthers.setCell _ _ _)).trans (KeepsOthers.setCell _ _ _)).trans (KeepsOthers.setCell _ _ _)).trans (KeepsOthers.setCell _ _ _)).trans (KeepsOthers.setCell _ _ _)).trans (KeepsOthers.setCell _ _ _)).trans (KeepsOthers.setCell _ _ _)).trans (KeepsOthers.setCell _ _ _), fun B hB => ((((((((Below.refl B W).setCell (p := ⟨g, 0, none⟩) hB _).setCell (p := ⟨g, 1, none⟩) hB _).setCell (p := ⟨g, 2, none⟩) hB _).setCell (p := ⟨g, 3, none⟩) hB _).setCell (p := ⟨g, 4, none⟩) hB _).setCell (p := ⟨g, 5, none⟩) hB _).setCell (p := ⟨g, 6, none⟩) hB _).setCell (p := ⟨g, 7, none⟩) hB _, fun p hp => ?_⟩
  repeat rw [World.cell?_setCell_other _ _ _ _ (fun e => hp (by rw [← e]))]
/-- what the rounds keep -/
def SumI (K : Nat → Nat) (gS : Nat) (w : World) (pre : List B64) (W : World) : Prop := KH.Blk W gS 84 (S8 (stF K pre)) ∧ RoundsAt K W ∧ Below w.heap.size w W ∧ gS + 3 ≤ W.heap.size
theorem sumI_own (K : Nat → Nat) (gS : Nat) (w : World) (B : Nat) (hB : w.heap.size ≤ B) : OwnFrom B (SumI K gS w) := by
  intro s A A' row hs hg hr
  have hr' : ∀ r, row = some r → ∃ o : Obj, A.heap[r]? = some o ∧ o.isCells = false := fun r e => (hr r e).2
  refine ⟨hs.1.grown hg (fun e => ?_), ⟨Nat.lt_of_lt_of_le hs.2.1.1 hg.size, fun i hi => ⟨cell_kept (hs.2.1.2 i hi).1 hg hr', (hs.2.1.2 i hi).2⟩⟩, hs.2.2.1.grown hg hs.2.2.1.size (fun k e => Nat.le_trans hB (hr k e).1), Nat.le_trans hs.2.2.2 hg.size⟩
  obtain ⟨_, o, ho, hc⟩ := hr gS e.symm
  have h1 := hs.1
  unfold KH.Blk at h1
  rw [h1] at ho
  injection ho with ho
  rw [← ho] at hc
  exact absurd hc (by simp [Obj.isCells])
set_option maxHeartbeats 2000000 in
set_option maxRecDepth 100000 in
theorem dsum_any (K : Nat → Nat) (s : ByteArray) (w : World) (hK : RoundsAt K w) (hs : s.size ≤ 900000) :
    Calls Tryd.prog 36 #[.string s] w fun e w' => e = .returned (.string (sumV K s)) ∧ Below w.heap.size w w' := by
  refine (callsIn_wide (n := 5)).1 ?_
  refine callsIn_of_wp_marks Tryd.func36 rfl trivial ?_ rfl
  simp only [Tryd.ntmps36, List.size_toArray, List.length_cons, List.length_nil, Nat.reduceAdd, Nat.reduceSub, Array.replicate_succ, Array.replicate_zero, List.push_toArray, List.append_toArray, List.nil_append, List.cons_append]
  gi_wp2_with (first
    | (refine ⟨trivial, ?_⟩; gi_at_call 45; refine (callsIn_wide.2 (pad_yes s.size _ (by omega))).mono ?_; rintro e w1 ⟨rfl, hb1⟩)
    | (refine ⟨trivial, ?_⟩; gi_at_call 46; refine (callsIn_wide.2 (start_lit _)).mono ?_; rintro e w2 ⟨rfl, hb2⟩)
    | (refine ⟨trivial, ?_⟩; gi_at_call 47; refine (callsIn_wide.2 (blocks_yes _ _ _)).mono ?_; rintro e w3 ⟨rfl, rfl⟩))
  have hz2 : w.heap.size ≤ w2.heap.size := Nat.le_trans hb1.size hb2.size
  have hW0 : KH.Blk (((w2.alloc (.cells startL 84)).alloc (.cells #[.string s] 9)).alloc (.cells #[.string (padV s.size)] 9)) w2.heap.size 84 (S8 (stF K [])) := by
    have h1 := ((KH.Blk.new w2 84 startL).alloc (.cells #[.string s] 9)).alloc (.cells #[.string (padV s.size)] 9)
    have e : startL = S8 (stF K []) := startV_arr
    rw [e] at h1 ⊢
    exact h1
  have hc1 : (((w2.alloc (.cells startL 84)).alloc (.cells #[.string s] 9)).alloc (.cells #[.string (padV s.size)] 9)).cell? ⟨w2.heap.size + 1, 0, none⟩ = some (.string s) := by
    rw [World.cell?_alloc_lt _ _ _ (by show w2.heap.size + 1 < _; simp), World.cell?_alloc_at _ _ _ _ (by simp)]; rfl
  have hc2 : (((w2.alloc (.cells startL 84)).alloc (.cells #[.string s] 9)).alloc (.cells #[.string (padV s.size)] 9)).cell? ⟨w2.heap.size + 1 + 1, 0, none⟩ = some (.string (padV s.size)) := by
    rw [World.cell?_alloc_at _ _ _ _ (by simp)]; rfl
  have hB3 : Below w.heap.size w (((w2.alloc (.cells startL 84)).alloc (.cells #[.string s] 9)).alloc (.cells #[.string (padV s.size)] 9)) :=
    (((hb1.trans (hb2.mono hb1.size)).alloc hz2 (.cells startL 84)).alloc (by simp; omega) (.cells #[.string s] 9)).alloc (by simp; omega) (.cells #[.string (padV s.size)] 9)
  have hz3 : w2.heap.size + 3 ≤ (((w2.alloc (.cells startL 84)).alloc (.cells #[.string s] 9)).alloc (.cells #[.string (padV s.size)] 9)).heap.size := by simp
  have hp := padV_size s.size
  have hpz : padZ s.size < 64 := Nat.mod_lt _ (by omega)
  have hK0 := hK.1
  generalize (((w2.alloc (.cells startL 84)).alloc (.cells #[.string s] 9)).alloc (.cells #[.string (padV s.size)] 9)) = W3 at *
  have hI0 : SumI K w2.heap.size w [] W3 := ⟨hW0, rounds_below hK hB3 hK0, hB3, hz3⟩
  refine wpIn_rangeFunc_ownF rfl (by omega) (gf := 53) (lb := #[.pointer (some ⟨w2.heap.size + 1, 0, none⟩), .pointer (some ⟨w2.heap.size + 1 + 1, 0, none⟩)]) rfl trivial (enters_of Tryd.func53 (by kernel_rfl) rfl)
    (blocks_stops Fence.wide _ trivial rfl (by omega) (w2.heap.size + 1) (w2.heap.size + 1 + 1) s (padV s.size) W3 (by omega) (by omega) hc1 hc2 (by omega) (by omega) (pad_fits _)) (fun h k => Eq.trans k h) ?hKb (Below.refl _ _) (fun _ => rfl)
    (SumI K w2.heap.size w) (fun _ _ _ => False) (sumI_own K _ w _ (by omega)) (fun _ _ _ _ _ hs _ _ => hs) hI0
    (fun x => { tmps := #[.string s, undef, .string ⟨#[]⟩, .string (padV s.size), .bool true, .pointer (some ⟨w2.heap.size, 0, none⟩), .string x.1, undef, undef, .tuple #[.string (padV s.size), .bool true], .string s, .int .i64 s.size, .tuple #[.string (padV s.size), .bool true], .string (padV s.size), .bool true, .bool true, .bool false, .agg startL, .string s, .string (padV s.size), .func (.func 53) #[] #[.pointer (some ⟨w2.heap.size + 1, 0, none⟩), .pointer (some ⟨w2.heap.size + 1 + 1, 0, none⟩)], .string x.1, undef, undef, undef, undef, undef, undef, undef, undef, undef, undef, undef, undef], defers := [] }) ?assign ?body ?done ?stop
  case hKb =>
    intro W l o o' hl ho hc hw
    exact World.cell?_of_block (World.putObj_heap_other (by show w2.heap.size + 1 + 1 ≠ l; omega))
  case assign =>
    intro l x W K' hK'
    gi_wp2
    exact hK'
  case body =>
    rintro l pre x W ⟨hB, hR, hBl, hz3'⟩ _
    have hst := stF_lt K pre
    have hSt := stF_snoc K pre x
    have HS := KH.hid (And.intro hSt (And.intro hB (And.intro hR hBl)))
    have hw2 : w2.heap.size < W.heap.size := hB.lt
    have hw3 : w2.heap.size + 1 + 1 < W.heap.size := by omega
    have hcell : ∀ j, j < 8 → W.cell? ⟨w2.heap.size, j, none⟩ = some (.int .i64 (stF K pre j : Nat)) := fun j hj => (hB.cell j).trans ((List.getElem?_toArray).trans (bzW_get _ hj))
    have c0 := hcell 0 (by omega)
    have c1 := hcell 1 (by omega)
    have c2 := hcell 2 (by omega)
    have c3 := hcell 3 (by omega)
    have c4 := hcell 4 (by omega)
    have c5 := hcell 5 (by omega)
    have c6 := hcell 6 (by omega)
    have c7 := hcell 7 (by omega)
    have HStep : Hid (Calls Tryd.prog 48 #[.agg #[.int .i64 (stF K pre 0 : Nat), .int .i64 (stF K pre 1 : Nat), .int .i64 (stF K pre 2 : Nat), .int .i64 (stF K pre 3 : Nat), .int .i64 (stF K pre 4 : Nat), .int .i64 (stF K pre 5 : Nat), .int .i64 (stF K pre 6 : Nat), .int .i64 (stF K pre 7 : Nat)], .string x.1] W fun e w' => e = .returned (.tuple #[.agg #[.int .i64 (stepV K (stF K pre) x.1 0 : Nat), .int .i64 (stepV K (stF K pre) x.1 1 : Nat), .int .i64 (stepV K (stF K pre) x.1 2 : Nat), .int .i64 (stepV K (stF K pre) x.1 3 : Nat), .int .i64 (stepV K (stF K pre) x.1 4 : Nat), .int .i64 (stepV K (stF K pre) x.1 5 : Nat), .int .i64 (stepV K (stF K pre) x.1 6 : Nat), .int .i64 (stepV K (stF K pre) x.1 7 : Nat)], .bool true]) ∧ Below W.heap.size W w') := step_yes K (stF K pre) x.1 W hR hst x.2
    clear hcell hst hSt hB hR hBl
    gi_wp2_with (refine ⟨trivial, ?_⟩; gi_at_call 48; refine (CallsIn.inRound l (callsIn_wide.2 HStep.out)).mono ?_; rintro e W1 ⟨rfl, hb1⟩; have hB1 := HS.out.2.1.below hb1 hw2; have d0 := hB1.cell 0; have d1 := hB1.cell 1; have d2 := hB1.cell 2; have d3 := hB1.cell 3; have d4 := hB1.cell 4; have d5 := hB1.cell 5; have d6 := hB1.cell 6; have d7 := hB1.cell 7; have g0 := hB1.frozen 0; have g1 := hB1.frozen 1; have g2 := hB1.frozen 2; have g3 := hB1.frozen 3; have g4 := hB1.frozen 4; have g5 := hB1.frozen 5; have g6 := hB1.frozen 6; have g7 := hB1.frozen 7; simp only [S8, List.getElem?_toArray, List.getElem?_cons_zero, List.getElem?_cons_succ] at d0 d1 d2 d3 d4 d5 d6 d7)
    have hB1 := HS.out.2.1.below hb1 hw2
    obtain ⟨s1, s2, s3, s4⟩ := set8 hB1 (stepV K (stF K pre) x.1)
    have hz1 := hb1.size
    have hwb : w.heap.size ≤ W.heap.size := HS.out.2.2.2.size
    refine ⟨(keeps_of_below hb1).trans s2, ?_, ?_, ?_, ?_, ?_⟩
    · exact (s4 ⟨w2.heap.size + 1 + 1, 0, none⟩ (by show w2.heap.size + 1 + 1 ≠ w2.heap.size; omega)).trans (hb1.cell (p := ⟨w2.heap.size + 1 + 1, 0, none⟩) hw3)
    · rw [HS.out.1]; exact s1
    · exact rounds_below (rounds_below HS.out.2.2.1 hb1 (by omega)) (s3 w2.heap.size (Nat.le_refl _)) (by omega)
    · exact (HS.out.2.2.2.trans (hb1.mono hwb)).trans (s3 w.heap.size hz2)
    · exact Nat.le_trans (by omega) (s3 w.heap.size hz2).size
  case done =>
    rintro D xs W hD rfl ⟨hB, hR, hBl, hz3'⟩ hKD
    have hrd : KH.Reads W W.heap.size 1 (some ⟨w2.heap.size, 0, none⟩) 8 ((zi (L8 (stF K (allB64 s (padV s.size))))).map (.int .i64)) :=
      ⟨rfl, fun _ => ⟨_, rfl, hB.lt, fun j u hu => by rw [addr_at, hB.cell j]; exact (List.getElem?_toArray).trans hu⟩⟩
    have hlt := stF_lt K (allB64 s (padV s.size))
    have hL : ∀ x ∈ L8 (stF K (allB64 s (padV s.size))), x < 4294967296 := by
      intro x hx; unfold L8 at hx; simp at hx; rcases hx with rfl | rfl | rfl | rfl | rfl | rfl | rfl | rfl <;> exact hlt _ (by omega)
    have HJ := KH.hid (fun c => join_yes c hrd hL (by omega))
    have hsz := hBl.size
    have HV : Hid (joV true (L8 (stF K (allB64 s (padV s.size)))) = sumV K s) := rfl
    rw [HV.out] at HJ
    clear hrd hlt hL hB hR
    gi_wp2_with (refine ⟨trivial, ?_⟩; gi_at_call 49; refine (callsIn_wide.2 (HJ.out _)).mono ?_; rintro e W9 ⟨rfl, hb9⟩)
    have hDlt : D < W.heap.size := (Array.getElem?_eq_some_iff.1 hKD).1
    have hK9 : W9.heap[D]? = some (.deferred (some [])) := (hb9.block D hDlt).trans hKD
    refine ⟨by simp, .inl ⟨_, _, rfl, run_takeDeferred hK9, ?_⟩⟩
    refine ⟨_, results_tmp rfl _ _ _, rfl, ?_⟩
    exact (hBl.trans (hb9.mono hsz)).trans (belowK_b (n₀ := w.heap.size) (w := w) (Nat.le_refl _) W9 D _ _ (by have := hB3.size; omega) hK9 rfl rfl)
  case stop =>
    rintro D c pre W _ _ h _
    exact h.elim
end Go.Proofs.YtdeoibgedjbeiaaDoor
