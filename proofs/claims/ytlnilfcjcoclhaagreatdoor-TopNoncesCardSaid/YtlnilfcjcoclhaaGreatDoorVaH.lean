import Derived.Test.YtlnilfcjcoclhaaGreatDoorVaG
import Derived.Deep.CutRange
import Derived.Deep.RegionLaw
import Derived.Deep.DeepCutAuto
/- Package vault: Store. -/
namespace Go.Proofs.YtlnilfcjcoclhaaGreatDoor
open Go.RowKit Go.Shelf
attribute [local go_sem] Oper.semAt_some

set_option maxHeartbeats 4000000 in
set_option maxRecDepth 100000 in
theorem store_any (K : Nat → Nat) {w : World} {v u : Value} {S : List ByteArray} {lo n g a t : Nat} {Bl Bl' : List ByteArray} {deeds : Int} (h : PlIn w lo v S []) (hv : VaOk K S n g a Bl) (hm : MkIn S) (hu : VlIn w u Bl' (rootV K Bl')) (hl : Bl'.length = n) (hs : vSz Bl') (hK : RoundsAt K w)
    (ht : (deeds < 0 ∨ ((n + 5 : Nat) : Int) < deeds) ∧ t = n + 5 ∨ (deeds = (t : Int) ∧ t ≤ n + 5)) :
    Calls Tryz.prog 15 #[v, u, .int .i64 deeds] w fun e w' => ∃ v', e = .returned (.tuple #[v', .bool (decide (t = n + 5)), .int .i64 0]) ∧ PlIn w' w.heap.size v' (stoD K S n a g Bl' t).1 (stoD K S n a g Bl' t).2 ∧ Below w.heap.size w w' := by
  obtain ⟨i0, hi, hz0, hz1, hz2⟩ := info_parts str_info
  obtain ⟨i1, hi1, hy0, hy1, hy2⟩ := info_parts put_info
  have h00 := h
  have hu0 := hu
  obtain ⟨A1, c1, A2, c2, rfl, -, -, hS1, hC1⟩ := h
  obtain ⟨A3, c3, rfl, hrB⟩ := hu
  have hn' : 1 ≤ n ∧ n ≤ 64 := by obtain ⟨m, hm, h⟩ := cntB_nat hv.cnt; omega
  obtain ⟨rv, hrv⟩ : ∃ r, r = rootV K Bl := ⟨_, rfl⟩
  obtain ⟨ru, hru⟩ : ∃ r, r = rootV K Bl' := ⟨_, rfl⟩
  rw [hl, ← hru]
  obtain ⟨k3, k4, k5, k6, k7, k8, hb6, hz6⟩ := alloc6 w 35 48 3 35 4 41 #[.slice A1 S.length c1, .slice A2 0 c2] #[.slice A3 n c3, .string ru] #[.int .i64 deeds] #[.slice none 0 0, .slice none 0 0] #[.bool false] #[.int .i64 0] _ rfl
  have HO := KH.hid (open_vault K (h00.below hb6) hv (rounds_below hK hb6 hK.1))
  rw [← hrv] at HO
  have HX := KH.hid (And.intro h00 (And.intro hu0 (And.intro hv (And.intro hm (And.intro hs hK)))))
  have hg1 := hK.1
  have HR1 := KH.hid (And.intro hS1 (And.intro hC1 hrB))
  have hgl := hv.gen
  have hal := hv.area
  have HRV := KH.hid (And.intro hrv (And.intro hru hl))
  clear h00 hu0 hv hm hs hK hS1 hC1 hrB hrv hru hl
  refine (callsIn_wide (n := 5)).1 ?_
  refine callsIn_of_wp_marks Tryz.func15 rfl trivial ?_ rfl
  simp only [Tryz.ntmps15, List.size_toArray, List.length_cons, List.length_nil, Nat.reduceAdd, Nat.reduceSub, Array.replicate_succ, Array.replicate_zero, List.push_toArray, List.append_toArray, List.nil_append, List.cons_append]
  refine wpIn_wide.2 ?_
  go_wp2_with fail
  generalize (((((w.alloc (.cells #[.slice A1 S.length c1, .slice A2 0 c2] 35)).alloc (.cells #[.slice A3 n c3, .string ru] 48)).alloc (.cells #[.int .i64 deeds] 3)).alloc (.cells #[.slice none 0 0, .slice none 0 0] 35)).alloc (.cells #[.bool false] 4)).alloc (.cells #[.int .i64 0] 41) = W1 at *
  have hgg : w.heap.size < w.heap.size + 1 ∧ w.heap.size + 1 < w.heap.size + 1 + 1 ∧ w.heap.size + 1 + 1 < w.heap.size + 1 + 1 + 1 ∧ w.heap.size + 1 + 1 + 1 < w.heap.size + 1 + 1 + 1 + 1 ∧ w.heap.size + 1 + 1 + 1 + 1 < w.heap.size + 1 + 1 + 1 + 1 + 1 ∧ w.heap.size + 1 + 1 + 1 + 1 + 1 < W1.heap.size := by omega
  clear hz6
  generalize w.heap.size + 1 + 1 + 1 + 1 + 1 = g8 at *
  generalize w.heap.size + 1 + 1 + 1 + 1 = g7 at *
  generalize w.heap.size + 1 + 1 + 1 = g6 at *
  generalize w.heap.size + 1 + 1 = g5 at *
  generalize w.heap.size + 1 = g4 at *
  refine HO.out.mono ?_; rintro e w2 ⟨A, c, rfl, hvl, hlo, hb2⟩
  have hB2 := hb6.trans (hb2.mono hb6.size)
  have hs2 := hb2.size
  have x9 := (KH.Blk.new w2 73 #[.int .i64 n, .int .i64 a, .int .i64 g, .slice A n c, .string rv]).alloc (.cells #[.int .i64 0] 41)
  have x10 := KH.Blk.new (w2.alloc (.cells #[.int .i64 n, .int .i64 a, .int .i64 g, .slice A n c, .string rv] 73)) 41 #[.int .i64 0]
  have hz3 : (w2.alloc (.cells #[.int .i64 n, .int .i64 a, .int .i64 g, .slice A n c, .string rv] 73)).heap.size = w2.heap.size + 1 := by simp
  have hz4 : ((w2.alloc (.cells #[.int .i64 n, .int .i64 a, .int .i64 g, .slice A n c, .string rv] 73)).alloc (.cells #[.int .i64 0] 41)).heap.size = w2.heap.size + 2 := by simp
  rw [hz3] at x10
  have hb24 : Below w2.heap.size w2 ((w2.alloc (.cells #[.int .i64 n, .int .i64 a, .int .i64 g, .slice A n c, .string rv] 73)).alloc (.cells #[.int .i64 0] 41)) := ((Below.refl _ _).alloc (Nat.le_refl _) _).alloc (by omega) _
  have hB4 := hB2.trans (hb24.mono (Nat.le_trans hb6.size hs2))
  have hb14 := hb2.trans (hb24.mono hs2)
  have hM4 : StM ((w2.alloc (.cells #[.int .i64 n, .int .i64 a, .int .i64 g, .slice A n c, .string rv] 73)).alloc (.cells #[.int .i64 0] 41)) w.heap.size g4 g5 g6 g7 g8 w2.heap.size (w2.heap.size + 1) (.slice A1 S.length c1) (.slice A2 0 c2) #[.slice A3 n c3, .string ru] #[.int .i64 n, .int .i64 a, .int .i64 g, .slice A n c, .string rv] deeds :=
    ⟨k3.below hb14 k3.lt, k4.below hb14 k4.lt, k5.below hb14 k5.lt, k6.below hb14 k6.lt, k7.below hb14 k7.lt, k8.below hb14 k8.lt, x9, x10⟩
  clear x9 x10 k3 k4 k5 k6 k7 k8 hvl hlo hb14 hb24 hB2 hb6 hb2 hz3 HO
  have HVU := KH.hid (HX.out.2.1.below hB4)
  have HCK := KH.hid (vcheck_yes HVU.out (by rw [HRV.out.2.2]; exact HX.out.2.2.1.cnt) (rootV_size K Bl' (by rw [HRV.out.2.2]; omega)) HX.out.2.2.2.2.1)
  rw [HRV.out.2.2, ← HRV.out.2.1] at HCK HVU
  have c10 := hM4.b10.cell 0
  have c40 := hM4.b4.cell 0
  have c41 := hM4.b4.cell 1
  simp only [List.getElem?_toArray, List.getElem?_cons_zero, List.getElem?_cons_succ] at c10 c40 c41
  have hlt9 : g8 < w2.heap.size := by omega
  obtain ⟨g9, hg9⟩ : ∃ q, q = w2.heap.size := ⟨_, rfl⟩
  obtain ⟨g10, hg10⟩ : ∃ q, q = w2.heap.size + 1 := ⟨_, rfl⟩
  have ho : w.heap.size < g4 ∧ g4 < g5 ∧ g5 < g6 ∧ g6 < g7 ∧ g7 < g8 ∧ g8 < g9 ∧ g9 < g10 := by omega
  have HO2 := KH.hid ho
  have hM5 := hM4
  rw [← hg10, ← hg9] at hM5
  have HM4 := KH.hid hM5
  have HW4 := KH.hid (And.intro hz4 (And.intro hg9 hg10))
  clear hM4 hM5 hz4 hg9 hg10
  go_wp2_with fail
  obtain ⟨W4, hW4⟩ : ∃ W, W = (w2.alloc (.cells #[.int .i64 n, .int .i64 a, .int .i64 g, .slice A n c, .string rv] 73)).alloc (.cells #[.int .i64 0] 41) := ⟨_, rfl⟩
  rw [← HW4.out.2.2, ← HW4.out.2.1, ← hW4]
  rw [← hW4] at HCK HVU HM4 hB4 HW4
  have hz4 : g10 < W4.heap.size := by have := HW4.out; omega
  refine HCK.out.mono ?_; rintro e w5 ⟨rfl, hb5⟩
  have hM5 := HM4.out.below hb5 ⟨ho.1, ho.2.1, ho.2.2.1, ho.2.2.2.1, ho.2.2.2.2.1, ho.2.2.2.2.2.1, ho.2.2.2.2.2.2, hz4⟩
  have hB5 := hB4.trans (hb5.mono hB4.size)
  have hs5 := hb5.size
  have HRT := KH.hid (rooted_yes (v := .agg #[.slice A3 n c3, .string ru]) K (Bl := Bl') (w := w5) (by rw [← HRV.out.2.1]; exact HVU.out.below hb5) (by rw [HRV.out.2.2]; exact HX.out.2.2.1.cnt) HX.out.2.2.2.2.1 (rounds_below HX.out.2.2.2.2.2 hB5 hg1))
  have c40 : w5.cell? ⟨g4, 0, none⟩ = some (.slice A3 n c3) := hM5.b4.cell 0
  have c41 : w5.cell? ⟨g4, 1, none⟩ = some (.string ru) := hM5.b4.cell 1
  have c90 : w5.cell? ⟨g9, 0, none⟩ = some (.int .i64 n) := hM5.b9.cell 0
  have HM5 := KH.hid hM5
  clear hM5 hb5 HCK hW4 c10
  go_wp2_with fail
  refine HRT.out.mono ?_; rintro e w6 ⟨rfl, hb6⟩
  have hM6 := HM5.out.below hb6 ⟨ho.1, ho.2.1, ho.2.2.1, ho.2.2.2.1, ho.2.2.2.2.1, ho.2.2.2.2.2.1, ho.2.2.2.2.2.2, (show g10 < w5.heap.size by omega)⟩
  have hB6 := hB5.trans (hb6.mono hB5.size)
  have hs6 := hb6.size
  have c92 : w6.cell? ⟨g9, 2, none⟩ = some (.int .i64 g) := hM6.b9.cell 2
  have c90' : w6.cell? ⟨g9, 0, none⟩ = some (.int .i64 n) := hM6.b9.cell 0
  have c50 : w6.cell? ⟨g5, 0, none⟩ = some (.int .i64 deeds) := hM6.b5.cell 0
  have f50 : w6.frozen? ⟨g5, 0, none⟩ = false := hM6.b5.frozen 0
  have d92 : ((g : Int) == 1000000000) = false := by rw [beq_eq_false_iff_ne]; omega
  have HM6 := KH.hid hM6
  clear hM6 hb6 HRT c40 c41 c90
  go_upto_region 11 with fail
  go_cut [58] from 52 to 57 (fun b wx => b = .bool (decide (deeds < 0 ∨ ((n + 5 : Nat) : Int) < deeds)) ∧ wx = w6)
  case first =>
    by_cases q0 : deeds < 0
    · have b0 : decide (deeds < 0) = true := by rw [decide_eq_true_iff]; exact q0
      go_wp2_with fail
      go_meet
      exact ⟨congrArg Value.bool (decide_eq_true (p := deeds < 0 ∨ ((n + 5 : Nat) : Int) < deeds) (.inl q0)).symm, rfl⟩
    · have b0 : decide (deeds < 0) = false := by rw [decide_eq_false_iff_not]; exact q0
      by_cases q1 : (n : Int) + 1 + 4 < deeds
      · have b1 : decide ((n : Int) + 1 + 4 < deeds) = true := by rw [decide_eq_true_iff]; exact q1
        go_wp2_with fail
        go_meet
        exact ⟨congrArg Value.bool (decide_eq_true (p := deeds < 0 ∨ ((n + 5 : Nat) : Int) < deeds) (by omega)).symm, rfl⟩
      · have b1 : decide ((n : Int) + 1 + 4 < deeds) = false := by rw [decide_eq_false_iff_not]; exact q1
        go_wp2_with fail
        go_meet
        exact ⟨congrArg Value.bool (decide_eq_false (p := deeds < 0 ∨ ((n + 5 : Nat) : Int) < deeds) (by omega)).symm, rfl⟩
  case rest =>
    obtain ⟨rfl, rfl⟩ := hcut
    go_upto_if 58 with fail
    go_cut [] from 58 to 59 (fun wx => StM wx w.heap.size g4 g5 g6 g7 g8 g9 g10 (.slice A1 S.length c1) (.slice A2 0 c2) #[.slice A3 n c3, .string ru] #[.int .i64 n, .int .i64 a, .int .i64 g, .slice A n c, .string rv] (t : Int) ∧ Below w.heap.size w wx ∧ g10 < wx.heap.size)
    case first =>
      by_cases q : deeds < 0 ∨ ((n + 5 : Nat) : Int) < deeds
      · have b0 : decide (deeds < 0 ∨ ((n + 5 : Nat) : Int) < deeds) = true := by rw [decide_eq_true_iff]; exact q
        have et : t = n + 5 := by omega
        have hst := HM6.out.setD ho ((n : Int) + 1 + 4)
        have hbt := hB6.setCell (p := ⟨g5, 0, none⟩) (by show w.heap.size ≤ g5; omega) (.int .i64 ((n : Int) + 1 + 4))
        rw [b0]
        clear q b0
        go_wp2_with fail
        go_meet
        refine ⟨?_, hbt, by simp; omega⟩
        rw [et, show ((n + 5 : Nat) : Int) = (n : Int) + 1 + 4 by omega]
        exact hst
      · have b0 : decide (deeds < 0 ∨ ((n + 5 : Nat) : Int) < deeds) = false := by rw [decide_eq_false_iff_not]; exact q
        have et : deeds = (t : Int) := by omega
        rw [b0]
        clear q b0
        go_wp2_with fail
        go_meet
        refine ⟨?_, hB6, by omega⟩
        rw [← et]
        exact HM6.out
    case rest =>
      obtain ⟨hM, hB, hgw⟩ := hcut
      have hRS := HR1.out.1.below hB
      have hRC := KH.Reads.below HR1.out.2.1 hB
      have f0 : wc.cell? ⟨w.heap.size, 0, none⟩ = some (.slice A1 S.length c1) := hM.b3.cell 0
      have f1 : wc.cell? ⟨w.heap.size, 1, none⟩ = some (.slice A2 0 c2) := hM.b3.cell 1
      have f2 : wc.frozen? ⟨w.heap.size, 0, none⟩ = false := hM.b3.frozen 0
      have f3 : wc.frozen? ⟨w.heap.size, 1, none⟩ = false := hM.b3.frozen 1
      have hwc : w.heap.size ≤ wc.heap.size := by omega
      have h1c1 : ∀ u ∈ S.map Value.string, u.oneCell' = true := by intro u hu; obtain ⟨b, _, rfl⟩ := List.mem_map.1 hu; rfl
      have h2c1 : ∀ u ∈ shC [], u.oneCell' = true := by intro u hu; simp [shC] at hu
      have hSl : S.length ≤ 200 := HX.out.2.2.1.ok.2.1
      have HM := KH.hid hM
      clear hM
      go_upto_region 13 with fail
      go_cut [] from 60 to 66 (fun wx => ∃ As cs Ac cc, StM wx w.heap.size g4 g5 g6 g7 g8 g9 g10 (.slice As S.length cs) (.slice Ac 0 cc) #[.slice A3 n c3, .string ru] #[.int .i64 n, .int .i64 a, .int .i64 g, .slice A n c, .string rv] (t : Int) ∧ PlIn wx (g10 + 1) (.agg #[.slice As S.length cs, .slice Ac 0 cc]) S [] ∧ Below w.heap.size w wx ∧ g10 < wx.heap.size)
      case first =>
        refine wp_blind ?_
        go_region_law (first
          | (refine KH.step_append_any _ (by rfl) _ _ _ (by rfl) wc.heap.size 9 i0 _ 1 16 Tryz.underlying30 hi hz0 hz1 hz2 rfl (by omega) (.slice none 0 0) 0 [] (by rfl) ⟨by simp, .inl ⟨rfl, rfl⟩⟩ w.heap.size A1 S.length c1 _ (by rfl) (hRS.below (by first | exact (Below.refl w.heap.size wc).drew | exact (Below.refl w.heap.size wc).drew.grown hgrow2 hwc (fun _ h => by cases h))) h1c1 (by unfold maxLen; omega) (by omega) (by first | exact Nat.le_refl _ | exact hgrow2.size) ?_; intro vs ws hown1 hgrow1 hlies1; obtain ⟨As, cs, rfl⟩ := KH.own_form hown1; first | (have kZ1 := kZ2.grown hgrow1 (fun e => by cases e); have p0 : ws.cell? ⟨w.heap.size, 0, none⟩ = some (.slice A1 S.length c1) := kZ1.cell 0; have p1 : ws.cell? ⟨w.heap.size, 1, none⟩ = some (.slice A2 0 c2) := kZ1.cell 1; have p2 : ws.frozen? ⟨w.heap.size, 0, none⟩ = false := kZ1.frozen 0; have p3 : ws.frozen? ⟨w.heap.size, 1, none⟩ = false := kZ1.frozen 1) | (have kZ1 := HM.out.b3.drew.grown hgrow1 (fun e => by cases e); have p0 : ws.cell? ⟨w.heap.size, 0, none⟩ = some (.slice A1 S.length c1) := kZ1.cell 0; have p1 : ws.cell? ⟨w.heap.size, 1, none⟩ = some (.slice A2 0 c2) := kZ1.cell 1))
          | (refine KH.step_append_any _ (by rfl) _ _ _ (by rfl) wc.heap.size 122 i1 _ 2 24 Tryz.underlying33 hi1 hy0 hy1 hy2 rfl (by omega) (.slice none 0 0) 0 [] (by rfl) ⟨by simp, .inl ⟨rfl, rfl⟩⟩ w.heap.size A2 0 c2 _ (by rfl) (hRC.below (by first | exact (Below.refl w.heap.size wc).drew | exact (Below.refl w.heap.size wc).drew.grown hgrow1 hwc (fun _ h => by cases h))) h2c1 (by unfold maxLen; omega) (by omega) (by first | exact Nat.le_refl _ | exact hgrow1.size) ?_; intro vc wp hown2 hgrow2 hlies2; obtain ⟨Ac, cc, rfl⟩ := KH.own_form hown2; first | (have kZ2 := kZ1.grown hgrow2 (fun e => by cases e); have q0 : wp.cell? ⟨w.heap.size, 0, none⟩ = some (.slice A1 S.length c1) := kZ2.cell 0; have q1 : wp.cell? ⟨w.heap.size, 1, none⟩ = some (.slice A2 0 c2) := kZ2.cell 1; have q2 : wp.frozen? ⟨w.heap.size, 0, none⟩ = false := kZ2.frozen 0; have q3 : wp.frozen? ⟨w.heap.size, 1, none⟩ = false := kZ2.frozen 1) | (have kZ2 := HM.out.b3.drew.grown hgrow2 (fun e => by cases e); have q0 : wp.cell? ⟨w.heap.size, 0, none⟩ = some (.slice A1 S.length c1) := kZ2.cell 0; have q1 : wp.cell? ⟨w.heap.size, 1, none⟩ = some (.slice A2 0 c2) := kZ2.cell 1)))
        all_goals
          simp only [Nat.zero_add, List.nil_append] at hown1 hown2
          have hbx : Below wc.heap.size wc ws := (Below.refl wc.heap.size wc).drew.grown hgrow1 (Nat.le_refl _) (fun _ h => by cases h)
          have hby : Below ws.heap.size ws wp := (Below.refl ws.heap.size ws).grown hgrow2 (Nat.le_refl _) (fun _ h => by cases h)
          have hbz := hbx.trans (hby.mono hbx.size)
          have o1 := KH.own_below hown1 hby
          have hM2 := (HM.out.below hbz ⟨ho.1, ho.2.1, ho.2.2.1, ho.2.2.2.1, ho.2.2.2.2.1, ho.2.2.2.2.2.1, ho.2.2.2.2.2.2, hgw⟩).setP ho (.slice As S.length cs) (.slice Ac 0 cc)
          have hP0 : PlIn wp wc.heap.size (.agg #[.slice As S.length cs, .slice Ac 0 cc]) S [] := ⟨As, cs, Ac, cc, rfl, own_lo o1, own_lo hown2, KH.Reads.of_own o1, KH.Reads.of_own hown2⟩
          have hP2 := ((hP0.mono (show g10 + 1 ≤ wc.heap.size by omega)).setLow (p := ⟨w.heap.size, 0, none⟩) (by show w.heap.size < g10 + 1; omega) (.slice As S.length cs)).setLow (p := ⟨w.heap.size, 1, none⟩) (by show w.heap.size < g10 + 1; omega) (.slice Ac 0 cc)
          have hB2 := ((hB.trans (hbz.mono hwc)).setCell (p := ⟨w.heap.size, 0, none⟩) (Nat.le_refl _) (.slice As S.length cs)).setCell (p := ⟨w.heap.size, 1, none⟩) (Nat.le_refl _) (.slice Ac 0 cc)
          have hzz := hbz.size
          clear hown1 hown2 hgrow1 hgrow2 hlies1 hlies2 hbx hby hbz o1 hP0
          go_wp2_with fail
          go_meet
          exact ⟨As, cs, Ac, cc, hM2, hP2, hB2, by simp; omega⟩
      case rest =>
        obtain ⟨As, cs, Ac, cc, hM, hP, hB2, hgw2⟩ := hcut
        have m0 : wc.cell? ⟨g9, 0, none⟩ = some (.int .i64 n) := hM.b9.cell 0
        have m1 : wc.cell? ⟨g9, 1, none⟩ = some (.int .i64 a) := hM.b9.cell 1
        have m2 : wc.cell? ⟨g9, 2, none⟩ = some (.int .i64 g) := hM.b9.cell 2
        have m3 : wc.cell? ⟨g9, 3, none⟩ = some (.slice A n c) := hM.b9.cell 3
        have m4 : wc.cell? ⟨g9, 4, none⟩ = some (.string rv) := hM.b9.cell 4
        have m5 : wc.cell? ⟨g4, 0, none⟩ = some (.slice A3 n c3) := hM.b4.cell 0
        have m6 : wc.cell? ⟨g4, 1, none⟩ = some (.string ru) := hM.b4.cell 1
        clear HM hRS hRC f0 f1 f2 f3 h1c1 h2c1 hi hz0 hz1 hz2 hi1 hy0 hy1 hy2 HM6 HM5 HM4 c50 f50 c90' c92
        go_wp2_with fail
        refine (deeds_yes n a g c A c3 n A3 rv ru wc).mono ?_; rintro e w7 ⟨rfl, rfl⟩
        go_wp2_with fail
        obtain ⟨hkv, hkc, hbW, hzW⟩ := alloc2 wc 73 48 #[.int .i64 n, .int .i64 a, .int .i64 g, .slice A n c, .string rv] #[.slice A3 n c3, .string ru] _ rfl
        obtain ⟨hc, hhc⟩ : ∃ q, q = wc.heap.size := ⟨_, rfl⟩
        have hM7 := hM.below hbW ⟨ho.1, ho.2.1, ho.2.2.1, ho.2.2.2.1, ho.2.2.2.2.1, ho.2.2.2.2.2.1, ho.2.2.2.2.2.2, hgw2⟩
        have hP7 := hP.below hbW
        have hB7 := hB2.trans (hbW.mono hB2.size)
        have hR7 := HR1.out.2.2.below hB7
        rw [HRV.out.2.2] at hR7
        rw [← hhc] at hkv hkc hzW ⊢
        have hchg : g10 < hc := by omega
        have hn64 : n ≤ 64 := hn'.2
        have hcv : (((wc.alloc (.cells #[.int .i64 n, .int .i64 a, .int .i64 g, .slice A n c, .string rv] 73)).alloc (.cells #[.slice A3 n c3, .string ru] 48))).cell? ⟨hc + 1, 0, none⟩ = some (.slice A3 n c3) := hkc.cell 0
        clear hhc hP hM hB2 hbW hkc m0 m1 m2 m3 m4 m5 m6 hgw2 hwc hgw hB hs6 hB6 hs5 hz4 HW4 HVU c40 c41
        obtain ⟨W7, hW7⟩ : ∃ W, W = ((wc.alloc (.cells #[.int .i64 n, .int .i64 a, .int .i64 g, .slice A n c, .string rv] 73)).alloc (.cells #[.slice A3 n c3, .string ru] 48)) := ⟨_, rfl⟩
        rw [← hW7] at hM7 hP7 hB7 hR7 hkv hzW hcv ⊢
        clear hW7
        have hI0 : StI w g4 g5 g6 g7 g8 g9 g10 hc t n a S Bl' #[.slice A3 n c3, .string ru] #[.int .i64 n, .int .i64 a, .int .i64 g, .slice A n c, .string rv] [] W7 :=
          ⟨_, _, hM7, by rw [List.length_nil, stD_zero]; exact hP7, hkv, hB7, Nat.zero_le _⟩
        refine (wpIn_wide (n := 5)).1 ?_
        refine wpIn_rangeG rfl (by omega) (gf := 55) (lb := #[.pointer (some ⟨hc + 1, 0, none⟩), .pointer (some ⟨hc, 0, none⟩)]) rfl trivial (enters_of Tryz.func55 (by kernel_rfl) rfl)
          (deeds_seq Fence.wide _ trivial rfl (by omega) w.heap.size (hc + 1) hc n c3 A3 Bl' W7 (by omega) hcv hR7 hB7.size hn64) (fun h k => h.trans k) ?hKb ?hGb (Below.refl _ _) (fun _ => rfl)
          (StI w g4 g5 g6 g7 g8 g9 g10 hc t n a S Bl' #[.slice A3 n c3, .string ru] #[.int .i64 n, .int .i64 a, .int .i64 g, .slice A n c, .string rv])
          (fun _ W => StX w g6 g7 g8 g10 t n a S Bl' W) (stI_own _ _ _ _ _ _ _ _ _ _ _ _ _ _ _ _ _ (by have := hB7.size; omega)) (stX_own _ _ _ _ _ _ _ _ _ _ _ (by have := hB7.size; omega)) hI0 (fun x => { tmps := #[.agg #[.slice A1 S.length c1, .slice A2 0 c2], .agg #[.slice A3 n c3, .string ru], .int .i64 deeds, .pointer (some ⟨w.heap.size, 0, none⟩), .pointer (some ⟨g4, 0, none⟩), .pointer (some ⟨g5, 0, none⟩), .pointer (some ⟨g6, 0, none⟩), .pointer (some ⟨g7, 0, none⟩), .pointer (some ⟨g8, 0, none⟩), .pointer (some ⟨g9, 0, none⟩), .pointer (some ⟨g10, 0, none⟩), .int .i64 ((n : Int) + 1 + 4), ddV n hc x, .tuple #[.agg #[.int .i64 n, .int .i64 a, .int .i64 g, .slice A n c, .string rv], .int .i64 0], .agg #[.slice A1 S.length c1, .slice A2 0 c2], .tuple #[.agg #[.int .i64 n, .int .i64 a, .int .i64 g, .slice A n c, .string rv], .int .i64 0], .agg #[.int .i64 n, .int .i64 a, .int .i64 g, .slice A n c, .string rv], .int .i64 0, .bool false, .int .i64 0, .bool false, undef, undef, .bool false, .agg #[.slice A3 n c3, .string ru], .bool true, .bool false, .bool false, .pointer (some ⟨g4, 0, none⟩), .slice A3 n c3, .int .i64 n, .pointer (some ⟨g9, 0, none⟩), .pointer (some ⟨g9, 0, none⟩), .int .i64 n, .bool false, .bool false, undef, .bool false, .agg #[.slice A3 n c3, .string ru], .bool true, .bool false, undef, .bool false, .pointer (some ⟨g9, 2, none⟩), .int .i64 g, .bool false, undef, .pointer (some ⟨g9, 0, none⟩), .pointer (some ⟨g9, 0, none⟩), .int .i64 n, .int .i64 ((n : Int) + 1), .int .i64 ((n : Int) + 1 + 4), u52, u53, u54, u55, u56, u57, u58, u59, u60, u61, u62, u63, u64, u65, u66, .agg #[.int .i64 n, .int .i64 a, .int .i64 g, .slice A n c, .string rv], .agg #[.slice A3 n c3, .string ru], .func (.func 55) #[] #[.pointer (some ⟨(hc + 1), 0, none⟩), .pointer (some ⟨hc, 0, none⟩)], ddV n hc x, undef, undef, undef, undef, undef, undef, undef, undef, undef, undef, undef, undef, undef, undef, undef, undef, undef, undef, undef, undef, undef, undef, undef, undef, undef, undef, undef, undef, undef, undef, undef], defers := [] }) ?assign ?body ?done ?stop
        case assign =>
          intro l x W K' hK'
          unfold ddE
          gi_wp2
          exact hK'
        case hKb =>
          intro W l o o' hl ho' hc'
          exact belowPut W l o' (by have := hB7.size; omega)
        case hGb =>
          intro pre x W l o o' ho' hc' hG
          exact ⟨hG.1, fun h => ⟨blk_putOff (hG.2 h).1 ho' hc' o', blk_putOff (hG.2 h).2 ho' hc' o'⟩⟩
        case body =>
          rintro l pre x W ⟨X, Y, hM, hP, hk, hB, hle⟩ ⟨hx, hG⟩ hlen
          clear hI0 hM7 hP7 hkv hR7 hcv
          have hP9 := hP
          obtain ⟨A8, c8, A9, c9, hv8, -, -, -, -⟩ := hP9
          simp only [Value.agg.injEq, Array.mk.injEq, List.cons.injEq, and_true] at hv8
          obtain ⟨rfl, rfl⟩ := hv8
          have f30 : W.cell? ⟨w.heap.size, 0, none⟩ = some (.slice A8 (stD S n a Bl' pre.length).1.length c8) := hM.b3.cell 0
          have f31 : W.cell? ⟨w.heap.size, 1, none⟩ = some (.slice A9 (stD S n a Bl' pre.length).2.length c9) := hM.b3.cell 1
          have f50 : W.cell? ⟨g5, 0, none⟩ = some (.int .i64 ((t - pre.length : Nat) : Int)) := hM.b5.cell 0
          by_cases h0 : t - pre.length = 0
          · have b0 : (((t - pre.length : Nat) : Int) == 0) = true := by rw [beq_iff_eq]; omega
            have e0 : t = pre.length := by omega
            have z60 : W.frozen? ⟨g6, 0, none⟩ = false := hM.b6.frozen 0
            have z61 : W.frozen? ⟨g6, 1, none⟩ = false := hM.b6.frozen 1
            have z70 : W.frozen? ⟨g7, 0, none⟩ = false := hM.b7.frozen 0
            have z80 : W.frozen? ⟨g8, 0, none⟩ = false := hM.b8.frozen 0
            have z6 : W.cell? ⟨g6, 0, none⟩ = some (.slice none 0 0) := hM.b6.cell 0
            have z6b : W.cell? ⟨g6, 1, none⟩ = some (.slice none 0 0) := hM.b6.cell 1
            have z7 : W.cell? ⟨g7, 0, none⟩ = some (.bool false) := hM.b7.cell 0
            have z8 : W.cell? ⟨g8, 0, none⟩ = some (.int .i64 0) := hM.b8.cell 0
            have HS := KH.hid (And.intro hM (And.intro hP hB))
            clear hM hP hk hB hG
            gi_wp2
            exact stX_end ho HS.out.1 (by rw [e0]; exact HS.out.2.1) HS.out.2.2 (by omega)
          · have b0 : (((t - pre.length : Nat) : Int) == 0) = false := by rw [beq_eq_false_iff_ne]; omega
            have hlt : pre.length < t := by omega
            have z30 : ∀ W', Below W.heap.size W W' → KH.Blk W' w.heap.size 35 #[.slice A8 (stD S n a Bl' pre.length).1.length c8, .slice A9 (stD S n a Bl' pre.length).2.length c9] ∧ KH.Blk W' g10 41 #[.int .i64 0] ∧ KH.Blk W' g5 3 #[.int .i64 ((t - pre.length : Nat) : Int)] := fun W' hb => ⟨hM.b3.below hb hM.b3.lt, hM.b10.below hb hM.b10.lt, hM.b5.below hb hM.b5.lt⟩
            have HC : Hid ((x.1 < n → DeedC 56 #[.pointer (some ⟨hc, 0, none⟩), .pointer (some ⟨x.2.1, 0, none⟩), .pointer (some ⟨x.2.2, 0, none⟩)] (stD S n a Bl' (pre.length + 1)) (.slice A8 (stD S n a Bl' pre.length).1.length c8) (.slice A9 (stD S n a Bl' pre.length).2.length c9) W) ∧ (¬ x.1 < n → DeedC 46 #[] (stD S n a Bl' (pre.length + 1)) (.slice A8 (stD S n a Bl' pre.length).1.length c8) (.slice A9 (stD S n a Bl' pre.length).2.length c9) W)) :=
              KH.hid ⟨deed_vol HX.out.2.2.1.ok HX.out.2.2.1.size hal hn64 HX.out.2.2.2.2.1 hP hk hx hG, fun hxn => by
                have hkn : pre.length = n := by omega
                rw [hkn] at hP ⊢
                exact deed_syn HX.out.2.2.1.ok HX.out.2.2.1.size hal hn64 HX.out.2.2.2.2.1 hP⟩
            have HN := KH.hid (fun W1 X' Y' hb hP' => stI_next (n := n) (a := a) (S := S) (Bl := Bl') (X' := X') (Y' := Y') (W1 := W1) x ho hchg hM hk hB hlt hb hP')
            have HZ := KH.hid z30
            clear hM hP hk hB hG z30
            generalize stD S n a Bl' pre.length = D0 at *
            generalize stD S n a Bl' (pre.length + 1) = D1 at *
            have hdd0 : (0 : Int) ≤ ((t - pre.length : Nat) : Int) := by omega
            have hdd1 : ((t - pre.length : Nat) : Int) ≤ 100 := by omega
            generalize ((t - pre.length : Nat) : Int) = dd at *
            by_cases hxn : x.1 < n
            · rw [show ddV n hc x = .func (.func 56) #[] #[.pointer (some ⟨hc, 0, none⟩), .pointer (some ⟨x.2.1, 0, none⟩), .pointer (some ⟨x.2.2, 0, none⟩)] by unfold ddV; rw [if_pos hxn]]
              gi_wp2_with (refine ⟨trivial, ?_⟩; gi_at_call 56; refine (CallsIn.inRound l (callsIn_wide.2 (HC.out.1 hxn))).mono ?_; rintro e W1 ⟨B1, e1, B2, e2, rfl, hP1, hb1⟩; obtain ⟨y3, y10, y5⟩ := HZ.out W1 hb1; have v30 : W1.cell? ⟨w.heap.size, 0, none⟩ = some (.slice A8 D0.1.length c8) := y3.cell 0; have v31 : W1.cell? ⟨w.heap.size, 1, none⟩ = some (.slice A9 D0.2.length c9) := y3.cell 1; have v32 := y3.frozen 0; have v33 := y3.frozen 1; have va : W1.cell? ⟨g10, 0, none⟩ = some (.int .i64 0) := y10.cell 0; have vb := y10.frozen 0; have vc : W1.cell? ⟨g5, 0, none⟩ = some (.int .i64 dd) := y5.cell 0; have vd := y5.frozen 0; clear y3 y10 y5)
              exact HN.out _ _ _ hb1 hP1
            · rw [show ddV n hc x = .func (.func 46) #[] #[] by unfold ddV; rw [if_neg hxn]]
              gi_wp2_with (refine ⟨trivial, ?_⟩; gi_at_call 46; refine (CallsIn.inRound l (callsIn_wide.2 (HC.out.2 hxn))).mono ?_; rintro e W1 ⟨B1, e1, B2, e2, rfl, hP1, hb1⟩; obtain ⟨y3, y10, y5⟩ := HZ.out W1 hb1; have v30 : W1.cell? ⟨w.heap.size, 0, none⟩ = some (.slice A8 D0.1.length c8) := y3.cell 0; have v31 : W1.cell? ⟨w.heap.size, 1, none⟩ = some (.slice A9 D0.2.length c9) := y3.cell 1; have v32 := y3.frozen 0; have v33 := y3.frozen 1; have va : W1.cell? ⟨g10, 0, none⟩ = some (.int .i64 0) := y10.cell 0; have vb := y10.frozen 0; have vc : W1.cell? ⟨g5, 0, none⟩ = some (.int .i64 dd) := y5.cell 0; have vd := y5.frozen 0; clear y3 y10 y5)
              exact HN.out _ _ _ hb1 hP1
        case done =>
          rintro D xs W hD hxs ⟨X, Y, hM, hP, hk, hB, hle⟩ hKD
          clear hI0 hM7 hP7 hkv hR7 hcv
          rw [hxs, show stD S n a Bl' (n + 1) = (stS S n a Bl', []) by unfold stD; rw [if_neg (by omega)]] at hP
          have hP8 : PlIn W (g10 + 1) (.agg #[X, Y]) (stS S n a Bl') [] := hP
          rw [hxs] at hM hle
          have hok := (stD_ok (k := n + 1) HX.out.2.2.1.ok HX.out.2.2.1.size hal hn64 HX.out.2.2.2.2.1)
          rw [show stD S n a Bl' (n + 1) = (stS S n a Bl', []) by unfold stD; rw [if_neg (by omega)]] at hok
          have hmk := stS_mark S n a Bl'
          have hsS : 3 ≤ (stS S n a Bl').length := by rw [stS_length, HX.out.2.2.1.size]; omega
          have hru32 : ru.size = 32 := by rw [HRV.out.2.1]; exact rootV_size K Bl' (by rw [HRV.out.2.2]; omega)
          obtain ⟨Hd, hHd⟩ : ∃ s, s = hdS (g + 1) (1 - a) ru := ⟨_, rfl⟩
          have hds : Hd.size = 37 := by rw [hHd]; exact hdS_size _ _ _ hru32
          have HHd : Hid (∀ W', Calls Tryz.prog 22 #[.int .i64 ((g : Int) + 1), .int .i64 (1 - (a : Int)), .string ru] W' fun e w' => e = .returned (.string Hd) ∧ Below W'.heap.size W' w') := fun W' => by
            have := head_yes (g + 1) (1 - a) ru W' (by omega) (by omega) hru32
            rw [show ((g + 1 : Nat) : Int) = (g : Int) + 1 by omega, show ((1 - a : Nat) : Int) = 1 - (a : Int) by omega, ← hHd] at this
            exact this
          have ho3 : w.heap.size = w.heap.size ∧ w.heap.size < g4 ∧ g4 < g5 ∧ g5 < g6 ∧ g6 < g7 ∧ g7 < g8 ∧ g8 < g9 ∧ g9 < g10 := ⟨rfl, ho⟩
          obtain ⟨t', ht'⟩ : ∃ q, q = t - (n + 1) := ⟨_, rfl⟩
          rw [← ht'] at hM
          have h0S : SvR w W w.heap.size g4 g5 g6 g7 g8 g9 g10 X Y n a g (.slice A n c) (.slice A3 n c3) rv ru (t' : Int) (stS S n a Bl') W :=
            svR_of ⟨hM.b3, hM.b4, hM.b5, hM.b9, ⟨_, _, _, _, hM.b6, hM.b7, hM.b8⟩, hP8, KeepsOthers.refl W, hB⟩
          have HPut : Hid (∀ W', SvR w W w.heap.size g4 g5 g6 g7 g8 g9 g10 X Y n a g (.slice A n c) (.slice A3 n c3) rv ru (t' : Int) (stS S n a Bl') W' → Calls Tryz.prog 21 #[.agg #[X, Y], .int .i64 0, .string Hd, .int .i64 (t' : Int)] W' fun e w' => ∃ B1 e1 B2 e2, ∃ l1 l2 : Nat, e = .returned (.tuple #[.agg #[.slice B1 l1 e1, .slice B2 l2 e2], .bool (decide (t' = 4)), .int .i64 0]) ∧ PlIn w' W'.heap.size (.agg #[.slice B1 l1 e1, .slice B2 l2 e2]) (stoD K S n a g Bl' t).1 (stoD K S n a g Bl' t).2 ∧ Below W'.heap.size W' w' ∧ w'.frozen? ⟨g6, 0, none⟩ = false ∧ w'.frozen? ⟨g6, 1, none⟩ = false ∧ w'.frozen? ⟨g7, 0, none⟩ = false ∧ w'.frozen? ⟨g8, 0, none⟩ = false ∧ w'.cell? ⟨g6, 0, none⟩ = some (valAt w' g6 0) ∧ w'.cell? ⟨g6, 1, none⟩ = some (valAt w' g6 1) ∧ w'.cell? ⟨g7, 0, none⟩ = some (valAt w' g7 0) ∧ w'.cell? ⟨g8, 0, none⟩ = some (valAt w' g8 0) ∧ W.heap.size ≤ W'.heap.size ∧ KeepsOthers W w' ∧ Below w.heap.size w w' ∧ StR w W w.heap.size g4 g5 g6 g7 g8 g9 g10 X Y #[.slice A3 n c3, .string ru] #[.int .i64 n, .int .i64 a, .int .i64 g, .slice A n c, .string rv] (t' : Int) (stS S n a Bl') w') := fun W' hS => by
            refine (put_at Hd (svR_st hS).pl hok.1 hsS (by omega) (hmk.2.2 HX.out.2.2.2.1) (by omega)).mono ?_
            rintro e w' ⟨v', rfl, h1, h2⟩
            rw [hmk.1, hmk.2.1, hHd, HRV.out.2.1, ht'] at h1
            have e9 : stoD K S n a g Bl' t = putD (stS S n a Bl') (fOf S) (hdS (g + 1) (1 - a) (rootV K Bl')) (mOf S) (t - (n + 1)) := by unfold stoD; rw [if_neg (by omega)]
            rw [← e9] at h1
            have h3 := h1
            obtain ⟨B1, e1, B2, e2, rfl, -, -, -, -⟩ := h1
            obtain ⟨q1, q2, q3, q4, q5, q6, q7, q8⟩ := svR_fr (svR_call hS h2)
            exact ⟨_, _, _, _, _, _, rfl, h3, h2, q1, q2, q3, q4, q5, q6, q7, q8, (svR_st hS).ko.size, (svR_st (svR_call hS h2)).ko, (svR_st (svR_call hS h2)).bl, svR_st (svR_call hS h2)⟩
          have hdk : w.heap.size ≤ D := by have := hB7.size; omega
          have hWg : g10 < W.heap.size := by have := hk.lt; omega
          have HKD := KH.hid (And.intro hKD hdk)
          have H0 := KH.hid h0S
          have d1 := hM.b3.cell 0
          have htt : decide (t' = 4) = decide (t = n + 5) := by
            by_cases q : t = n + 5
            · rw [decide_eq_true q, decide_eq_true (by omega)]
            · rw [decide_eq_false q, decide_eq_false (by omega)]
          have HTT := KH.hid htt
          obtain ⟨s0, s1, s2, s3, s4, s5, -⟩ := h0S
          obtain ⟨fr1, fr2, fr3, fr4, fr5, fr6, fr7, fr8⟩ := svR_fr H0.out
          clear hM hP hP8 hk hB hok hmk hsS hru32 hHd hKD hdk htt d1
          generalize decide (t' = 4) = bq at *
          obtain ⟨SS, hSS⟩ : ∃ q, q = stS S n a Bl' := ⟨_, rfl⟩
          obtain ⟨DD, hDD⟩ : ∃ q, q = stoD K S n a g Bl' t := ⟨_, rfl⟩
          rw [← hSS] at H0 HPut
          rw [← hDD] at HPut
          have HDD := KH.hid hDD
          obtain ⟨tz, htz⟩ : ∃ q : Int, q = (t' : Int) := ⟨_, rfl⟩
          rw [← htz] at H0 HPut s5
          have hw1 : IntKind.i64.wrap ((g : Int) + 1) = (g : Int) + 1 := IntWalk.i64_in _ (by omega)
          have hw2 : IntKind.i64.wrap (1 - (a : Int)) = 1 - (a : Int) := IntWalk.i64_in _ (by omega)
          have HKE : Hid ((∀ W' W'', SvR w W w.heap.size g4 g5 g6 g7 g8 g9 g10 X Y n a g (.slice A n c) (.slice A3 n c3) rv ru tz SS W' → Below W'.heap.size W' W'' → SvR w W w.heap.size g4 g5 g6 g7 g8 g9 g10 X Y n a g (.slice A n c) (.slice A3 n c3) rv ru tz SS W'') ∧
              (∀ W' u v, SvR w W w.heap.size g4 g5 g6 g7 g8 g9 g10 X Y n a g (.slice A n c) (.slice A3 n c3) rv ru tz SS W' → SvR w W w.heap.size g4 g5 g6 g7 g8 g9 g10 X Y n a g (.slice A n c) (.slice A3 n c3) rv ru tz SS ((W'.setCell ⟨g6, 0, none⟩ u).setCell ⟨g6, 1, none⟩ v)) ∧
              (∀ W' u, SvR w W w.heap.size g4 g5 g6 g7 g8 g9 g10 X Y n a g (.slice A n c) (.slice A3 n c3) rv ru tz SS W' → SvR w W w.heap.size g4 g5 g6 g7 g8 g9 g10 X Y n a g (.slice A n c) (.slice A3 n c3) rv ru tz SS (W'.setCell ⟨g7, 0, none⟩ u)) ∧
              (∀ W' u, SvR w W w.heap.size g4 g5 g6 g7 g8 g9 g10 X Y n a g (.slice A n c) (.slice A3 n c3) rv ru tz SS W' → SvR w W w.heap.size g4 g5 g6 g7 g8 g9 g10 X Y n a g (.slice A n c) (.slice A3 n c3) rv ru tz SS (W'.setCell ⟨g8, 0, none⟩ u))) :=
            KH.hid ⟨fun _ _ h hb => svR_call h hb, fun _ _ _ h => svR_set6 h ho3 _ _, fun _ _ h => svR_set7 h ho3 _, fun _ _ h => svR_set8 h ho3 _⟩
          have HD0 := KH.hid (svR_drew H0.out)
          clear hSS hDD htz ho3
          simp only [Exit.inBlock, Exit.then]
          rename_i K0 a0
          refine a0 _ _ ?_
          clear a0
          go_upto_region 22 with fail
          go_cut [] from 86 to 101 (fun wx => ∃ B1 B2, KH.Blk wx g6 35 #[B1, B2] ∧ KH.Blk wx g7 4 #[.bool bq] ∧ KH.Blk wx g8 41 #[.int .i64 0] ∧ PlIn wx (g10 + 1) (.agg #[B1, B2]) DD.1 DD.2 ∧ Below w.heap.size w wx ∧ wx.heap[D]? = some (.deferred (some [])))
          case first =>
            refine wp_blind ?_
            go_region_held3 (fun w' => w'.cell? ⟨w.heap.size, 0, none⟩ = some X ∧ w'.cell? ⟨w.heap.size, 1, none⟩ = some Y ∧ w'.cell? ⟨g9, 1, none⟩ = some (.int .i64 a) ∧ w'.cell? ⟨g9, 2, none⟩ = some (.int .i64 g) ∧ w'.cell? ⟨g4, 1, none⟩ = some (.string ru) ∧ w'.cell? ⟨g5, 0, none⟩ = some (.int .i64 tz) ∧ StR w W w.heap.size g4 g5 g6 g7 g8 g9 g10 X Y #[.slice A3 n c3, .string ru] #[.int .i64 n, .int .i64 a, .int .i64 g, .slice A n c, .string rv] tz SS w') (first
              | with_reducible exact H0.out | with_reducible exact HD0.out | with_reducible exact HKE.out.1 _ _ (by assumption) (by assumption) | with_reducible exact HKE.out.2.1 _ _ _ (by assumption) | with_reducible exact HKE.out.2.2.1 _ _ (by assumption) | with_reducible exact HKE.out.2.2.2 _ _ (by assumption)) (first
              | (go_at_call 22; refine (HHd.out _).mono ?_; rintro e w8 ⟨rfl, hb8⟩)
              | (go_at_call 21; refine (HPut.out _ (by assumption)).mono ?_; rintro e w9 ⟨B1, e1, B2, e2, l1, l2, rfl, hP9, hb9, q1, q2, q3, q4, q5, q6, q7, q8, hz9, hk9, hB9, hst9⟩; have HQ9 := KH.hid (And.intro hP9 (And.intro hz9 (And.intro hk9 (And.intro hB9 hst9))))))
            go_wp2_with fail
            go_meet
            exact sto_end (by omega) HQ9.out.2.2.2.2.bx HQ9.out.1 (by have := HQ9.out.2.1; omega) HQ9.out.2.2.1 HQ9.out.2.2.2.1 HKD.out.1
          case rest =>
            obtain ⟨B1, B2, r6, r7, r8, hP, hB, hK⟩ := hcut
            have HR := KH.hid (And.intro r6 (And.intro r7 (And.intro r8 (And.intro hP (And.intro hB hK)))))
            clear r6 r7 r8 hP hB hK
            go_wp2_with fail
            obtain ⟨r6, r7, r8, hP, hB, hK⟩ := HR.out
            rw [HDD.out] at hP
            exact ret_sto r6 r7 r8 hK hP (by omega) rfl hB HKD.out.2 rfl ⟨rfl, rfl, rfl⟩ HTT.out
        case stop =>
          rintro D pre W hD ⟨X, Y, h6, h7, h8, hP, hB, htn⟩ hKD
          have e9 : stoD K S n a g Bl' t = stD S n a Bl' t := by unfold stoD; rw [if_pos htn]
          refine wpIn_wide.2 ?_
          go_wp2_with fail
          rw [e9]
          exact ret_sto h6 h7 h8 hKD hP (by have := hB7.size; omega) rfl hB (by have := hB7.size; omega) rfl ⟨rfl, rfl, rfl⟩ (decide_eq_false (by omega)).symm
end Go.Proofs.YtlnilfcjcoclhaaGreatDoor
