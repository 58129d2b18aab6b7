/- The walk of digest.spread. -/
import Derived.Test.YtdeoibgedjbeiaaDoorDigC
import Derived.Test.YtdeoibgedjbeiaaDoorTapeE
namespace Go.Proofs.YtdeoibgedjbeiaaDoor
open Go.RowKit

/-- the words of a block after k rounds -/
def spS (L : List Nat) : Nat → Nat → Nat
  | 0 => fun j => L.getD j 0
  | k + 1 => fun j => if j = 16 + k then adV [spS L k k, xoV [rotV (spS L k (k + 1)) 25, rotV (spS L k (k + 1)) 14, falV (spS L k (k + 1)) 3], spS L k (k + 9), xoV [rotV (spS L k (k + 14)) 15, rotV (spS L k (k + 14)) 13, falV (spS L k (k + 14)) 10]] else spS L k j
theorem spS_lt {L : List Nat} (h : ∀ x ∈ L, x < 4294967296) (k j : Nat) : spS L k j < 4294967296 := by
  induction k generalizing j with
  | zero =>
    show L.getD j 0 < _
    rw [List.getD]
    cases hj : L[j]? with
    | none => exact (by omega : 0 < 4294967296)
    | some x => exact h x (List.mem_of_getElem? hj)
  | succ k ih =>
    show (if j = 16 + k then _ else _) < _
    split
    · exact adV_lt _
    · exact ih j
def spV (s : ByteArray) (j : Nat) : Nat := spS (cutV true s) 48 j
theorem spV_lt (s : ByteArray) (j : Nat) : spV s j < 4294967296 := spS_lt (cutV_lt true s) 48 j

theorem zlit64 : (#[.int .i64 0, .int .i64 0, .int .i64 0, .int .i64 0, .int .i64 0, .int .i64 0, .int .i64 0, .int .i64 0, .int .i64 0, .int .i64 0, .int .i64 0, .int .i64 0, .int .i64 0, .int .i64 0, .int .i64 0, .int .i64 0, .int .i64 0, .int .i64 0, .int .i64 0, .int .i64 0, .int .i64 0, .int .i64 0, .int .i64 0, .int .i64 0, .int .i64 0, .int .i64 0, .int .i64 0, .int .i64 0, .int .i64 0, .int .i64 0, .int .i64 0, .int .i64 0, .int .i64 0, .int .i64 0, .int .i64 0, .int .i64 0, .int .i64 0, .int .i64 0, .int .i64 0, .int .i64 0, .int .i64 0, .int .i64 0, .int .i64 0, .int .i64 0, .int .i64 0, .int .i64 0, .int .i64 0, .int .i64 0, .int .i64 0, .int .i64 0, .int .i64 0, .int .i64 0, .int .i64 0, .int .i64 0, .int .i64 0, .int .i64 0, .int .i64 0, .int .i64 0, .int .i64 0, .int .i64 0, .int .i64 0, .int .i64 0, .int .i64 0, .int .i64 0] : Array Value) = (bzW 64 fun _ => 0).toArray := by kernel_rfl
/-- a row in a block of its own, and what lay below -/
def Spr (B0 g : Nat) (t : TypeId) (cs : Array Value) (w0 w : World) : Prop := KH.Blk w g t cs ∧ Below B0 w0 w ∧ g < w.heap.size ∧ B0 ≤ w.heap.size
theorem spr_step {B0 g : Nat} {t : TypeId} {cs : Array Value} {w0 w w' : World} (h : Spr B0 g t cs w0 w) (hb : Below w.heap.size w w') : Spr B0 g t cs w0 w' :=
  ⟨h.1.below hb h.2.2.1, h.2.1.trans (hb.mono h.2.2.2), Nat.lt_of_lt_of_le h.2.2.1 hb.size, Nat.le_trans h.2.2.2 hb.size⟩
theorem spr_cell {B0 g : Nat} {t : TypeId} {cs : Array Value} {w0 w : World} (h : Spr B0 g t cs w0 w) (i : Nat) : w.cell? ⟨g, i, none⟩ = cs[i]? := h.1.cell i
theorem spr_lt {B0 g : Nat} {t : TypeId} {cs : Array Value} {w0 w : World} (h : Spr B0 g t cs w0 w) : g < w.heap.size := h.2.2.1
theorem spr_set {B0 g : Nat} {t : TypeId} {cs : Array Value} {w0 w : World} (h : Spr B0 g t cs w0 w) (hg : B0 ≤ g) (i : Nat) (v : Value) : Spr B0 g t (cs.setIfInBounds i v) w0 (w.setCell ⟨g, i, none⟩ v) :=
  ⟨h.1.set_ i v, h.2.1.setCell (p := ⟨g, i, none⟩) hg v, by simpa using h.2.2.1, by simpa using h.2.2.2⟩
theorem bzW_splice (F G : Nat → Nat) (n m : Nat) (h : m ≤ n) : splice (bzW n F) 0 (bzW m G) = bzW n fun j => if j < m then G j else F j := by
  refine List.ext_getElem? fun i => ?_
  unfold splice
  simp only [List.take_zero, List.nil_append, Nat.zero_add, bzW_length]
  rcases Nat.lt_or_ge i m with hi | hi
  · rw [List.getElem?_append_left (by rw [bzW_length]; exact hi), bzW_get _ hi, bzW_get _ (by omega), if_pos hi]
  · rw [List.getElem?_append_right (by rw [bzW_length]; exact hi), bzW_length, List.getElem?_drop, show m + (i - m) = i by omega]
    rcases Nat.lt_or_ge i n with hn | hn
    · rw [bzW_get _ hn, bzW_get _ hn, if_neg (by omega)]
    · rw [List.getElem?_eq_none (by rw [bzW_length]; exact hn), List.getElem?_eq_none (by rw [bzW_length]; exact hn)]
theorem int_size : (Tryd.prog.info? 3).map (·.size) = some 1 := by kernel_rfl
theorem bzW_one {n : Nat} {F : Nat → Nat} : ∀ v ∈ bzW n F, v.oneCell' = true := fun v hv => by
  obtain ⟨o, _, rfl⟩ := List.mem_map.1 hv; rfl
theorem words_info : (Tryd.prog.info? 94).map (·.size) = some 64 := by kernel_rfl

set_option maxHeartbeats 1000000 in
set_option maxRecDepth 100000 in
theorem spread_yes (s : ByteArray) (w : World) (hs : s.size = 64) :
    Calls Tryd.prog 55 #[.string s] w fun e w' => e = .returned (.agg (bzW 64 (spV s)).toArray) ∧ Below w.heap.size w w' := by
  obtain ⟨L, hL⟩ : ∃ L, L = cutV true s := ⟨_, rfl⟩
  have e64 : bzW 64 (spV s) = bzW 64 (spS L 48) := by rw [hL]; rfl
  rw [e64]
  have HLL := KH.hid hL
  clear hL e64
  go_enter Tryd.func55, Tryd.ntmps55
  go_wp2_with fail
  rw [zlit64]
  have hA0 : KH.Blk ((w.alloc (.cells (bzW 64 fun _ => 0).toArray 94)).alloc (.cells (bzW 64 fun _ => 0).toArray 94)) w.heap.size 94 (bzW 64 fun _ => 0).toArray := (KH.Blk.new w _ _).alloc _
  have hA1 : KH.Blk ((w.alloc (.cells (bzW 64 fun _ => 0).toArray 94)).alloc (.cells (bzW 64 fun _ => 0).toArray 94)) (w.heap.size + 1) 94 (bzW 64 fun _ => 0).toArray := by
    have := KH.Blk.new (w.alloc (.cells (bzW 64 fun _ => 0).toArray 94)) 94 (bzW 64 fun _ => 0).toArray
    simpa using this
  have hA3 := ((Below.refl w.heap.size w).alloc (Nat.le_refl _) (.cells (bzW 64 fun _ => 0).toArray 94)).alloc (by simp) (.cells (bzW 64 fun _ => 0).toArray 94)
  have hz1 : w.heap.size + 2 ≤ ((w.alloc (.cells (bzW 64 fun _ => 0).toArray 94)).alloc (.cells (bzW 64 fun _ => 0).toArray 94)).heap.size := by simp
  generalize ((w.alloc (.cells (bzW 64 fun _ => 0).toArray 94)).alloc (.cells (bzW 64 fun _ => 0).toArray 94)) = W at *
  refine (cut_yes s W 16 (by omega) (by omega)).mono ?_; rintro e w3 ⟨rfl, ho3, hb3⟩
  have hs3 := hb3.size
  have hA0' := hA0.below hb3 (by omega)
  have hA1' := hA1.below hb3 (by omega)
  have hB3 := hA3.trans (hb3.mono (by omega))
  have hcs : ∀ j v, (bzW 16 fun q => ctF true s q s.size)[j]? = some v → w3.cell? ((⟨W.heap.size, 0, none⟩ : Addr).add j) = some v := fun j v hv => by
    have hj : j < 16 := by
      rcases Nat.lt_or_ge j 16 with h | h
      · exact h
      · rw [List.getElem?_eq_none (by rw [bzW_length]; exact h)] at hv; cases hv
    rw [addr_at, ho3.cellAt j (by omega)]; exact hv
  have HCS := KH.hid hcs
  have HSPL := KH.hid (bzW_splice (fun _ => 0) (fun q => ctF true s q s.size) 64 16 (by omega))
  have HS := KH.hid hs
  clear hcs hA0 hA1 hA3 hb3 ho3 hs
  go_wp2_with ((with_reducible show wpList _ _ _ (⟨some 16, _, _, _, _, _⟩ :: _) _ _); refine wpList_copy_splice rfl (.tmp 14) (.tmp 15) 42 42 rfl 3 Tryd.underlying42 int_size _ _ 64 _ 16 _ rfl rfl (w.heap.size + 1) 0 (bzW 64 fun _ => 0) 94 hA1' (bzW 16 fun q => ctF true s q s.size) (by rw [bzW_length]; rfl) (fun _ => ⟨rfl, _, rfl, HCS.out⟩) (by rw [bzW_length, bzW_length]; omega) bzW_one (w.heap.size + 1) w3 (Below.refl _ _) (Nat.le_refl _) ?_; intro w4 hg4 hb4)
  have hg5 : KH.Blk w4 (w.heap.size + 1) 94 (bzW 64 (spS (cutV true s) 0)).toArray := by
    have h := hg4.out
    rw [HSPL.out] at h
    have e : (bzW 64 fun j => if j < 16 then ctF true s j s.size else 0) = bzW 64 (spS (cutV true s) 0) := by
      refine bzW_congr fun j _ => ?_
      show _ = (cutV true s).getD j 0
      have hl : (cutV true s).length = 16 := by rw [cutV_length, HS.out]
      by_cases hj : j < 16
      · rw [if_pos hj, KH.getD_eq (by rw [hl]; exact hj)]
        unfold cutV
        rw [List.getElem_map, List.getElem_range]
      · rw [if_neg hj, List.getD, List.getElem?_eq_none (by rw [hl]; omega)]; rfl
    rw [e] at h
    exact h
  have hz4 : w.heap.size + 1 < w4.heap.size := hg5.lt
  have hS0 : Spr (w.heap.size + 1) (w.heap.size + 1) 94 (bzW 64 (spS (cutV true s) 0)).toArray w3 w4 := ⟨hg5, hb4, hz4, by omega⟩
  have hlt := cutV_lt true s
  rw [← HLL.out] at hlt hS0
  have HLT := KH.hid hlt
  clear hlt
  clear hg4 hg5 hb4 hz4 hA1' HSPL HCS hz1
  go_loopw [6] (fun i wr => ∃ k : Nat, k ≤ 48 ∧ i = .int .i64 ((k : Int) + 16) ∧ Spr (w.heap.size + 1) (w.heap.size + 1) 94 (bzW 64 (spS L k)).toArray w3 wr) (fun i _ => 64 - (intOf i).toNat)
  case atStart => exact ⟨0, Nat.zero_le _, rfl, hS0⟩
  case round =>
    obtain ⟨k, hk, rfl, hS⟩ := hrel
    clear hS0
    by_cases hlt : k < 48
    · have hcp := (spr_cell hS (k + 1)).trans ((List.getElem?_toArray).trans (bzW_get _ (show k + 1 < 64 by omega)))
      have hcq := (spr_cell hS (k + 14)).trans ((List.getElem?_toArray).trans (bzW_get _ (show k + 14 < 64 by omega)))
      have hk1 := (List.getElem?_toArray).trans (bzW_get (N := 64) (spS L k) (show k < 64 by omega))
      have hk2 := (List.getElem?_toArray).trans (bzW_get (N := 64) (spS L k) (show k + 9 < 64 by omega))
      have hk3 := (List.getElem?_toArray).trans (bzW_get (N := 64) (spS L k) (show k + 16 < 64 by omega))
      have hp := spS_lt HLT.out k (k + 1)
      have hq := spS_lt HLT.out k (k + 14)
      have ha := spS_lt HLT.out k k
      have ha7 := spS_lt HLT.out k (k + 9)
      have HST : Hid ((bzW 64 (spS L k)).toArray.setIfInBounds (k + 16) (.int .i64 (adV [spS L k k, xoV [rotV (spS L k (k + 1)) 25, rotV (spS L k (k + 1)) 14, falV (spS L k (k + 1)) 3], spS L k (k + 9), xoV [rotV (spS L k (k + 14)) 15, rotV (spS L k (k + 14)) 13, falV (spS L k (k + 14)) 10]] : Nat)) = (bzW 64 (spS L (k + 1))).toArray) := by
        unfold Hid
        rw [List.setIfInBounds_toArray, bzW_set]
        congr 1
        refine bzW_congr fun o _ => ?_
        show _ = if o = 16 + k then _ else _
        rw [Nat.add_comm 16 k]
      have k0 : (0 : Int) ≤ (k : Int) + 1 := by omega
      have k14 : (k : Int) + 14 < 64 := by omega
      have d64 : decide ((k : Int) + 16 < 64) = true := by rw [decide_eq_true_iff]; omega
      generalize spS L k (k + 1) = p at *
      generalize spS L k (k + 14) = q at *
      generalize spS L k k = a16 at *
      generalize spS L k (k + 9) = a7 at *
      have e15 : IntKind.i64.wrap ((k : Int) + 16 - 15) = (k : Int) + 1 := by rw [show (k : Int) + 16 - 15 = (k : Int) + 1 by omega]; exact IntWalk.i64_in _ (by omega)
      have e2 : IntKind.i64.wrap ((k : Int) + 16 - 2) = (k : Int) + 14 := by rw [show (k : Int) + 16 - 2 = (k : Int) + 14 by omega]; exact IntWalk.i64_in _ (by omega)
      have t1 : ((k : Int) + 1).toNat = k + 1 := by omega
      have t14 : ((k : Int) + 14).toNat = k + 14 := by omega
      have k014 : (0 : Int) ≤ (k : Int) + 14 := by omega
      have k1 : (k : Int) + 1 < 64 := by omega
      go_wp2
      go_quiet (fail)
      go_wp2
      have hS' : Spr (w.heap.size + 1) (w.heap.size + 1) 94 (bzW 64 (spS L k)).toArray w3 (wr.drewN nq).drew := ⟨hS.1, below_drewN (below_drewN hS.2.1 nq) 1, hS.2.2.1, hS.2.2.2⟩
      clear e15 e2 hcp hcq hS k0 k014
      generalize wr.drewN nq = wq at *
      have hS := hS'
      have hc1 := (spr_cell hS k).trans hk1
      have hc2 := (spr_cell hS (k + 9)).trans hk2
      have hp1 := rotV_lt p 25 hp
      have hp2 := rotV_lt p 14 hp
      have hp3 := falV_lt p 3 hp
      have hq1 := rotV_lt q 15 hq
      have hq2 := rotV_lt q 13 hq
      have hq3 := falV_lt q 10 hq
      have hx1 := xo3 hp1 hp2 hp3
      have hx2 := xo3 hq1 hq2 hq3
      have kk0 : (0 : Int) ≤ (k : Int) := by omega
      have kk9 : (0 : Int) ≤ (k : Int) + 9 := by omega
      have kk16 : (0 : Int) ≤ (k : Int) + 16 := by omega
      have kl0 : (k : Int) < 64 := by omega
      have kl9 : (k : Int) + 9 < 64 := by omega
      have kl16 : (k : Int) + 16 < 64 := by omega
      have t9 : ((k : Int) + 9).toNat = k + 9 := by omega
      have t16 : ((k : Int) + 16).toNat = k + 16 := by omega
      have e0 : IntKind.i64.wrap (k : Int) = (k : Int) := IntWalk.i64_in _ (by omega)
      have e16 : IntKind.i64.wrap ((k : Int) + 16 - 16) = (k : Int) := by rw [show (k : Int) + 16 - 16 = (k : Int) by omega]; exact IntWalk.i64_in _ (by omega)
      have e7 : IntKind.i64.wrap ((k : Int) + 16 - 7) = (k : Int) + 9 := by rw [show (k : Int) + 16 - 7 = (k : Int) + 9 by omega]; exact IntWalk.i64_in _ (by omega)
      clear hS'
      go_region_held3 (fun w' => w'.cell? ⟨w.heap.size + 1, k, none⟩ = some (.int .i64 a16) ∧ w'.cell? ⟨w.heap.size + 1, k + 9, none⟩ = some (.int .i64 a7)) (first | exact ⟨by assumption, by assumption⟩ | exact ⟨(World.cell?_alloc_lt _ _ _ (spr_lt hS)).trans hc1, (World.cell?_alloc_lt _ _ _ (spr_lt hS)).trans hc2⟩ | exact ⟨(World.cell?_setCell_other _ _ _ _ (fun e => by injection e with _ e; omega)).trans hc1, (World.cell?_setCell_other _ _ _ _ (fun e => by injection e with _ e; omega)).trans hc2⟩ | go_keep)
        (first
          | ((with_reducible (go_at_call 58)); (with_reducible refine (dback_at p 7 25 _ (by omega) (by omega) (by omega) (by omega)).mono ?_); rintro e w7 ⟨rfl, hb7⟩; have hS := spr_step hS hb7; have hc1 := (spr_cell hS k).trans hk1; have hc2 := (spr_cell hS (k + 9)).trans hk2; have hcs := (spr_cell hS (k + 16)).trans hk3; have hfs := hS.1.frozen (k + 16))
          | ((with_reducible (go_at_call 58)); (with_reducible refine (dback_at p 18 14 _ (by omega) (by omega) (by omega) (by omega)).mono ?_); rintro e w7 ⟨rfl, hb7⟩; have hS := spr_step hS hb7; have hc1 := (spr_cell hS k).trans hk1; have hc2 := (spr_cell hS (k + 9)).trans hk2; have hcs := (spr_cell hS (k + 16)).trans hk3; have hfs := hS.1.frozen (k + 16))
          | ((with_reducible (go_at_call 62)); (with_reducible refine (dfall_at p 3 _ (by omega)).mono ?_); rintro e w7 ⟨rfl, hb7⟩; have hS := spr_step hS hb7; have hc1 := (spr_cell hS k).trans hk1; have hc2 := (spr_cell hS (k + 9)).trans hk2; have hcs := (spr_cell hS (k + 16)).trans hk3; have hfs := hS.1.frozen (k + 16))
          | ((with_reducible (go_at_call 57)); (with_reducible refine (xor3_any (rotV p 25) (rotV p 14) (falV p 3) _ (by assumption) (by assumption) (by assumption)).mono ?_); rintro e w7 ⟨rfl, hb7⟩; have hS := spr_step hS hb7; have hc1 := (spr_cell hS k).trans hk1; have hc2 := (spr_cell hS (k + 9)).trans hk2; have hcs := (spr_cell hS (k + 16)).trans hk3; have hfs := hS.1.frozen (k + 16))
          | ((with_reducible (go_at_call 58)); (with_reducible refine (dback_at q 17 15 _ (by omega) (by omega) (by omega) (by omega)).mono ?_); rintro e w7 ⟨rfl, hb7⟩; have hS := spr_step hS hb7; have hc1 := (spr_cell hS k).trans hk1; have hc2 := (spr_cell hS (k + 9)).trans hk2; have hcs := (spr_cell hS (k + 16)).trans hk3; have hfs := hS.1.frozen (k + 16))
          | ((with_reducible (go_at_call 58)); (with_reducible refine (dback_at q 19 13 _ (by omega) (by omega) (by omega) (by omega)).mono ?_); rintro e w7 ⟨rfl, hb7⟩; have hS := spr_step hS hb7; have hc1 := (spr_cell hS k).trans hk1; have hc2 := (spr_cell hS (k + 9)).trans hk2; have hcs := (spr_cell hS (k + 16)).trans hk3; have hfs := hS.1.frozen (k + 16))
          | ((with_reducible (go_at_call 62)); (with_reducible refine (dfall_at q 10 _ (by omega)).mono ?_); rintro e w7 ⟨rfl, hb7⟩; have hS := spr_step hS hb7; have hc1 := (spr_cell hS k).trans hk1; have hc2 := (spr_cell hS (k + 9)).trans hk2; have hcs := (spr_cell hS (k + 16)).trans hk3; have hfs := hS.1.frozen (k + 16))
          | ((with_reducible (go_at_call 57)); (with_reducible refine (xor3_any (rotV q 15) (rotV q 13) (falV q 10) _ (by assumption) (by assumption) (by assumption)).mono ?_); rintro e w7 ⟨rfl, hb7⟩; have hS := spr_step hS hb7; have hc1 := (spr_cell hS k).trans hk1; have hc2 := (spr_cell hS (k + 9)).trans hk2; have hcs := (spr_cell hS (k + 16)).trans hk3; have hfs := hS.1.frozen (k + 16))
          | ((with_reducible (go_at_call 56)); (with_reducible refine (add4_any a16 (xoV [rotV p 25, rotV p 14, falV p 3]) a7 (xoV [rotV q 15, rotV q 13, falV q 10]) _ (by assumption) (by assumption) (by assumption) (by assumption)).mono ?_); rintro e w7 ⟨rfl, hb7⟩; have hS := spr_step hS hb7; have hc1 := (spr_cell hS k).trans hk1; have hc2 := (spr_cell hS (k + 9)).trans hk2; have hcs := (spr_cell hS (k + 16)).trans hk3; have hfs := hS.1.frozen (k + 16)))
      have hS6 := spr_set hS (Nat.le_refl _) (k + 16) (.int .i64 (adV [a16, xoV [rotV p 25, rotV p 14, falV p 3], a7, xoV [rotV q 15, rotV q 13, falV q 10]] : Nat))
      rw [HST.out] at hS6
      clear e0 e16 e7 hS hc1 hc2 hcs hfs
      go_wp2
      go_roundw
      case rel => exact ⟨k + 1, by omega, by go_num, hS6⟩
      case measure => simp [intOf]; omega
    · obtain rfl : k = 48 := by omega
      have hB := hB3.trans (hS.2.1.mono (by omega))
      have hT0 := hA0'.below hS.2.1 (by omega)
      have hrg : wr.rangeAt (w.heap.size + 1) 0 (bzW 64 (spS L 48)) := fun j v hv => by
        rw [Nat.zero_add, spr_cell hS j, List.getElem?_toArray]; exact hv
      have hth : wr.there w.heap.size 0 64 := fun j hj => by
        rw [Nat.zero_add]
        exact ⟨by rw [hT0.cell j, List.getElem?_toArray, bzW_get _ hj]; rfl, hT0.frozen j⟩
      have hi1 : (Tryd.prog.info? 94).map (·.size) = some (bzW 64 (spS L 48)).length := by rw [bzW_length]; exact words_info
      have hi2 : (Tryd.prog.info? 94).map (·.size) = some (bzW 64 (spS L 48)).toArray.size := by simp only [List.size_toArray, bzW_length]; exact words_info
      have ht2 : wr.there w.heap.size 0 (bzW 64 (spS L 48)).toArray.size := by simp only [List.size_toArray, bzW_length]; exact hth
      have ho2 := all_oneCell_toArray (bzW_one (n := 64) (F := spS L 48))
      have HE := KH.hid (And.intro hi1 (And.intro hi2 (And.intro ht2 (And.intro ho2 hrg))))
      clear hi1 hi2 ht2 ho2 hrg hth hS hT0
      go_wp2_with (first | ((with_reducible show wpList _ _ _ (⟨some 57, _, _, _, _, _⟩ :: _) _ _); refine wpList_load_mid (by rfl) 94 (.tmp 3) (by rfl) (w.heap.size + 1) 0 (by rfl) (bzW 64 (spS L 48)) _ HE.out.2.2.2.2 Tryd.underlying94 rfl HE.out.1 ?_) | ((with_reducible show wpList _ _ _ (⟨none, Op.store _ (Operand.tmp 2) (Operand.tmp 57), _, _, _, _⟩ :: _) _ _); refine wpList_store_mid (by rfl) 94 (.tmp 2) (.tmp 57) (by rfl) w.heap.size 0 (bzW 64 (spS L 48)).toArray (by rfl) (by rfl) HE.out.2.2.1 HE.out.2.1 HE.out.2.2.2.1 ?_))
      have hload := run_loadVar_mid (P := Tryd.prog) (wr.setCells w.heap.size 0 (bzW 64 (spS L 48))) w.heap.size 0 94 (bzW 64 (spS L 48)) _ (World.rangeAt_setCells_same _ _ _ _ (by have := HE.out.2.2.1; simp only [List.size_toArray] at this; exact this)) Tryd.underlying94 rfl HE.out.1
      refine bodyPost_ret (v := .agg (bzW 64 (spS L 48)).toArray) (results_cell Tryd.results55 (by rfl) hload) rfl ⟨rfl, below_setCells (Nat.le_refl _) _ _ _ hB⟩
end Go.Proofs.YtdeoibgedjbeiaaDoor
