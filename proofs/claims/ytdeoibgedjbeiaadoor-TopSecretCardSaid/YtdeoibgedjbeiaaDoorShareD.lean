/- share.Split. -/
import Derived.Test.YtdeoibgedjbeiaaDoorShareC
namespace Go.Proofs.YtdeoibgedjbeiaaDoor
open Go.RowKit

theorem line_row : (Tryd.prog.info? 48).map (fun i => (i.zero, i.size, i.bytes)) = some (some (.agg (bl 32 fun _ => 0).toArray), 32, 32) := by kernel_rfl
theorem share_row : (Tryd.prog.info? 36).map (fun i => (i.zero, i.size, i.bytes)) = some (some (.agg #[.int .i64 0, .string ⟨#[]⟩]), 2, 24) := by kernel_rfl
theorem made_lines (n : Nat) : (madeCells (Value.agg (bl 32 fun _ => 0).toArray).cells (n * 32)).toList = bl (n * 32) fun _ => 0 := by
  refine List.ext_getElem (by simp [madeCells, bl]) fun j h1 h2 => ?_
  have h : j % 32 < 32 := Nat.mod_lt _ (by omega)
  simp [madeCells, bl, Value.cells, h]

/-- the bytes of the lines, when j bytes of all and i more are there -/
def lf (secret tape : ByteArray) (k j i o : Nat) : Nat := if o % 32 < j ∨ (o % 32 = j ∧ o / 32 < i) then shv secret tape k (o / 32) (o % 32) else 0
theorem lf_step (secret tape : ByteArray) (k j i N : Nat) (hj : j < 32) : (bl N (lf secret tape k j i)).set (i * 32 + j) (.int .u8 (shv secret tape k i j : Nat)) = bl N (lf secret tape k j (i + 1)) := by
  rw [bl_set]
  refine bl_congr fun o ho => ?_
  unfold lf
  by_cases e : o = i * 32 + j
  · subst e
    have h1 : (i * 32 + j) % 32 = j := by omega
    have h2 : (i * 32 + j) / 32 = i := by omega
    rw [if_pos rfl, h1, h2, if_pos (by omega)]
  · rw [if_neg e]
    by_cases h : o % 32 < j ∨ (o % 32 = j ∧ o / 32 < i)
    · rw [if_pos h, if_pos (by omega)]
    · rw [if_neg h, if_neg (by omega)]
theorem lf_next (secret tape : ByteArray) (k j n : Nat) : bl (n * 32) (lf secret tape k j n) = bl (n * 32) (lf secret tape k (j + 1) 0) := by
  refine bl_congr fun o ho => ?_
  unfold lf
  have h2 : o / 32 < n := by omega
  by_cases h : o % 32 < j ∨ (o % 32 = j ∧ o / 32 < n)
  · rw [if_pos h, if_pos (by omega)]
  · rw [if_neg h, if_neg (by omega)]

theorem lf_all (secret tape : ByteArray) (k o : Nat) : lf secret tape k 32 0 o = shv secret tape k (o / 32) (o % 32) := by
  unfold lf; rw [if_pos (Or.inl (Nat.mod_lt _ (by omega)))]
theorem reads_far {w : World} {B size n : Nat} {ad : Addr} {xs : List Value} (h : KH.Reads w B size (some ad) n xs) {p : Addr} (hp : p.block ≠ ad.block) (u : Value) : KH.Reads (w.setCell p u) B size (some ad) n xs := by
  refine ⟨h.1, fun hn => ?_⟩
  obtain ⟨ad', e, hb, hc⟩ := h.2 hn
  injection e with e
  subst e
  exact ⟨_, rfl, hb, fun j v hv => by
    rw [World.cell?_setCell_other _ _ _ _ (by intro e; apply hp; rw [e, KH.block_of_add])]; exact hc j v hv⟩

theorem shC_set (l : List (Int × ByteArray)) (k : Nat) (x : Int) (b : ByteArray) : shC (l.set k (x, b)) = ((shC l).set (k * 2) (.int .i64 x)).set (k * 2 + 1) (.string b) := by
  induction l generalizing k with
  | nil => rfl
  | cons p l ih =>
    cases k with
    | zero => rfl
    | succ k =>
      rw [show (k + 1) * 2 = k * 2 + 1 + 1 by omega]
      show Value.int .i64 p.1 :: .string p.2 :: shC (l.set k (x, b)) = _
      rw [ih]; rfl
/-- the shares, of which i are there -/
def spl (secret tape : ByteArray) (n k i : Nat) : List (Int × ByteArray) := (List.range n).map fun t => if t < i then (((t + 1 : Nat) : Int), tx 32 (shv secret tape k t)) else (0, ⟨#[]⟩)
theorem spl_length (secret tape : ByteArray) (n k i : Nat) : (spl secret tape n k i).length = n := by simp [spl]
theorem spl_step (secret tape : ByteArray) (n k i : Nat) : (spl secret tape n k i).set i (((i + 1 : Nat) : Int), tx 32 (shv secret tape k i)) = spl secret tape n k (i + 1) := by
  refine List.ext_getElem (by simp [spl]) fun j h1 h2 => ?_
  rw [List.getElem_set]
  by_cases e : i = j
  · subst e; rw [if_pos rfl]; simp only [spl, List.getElem_map, List.getElem_range]; rw [if_pos (by omega)]
  · rw [if_neg e]; simp only [spl, List.getElem_map, List.getElem_range]
    by_cases h : j < i
    · rw [if_pos h, if_pos (by omega)]
    · rw [if_neg h, if_neg (by omega)]
theorem spl_all (secret tape : ByteArray) (n k : Nat) : spl secret tape n k n = splitL secret tape n k := by
  unfold spl splitL
  refine List.map_congr_left fun t ht => ?_
  rw [if_pos (List.mem_range.1 ht)]
theorem shC_replicate (n : Nat) : shC (List.replicate n (0, ⟨#[]⟩)) = (madeCells (Value.agg #[.int .i64 0, .string ⟨#[]⟩]).cells (n * 2)).toList := by
  refine List.ext_getElem? fun j => ?_
  by_cases hj : j < n * 2
  · have hm : (madeCells (Value.agg #[.int .i64 0, .string ⟨#[]⟩]).cells (n * 2)).toList[j]? = some (if j % 2 = 0 then .int .i64 0 else .string ⟨#[]⟩) := by
      rw [List.getElem?_eq_getElem (by simp [madeCells]; exact hj)]
      simp [madeCells, Value.cells]
      rcases Nat.mod_two_eq_zero_or_one j with h | h <;> simp [h]
    rw [hm]
    have hr : (List.replicate n ((0 : Int), (⟨#[]⟩ : ByteArray)))[j / 2]? = some (0, ⟨#[]⟩) := by rw [List.getElem?_replicate, if_pos (by omega)]
    have := shC_get hr
    rcases Nat.mod_two_eq_zero_or_one j with h | h
    · rw [if_pos h, show j = j / 2 * 2 by omega]; exact this.1
    · rw [if_neg (by omega), show j = j / 2 * 2 + 1 by omega]; exact this.2
  · rw [List.getElem?_eq_none (by rw [shC_length]; simpa using hj), List.getElem?_eq_none (by simp [madeCells]; omega)]
theorem spl_zero (secret tape : ByteArray) (n k : Nat) : spl secret tape n k 0 = List.replicate n (0, ⟨#[]⟩) := by
  refine List.ext_getElem (by simp [spl]) fun j h1 h2 => ?_
  simp [spl]

set_option maxHeartbeats 1000000 in
set_option maxRecDepth 100000 in
theorem split_yes (secret : ByteArray) (n k : Nat) (tape : ByteArray) (w : World) (hs : secret.size = 32) (hn1 : 1 ≤ n) (hn2 : n ≤ 255) (hk1 : 1 ≤ k) (hk2 : k ≤ n) (ht : tape.size = 32 * (k - 1)) :
    Calls Tryd.prog 7 #[.string secret, .int .i64 n, .int .i64 k, .string tape] w (SplitPost w secret n k tape) := by
  have hK : splitK secret n k tape = true := by unfold splitK; rw [decide_eq_true_iff]; omega
  have HV : Hid (splitK secret n k tape = true ∧ splitV secret n k tape = splitL secret tape n k) := ⟨hK, by unfold splitV; rw [hK]; rfl⟩
  clear hK
  obtain ⟨i1, hi1, hy0, hy1, hy2⟩ := info_parts line_row
  obtain ⟨i2, hi2, hx0, hx1, hx2⟩ := info_parts share_row
  have hsb : ((secret.size : Int) != 32) = false := by simp [hs]
  have htb : ((tape.size : Int) != 32 * ((k : Int) - 1)) = false := by simp; omega
  have htz : tape.size ≤ 9223372036854775807 := by omega
  have HS := KH.hid (And.intro hs ht)
  clear hs ht
  have d1 : decide ((n : Int) < 1) = false := by simp; omega
  have d2 : decide ((255 : Int) < n) = false := by simp; omega
  have d3 : decide ((k : Int) < 1) = false := by simp; omega
  go_enter Tryd.func7, Tryd.ntmps7
  go_wp2_with (at_make; refine wpList_make_full _ rfl _ _ 44 rfl w.heap.size 48 i1 _ 32 Tryd.underlying44 hi1 hy0 hy1 .i64 .i64 _ _ n rfl rfl rfl rfl (by rw [hy2]; omega) (by unfold maxLen; omega) (by simp; omega) ?_; intro w3 hown3 hg3)
  have ez : ((w.alloc (.cells #[.string secret] 9)).alloc (.cells #[.string tape] 9)).heap.size = w.heap.size + 1 + 1 := by simp
  have hb1 : Below w.heap.size w ((w.alloc (.cells #[.string secret] 9)).alloc (.cells #[.string tape] 9)) := ((Below.refl _ _).alloc (Nat.le_refl _) _).alloc (by simp) _
  have hc4 : ((w.alloc (.cells #[.string secret] 9)).alloc (.cells #[.string tape] 9)).cell? ⟨w.heap.size, 0, none⟩ = some (.string secret) := by simp
  have hc7 : ((w.alloc (.cells #[.string secret] 9)).alloc (.cells #[.string tape] 9)).cell? ⟨w.heap.size + 1, 0, none⟩ = some (.string tape) := by simp
  rw [ez, made_lines] at hown3
  generalize ((w.alloc (.cells #[.string secret] 9)).alloc (.cells #[.string tape] 9)) = W1 at *
  have hb3 : Below (w.heap.size + 1 + 1) W1 w3 := (Below.refl _ _).grown hg3 (by omega) (fun _ h => by cases h)
  have hc4 := (hb3.cell (p := ⟨w.heap.size, 0, none⟩) (by show w.heap.size < _; omega)).trans hc4
  have hc7 := (hb3.cell (p := ⟨w.heap.size + 1, 0, none⟩) (by show w.heap.size + 1 < _; omega)).trans hc7
  have HB3 := KH.hid (hb1.trans (hb3.mono (by omega)))
  clear hg3 hb1 hb3 ez
  rw [bl_congr (G := lf secret tape k 0 0) fun o _ => by unfold lf; rw [if_neg (by omega)]] at hown3
  go_loopw [51] (fun i wr => ∃ j : Nat, j ≤ 32 ∧ i = .int .i64 j ∧ wr.ownsRow w.heap.size 48 32 (.slice (some ⟨w.heap.size + 1 + 1, 0, none⟩) n n) n (bl (n * 32) (lf secret tape k j 0)) ∧ Below (w.heap.size + 1 + 1) w3 wr) (fun i _ => 32 - (intOf i).toNat)
  case atStart => exact ⟨0, by omega, rfl, hown3, Below.refl _ _⟩
  case round =>
    obtain ⟨j, hj, rfl, hown, hb⟩ := hrel
    clear hown3
    have hg : w.heap.size + 1 + 1 < wr.heap.size := (hown.lt (w.heap.size + 1 + 1) rfl).2
    by_cases hlt : j < 32
    · have hr4 := (hb.cell (p := ⟨w.heap.size, 0, none⟩) (by show w.heap.size < _; omega)).trans hc4
      have hr7 := (hb.cell (p := ⟨w.heap.size + 1, 0, none⟩) (by show w.heap.size + 1 < _; omega)).trans hc7
      go_wp2_with fail
      refine (digits1_any secret tape j k w.heap.size (w.heap.size + 1) wr hlt HS.out.1 hk1 (by omega) HS.out.2 hr4 hr7 (by omega)).mono ?_; rintro e w4 ⟨gl, cl, rfl, hol, hb4⟩
      have hrl := KH.Reads.of_own hol
      have hgl : wr.heap.size ≤ gl ∧ gl < w4.heap.size := hol.lt gl rfl
      have hown4 := own_under hown hb4 hg
      have hb34 := hb.trans (hb4.mono (by omega))
      clear hol hown hb hb4 hr4 hr7
      go_wp2
      obtain ⟨wo, rfl⟩ : ∃ wo : World, wo = wr := ⟨_, rfl⟩
      go_loopw [59] (fun i wr => ∃ i' : Nat, i' ≤ n ∧ i = .int .i64 i' ∧ wr.ownsRow w.heap.size 48 32 (.slice (some ⟨w.heap.size + 1 + 1, 0, none⟩) n n) n (bl (n * 32) (lf secret tape k j i')) ∧ Below (w.heap.size + 1 + 1) w3 wr ∧ KH.Reads wr wr.heap.size 1 (some ⟨gl, 0, none⟩) k ((rowL secret tape j (k - 1)).map (.int .i64))) (fun i _ => n - (intOf i).toNat)
      case atStart => exact ⟨0, Nat.zero_le _, rfl, hown4, hb34, hrl⟩
      case round =>
        obtain ⟨i, hin, rfl, hown5, hb5, hr5⟩ := hrel
        clear hown4 hb34 hrl
        by_cases hil : i < n
        · have hEK : evalK (rowL secret tape j (k - 1)) ((i : Int) + 1) = true := evalK_iff.2 ⟨by rw [rowL_length]; omega, rowL_all _ _ _ _, dgB_iff.2 (by omega)⟩
          have hEV : evalV (rowL secret tape j (k - 1)) ((i : Int) + 1) = (shv secret tape k i j : Nat) := by
            rw [evalV_eq hEK]; unfold shv; rw [show ((i : Int) + 1).toNat = i + 1 by omega]
          have HE := KH.hid (And.intro hEK hEV)
          clear hEK hEV
          have h255 := shv_lt secret tape k i j
          have HST := KH.hid (lf_step secret tape k j i (n * 32) hlt)
          have hg5 : w.heap.size + 1 + 1 < wr.heap.size := (hown5.lt (w.heap.size + 1 + 1) rfl).2
          go_wp2_with fail
          refine (eval_told _ hr5 (by unfold maxLen; omega) ((i : Int) + 1)).mono ?_; rintro e w6 ⟨rfl, hb6⟩
          rw [HE.out.1, HE.out.2]
          generalize shv secret tape k i j = y at *
          have hown6 := own_under hown5 hb6 hg5
          have hb36 := hb5.trans (hb6.mono (by omega))
          have hr6 := (hr5.below hb6).more hb6.size
          obtain ⟨u, hu⟩ : ∃ u, (bl (n * 32) (lf secret tape k j i))[i * 32 + j]? = some u := ⟨_, bl_get _ (by omega)⟩
          have hl7 := (hown6.cellAt (i * 32 + j) (by omega)).trans hu
          have hf7 := hown6.frozenAt (i * 32 + j)
          have HO := KH.hid (hown6.stored (i * 32 + j) (.int .u8 y)).1
          clear hown5 hb5 hr5 hb6 hown6 hu
          have HR := KH.hid (reads_far hr6 (p := ⟨w.heap.size + 1 + 1, i * 32 + j, none⟩) (by show w.heap.size + 1 + 1 ≠ gl; omega) (.int .u8 y))
          have HZ : Hid ((w6.setCell ⟨w.heap.size + 1 + 1, i * 32 + j, none⟩ (.int .u8 y)).heap.size = w6.heap.size) := by unfold Hid; simp [World.setCell]
          clear hr6
          go_wp2
          go_roundw
          case rel => exact ⟨i + 1, by omega, by go_num, by rw [← HST.out]; exact HO.out, hb36.setCell (p := ⟨w.heap.size + 1 + 1, i * 32 + j, none⟩) (Nat.le_refl _) _, by rw [HZ.out]; exact HR.out⟩
          case measure => simp [intOf]; omega
        · obtain rfl : i = n := by omega
          rw [lf_next] at hown5
          clear hr5
          go_wp2
          go_roundw
          case rel => exact ⟨j + 1, by omega, by go_num, hown5, hb5⟩
          case measure => simp [intOf]; omega
    · obtain rfl : j = 32 := by omega
      clear hc4 hc7 hi1 hy0 hy1 hy2 hlt hj
      have hBW := HB3.out.trans (hb.mono (by omega))
      clear hb
      go_wp2_with (at_make; refine wpList_make_full _ rfl _ _ 29 rfl w.heap.size 36 i2 _ 2 Tryd.underlying29 hi2 hx0 hx1 .i64 .i64 _ _ n rfl rfl rfl rfl (by rw [hx2]; omega) (by unfold maxLen; omega) (by omega) ?_; intro w5 hown5 hg5)
      have hb5 : Below wr.heap.size wr w5 := (Below.refl _ _).grown hg5 (Nat.le_refl _) (fun _ h => by cases h)
      have hln5 := own_under hown hb5 hg
      rw [← shC_replicate, ← spl_zero secret tape n k] at hown5
      have hBW5 := hBW.trans (hb5.mono (by have := hBW.size; omega))
      have hwz : w.heap.size ≤ wr.heap.size := hBW.size
      clear hown hBW hb5 hg5
      generalize wr.heap.size = gs at *
      go_loopw [82] (fun i wr => ∃ i' : Nat, i' ≤ n ∧ i = .int .i64 i' ∧ wr.ownsRow w.heap.size 36 2 (.slice (some ⟨gs, 0, none⟩) n n) n (shC (spl secret tape n k i')) ∧ Below gs w5 wr) (fun i _ => n - (intOf i).toNat)
      case atStart => exact ⟨0, Nat.zero_le _, rfl, hown5, Below.refl _ _⟩
      case round =>
        obtain ⟨i, hin, rfl, hown6, hb6⟩ := hrel
        clear hown5
        by_cases hil : i < n
        · have hln6 := own_under hln5 hb6 hg
          have hrg : wr.rangeAt (w.heap.size + 1 + 1) (i * 32) (bl 32 (shv secret tape k i)) := fun q v hv => by
            have hq : q < 32 := by
              rcases Nat.lt_or_ge q 32 with h | h
              · exact h
              · rw [List.getElem?_eq_none (by rw [bl_length]; exact h)] at hv; cases hv
            rw [hln6.cellAt (i * 32 + q) (by omega), bl_get _ (by omega), lf_all, show (i * 32 + q) / 32 = i by omega, show (i * 32 + q) % 32 = q by omega, ← hv, bl_get _ hq]
          clear hln6
          have hgs : gs < wr.heap.size := (hown6.lt gs rfl).2
          have HI : Hid ((Tryd.prog.info? 48).map (·.size) = some (bl 32 (shv secret tape k i)).length) := by unfold Hid; rw [bl_length]; exact line_info
          have HI2 : Hid ((Tryd.prog.info? 48).map (·.size) = some (bl 32 (shv secret tape k i)).toArray.size) := by unfold Hid; rw [bl_size]; exact line_info
          have HT2 : Hid ((wr.alloc (.cells #[.int .u8 0, .int .u8 0, .int .u8 0, .int .u8 0, .int .u8 0, .int .u8 0, .int .u8 0, .int .u8 0, .int .u8 0, .int .u8 0, .int .u8 0, .int .u8 0, .int .u8 0, .int .u8 0, .int .u8 0, .int .u8 0, .int .u8 0, .int .u8 0, .int .u8 0, .int .u8 0, .int .u8 0, .int .u8 0, .int .u8 0, .int .u8 0, .int .u8 0, .int .u8 0, .int .u8 0, .int .u8 0, .int .u8 0, .int .u8 0, .int .u8 0, .int .u8 0] 48)).there wr.heap.size 0 (bl 32 (shv secret tape k i)).toArray.size) := by
            unfold Hid
            rw [bl_size, zlit]
            intro q hq
            rw [Nat.zero_add, World.cell?_alloc_at _ _ _ _ rfl, World.frozen?_alloc_at _ _ _ _ rfl, List.getElem?_toArray, bl_get _ hq]
            exact ⟨rfl, rfl⟩
          have HRG2 : Hid (((wr.alloc (.cells #[.int .u8 0, .int .u8 0, .int .u8 0, .int .u8 0, .int .u8 0, .int .u8 0, .int .u8 0, .int .u8 0, .int .u8 0, .int .u8 0, .int .u8 0, .int .u8 0, .int .u8 0, .int .u8 0, .int .u8 0, .int .u8 0, .int .u8 0, .int .u8 0, .int .u8 0, .int .u8 0, .int .u8 0, .int .u8 0, .int .u8 0, .int .u8 0, .int .u8 0, .int .u8 0, .int .u8 0, .int .u8 0, .int .u8 0, .int .u8 0, .int .u8 0, .int .u8 0] 48)).setCells wr.heap.size 0 (bl 32 (shv secret tape k i))).rangeAt wr.heap.size 0 (bl 32 (shv secret tape k i))) :=
            World.rangeAt_setCells_same _ _ _ _ (by have := HT2.out; rw [bl_size] at this; rw [bl_length]; exact this)
          have HBW : Hid (Below wr.heap.size wr ((wr.alloc (.cells #[.int .u8 0, .int .u8 0, .int .u8 0, .int .u8 0, .int .u8 0, .int .u8 0, .int .u8 0, .int .u8 0, .int .u8 0, .int .u8 0, .int .u8 0, .int .u8 0, .int .u8 0, .int .u8 0, .int .u8 0, .int .u8 0, .int .u8 0, .int .u8 0, .int .u8 0, .int .u8 0, .int .u8 0, .int .u8 0, .int .u8 0, .int .u8 0, .int .u8 0, .int .u8 0, .int .u8 0, .int .u8 0, .int .u8 0, .int .u8 0, .int .u8 0, .int .u8 0] 48)).setCells wr.heap.size 0 (bl 32 (shv secret tape k i)))) := below_setCells (Nat.le_refl _) _ _ _ ((Below.refl _ _).alloc (Nat.le_refl _) _)
          have HO2 := KH.hid (all_oneCell_toArray (bl_one (N := 32) (F := shv secret tape k i)))
          have HRG := KH.hid hrg
          have H9 : Hid (∀ w9, Below ((wr.alloc (.cells #[.int .u8 0, .int .u8 0, .int .u8 0, .int .u8 0, .int .u8 0, .int .u8 0, .int .u8 0, .int .u8 0, .int .u8 0, .int .u8 0, .int .u8 0, .int .u8 0, .int .u8 0, .int .u8 0, .int .u8 0, .int .u8 0, .int .u8 0, .int .u8 0, .int .u8 0, .int .u8 0, .int .u8 0, .int .u8 0, .int .u8 0, .int .u8 0, .int .u8 0, .int .u8 0, .int .u8 0, .int .u8 0, .int .u8 0, .int .u8 0, .int .u8 0, .int .u8 0] 48)).setCells wr.heap.size 0 (bl 32 (shv secret tape k i))).heap.size ((wr.alloc (.cells #[.int .u8 0, .int .u8 0, .int .u8 0, .int .u8 0, .int .u8 0, .int .u8 0, .int .u8 0, .int .u8 0, .int .u8 0, .int .u8 0, .int .u8 0, .int .u8 0, .int .u8 0, .int .u8 0, .int .u8 0, .int .u8 0, .int .u8 0, .int .u8 0, .int .u8 0, .int .u8 0, .int .u8 0, .int .u8 0, .int .u8 0, .int .u8 0, .int .u8 0, .int .u8 0, .int .u8 0, .int .u8 0, .int .u8 0, .int .u8 0, .int .u8 0, .int .u8 0] 48)).setCells wr.heap.size 0 (bl 32 (shv secret tape k i))) w9 →
              w9.ownsRow w.heap.size 36 2 (.slice (some ⟨gs, 0, none⟩) n n) n (shC (spl secret tape n k i)) ∧ Below gs w5 w9) := fun w9 h9 => by
            have hA := HBW.out.trans (h9.mono HBW.out.size)
            exact ⟨own_under hown6 hA hgs, hb6.trans (hA.mono (by omega))⟩
          have HSTEP : Hid (((shC (spl secret tape n k i)).set (i * 2) (.int .i64 ((i + 1 : Nat) : Int))).set (i * 2 + 1) (.string (tx 32 (shv secret tape k i))) = shC (spl secret tape n k (i + 1))) := by unfold Hid; rw [← shC_set, spl_step]
          have hlen := spl_length secret tape n k i
          obtain ⟨u1, hu1⟩ : ∃ u, (shC (spl secret tape n k i))[i * 2]? = some u := ⟨_, List.getElem?_eq_getElem (by rw [shC_length]; omega)⟩
          obtain ⟨u2, hu2⟩ : ∃ u, (shC (spl secret tape n k i))[i * 2 + 1]? = some u := ⟨_, List.getElem?_eq_getElem (by rw [shC_length]; omega)⟩
          have HU := KH.hid (And.intro hu1 hu2)
          clear hrg hown6 hb6 hu1 hu2 hlen
          go_wp2_with (first | ((with_reducible show wpList _ _ _ (⟨some 86, _, _, _, _, _⟩ :: _) _ _); refine wpList_load_mid (by rfl) 48 (.tmp 85) (by rfl) (w.heap.size + 1 + 1) (i * 32) (by rfl) (bl 32 (shv secret tape k i)) _ HRG.out Tryd.underlying48 rfl HI.out ?_) | ((with_reducible show wpList _ _ _ (⟨none, Op.store _ (Operand.tmp 19) (Operand.tmp 86), _, _, _, _⟩ :: _) _ _); refine wpList_store_mid (by rfl) 48 (.tmp 19) (.tmp 86) (by rfl) wr.heap.size 0 (bl 32 (shv secret tape k i)).toArray (by rfl) (by rfl) HT2.out HI2.out HO2.out ?_) | ((with_reducible show wpList _ _ _ (⟨some 91, _, _, _, _, _⟩ :: _) _ _); refine wpList_load_mid (by rfl) 48 (.tmp 19) (by rfl) wr.heap.size 0 (by rfl) (bl 32 (shv secret tape k i)) _ HRG2.out Tryd.underlying48 rfl HI.out ?_) | (go_at_call 17; refine (text_any _ _).mono ?_; rintro e w9 ⟨rfl, hb9⟩; have ho9 := (H9.out w9 hb9).1; have hc1 := (ho9.cellAt (i * 2) (by omega)).trans HU.out.1; have hc2 := (ho9.cellAt (i * 2 + 1) (by omega)).trans HU.out.2; have hf1 := ho9.frozenAt (i * 2); have hf2 := ho9.frozenAt (i * 2 + 1)))
          have HS1 := KH.hid ((ho9.stored (i * 2) (.int .i64 ((i : Int) + 1))).1.stored (i * 2 + 1) (.string (tx 32 (shv secret tape k i)))).1
          have HB9 := KH.hid (((H9.out w9 hb9).2.setCell (p := ⟨gs, i * 2, none⟩) (Nat.le_refl _) (.int .i64 ((i : Int) + 1))).setCell (p := ⟨gs, i * 2 + 1, none⟩) (Nat.le_refl _) (.string (tx 32 (shv secret tape k i))))
          clear ho9 hc1 hc2 hf1 hf2 hb9
          go_roundw
          case rel => exact ⟨i + 1, by omega, by go_num, by rw [← HSTEP.out]; exact HS1.out, HB9.out⟩
          case measure => simp [intOf]; omega
        · obtain rfl : i = n := by omega
          rw [spl_all] at hown6
          have HL : (splitL secret tape i k).length = i := by simp [splitL]
          clear hln5
          go_wp2
          go_ret2
          exact ⟨_, _, _, by rw [HV.out.1]; rfl, by rw [HV.out.2]; exact hown6, hBW5.trans (hb6.mono hwz), by rw [HV.out.2]; exact HL⟩

theorem split_told (secret : ByteArray) (n k : Int) (tape : ByteArray) (w : World) (hs : secret.size ≤ maxLen) (ht : tape.size ≤ maxLen) :
    Calls Tryd.prog 7 #[.string secret, .int .i64 n, .int .i64 k, .string tape] w (SplitPost w secret n k tape) := by
  cases hk : splitK secret n k tape
  · exact split_no secret n k tape w hs ht hk
  · have h := hk
    unfold splitK at h
    rw [decide_eq_true_iff] at h
    obtain ⟨h1, h2, h3, h4, h5, h6⟩ := h
    obtain ⟨n', rfl⟩ := Int.eq_ofNat_of_zero_le (show 0 ≤ n by omega)
    obtain ⟨k', rfl⟩ := Int.eq_ofNat_of_zero_le (show 0 ≤ k by omega)
    exact split_yes secret n' k' tape w h1 (by omega) (by omega) (by omega) (by omega) (by omega)
end Go.Proofs.YtdeoibgedjbeiaaDoor
