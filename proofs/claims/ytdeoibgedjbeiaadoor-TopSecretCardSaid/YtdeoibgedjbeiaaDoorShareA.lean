/- Lines of 32 bytes: their text, their sums with a text. -/
import Derived.Test.YtdeoibgedjbeiaaDoorPolyG
import Derived.Test.YtdeoibgedjbeiaaDoorShareM
import Derived.Deep.MidRow
namespace Go.Proofs.YtdeoibgedjbeiaaDoor
open Go.RowKit

/-- N cells of bytes -/
def bl (N : Nat) (F : Nat → Nat) : List Value := (List.range N).map fun o => .int .u8 (F o : Nat)
theorem bl_length (N : Nat) (F : Nat → Nat) : (bl N F).length = N := by simp [bl]
theorem bl_size (N : Nat) (F : Nat → Nat) : (bl N F).toArray.size = N := by simp [bl]
theorem bl_get {N o : Nat} (F : Nat → Nat) (h : o < N) : (bl N F)[o]? = some (.int .u8 (F o : Nat)) := by
  unfold bl; rw [List.getElem?_map, List.getElem?_range h]; rfl
theorem bl_congr {N : Nat} {F G : Nat → Nat} (h : ∀ o, o < N → F o = G o) : bl N F = bl N G := by
  unfold bl; refine List.map_congr_left fun o ho => ?_; rw [h o (List.mem_range.1 ho)]
theorem bl_set {N o v : Nat} (F : Nat → Nat) : (bl N F).set o (.int .u8 (v : Nat)) = bl N fun p => if p = o then v else F p := by
  refine List.ext_getElem (by simp [bl]) fun j h1 h2 => ?_
  rw [List.getElem_set]
  by_cases e : o = j
  · subst e; simp [bl]
  · rw [if_neg e]; simp only [bl, List.getElem_map, List.getElem_range]; rw [if_neg (fun h => e h.symm)]
theorem bl_one {N : Nat} {F : Nat → Nat} : ∀ v ∈ bl N F, v.oneCell' = true := by
  intro v hv; unfold bl at hv; obtain ⟨o, _, rfl⟩ := List.mem_map.1 hv; rfl

/-- the text of N bytes -/
def tx (N : Nat) (F : Nat → Nat) : ByteArray := strOfNums ((List.range N).map fun o => ((F o : Nat) : Int))
theorem tx_size (N : Nat) (F : Nat → Nat) : (tx N F).size = N := by unfold tx; rw [strOfNums_size]; simp
theorem tx_sb {N : Nat} {F : Nat → Nat} (hF : ∀ o, o < N → F o < 256) {o : Nat} (h : o < N) : sb (tx N F) o = F o := by
  unfold sb tx
  rw [strOfNums_data, List.getD, List.getElem?_map, List.getElem?_map, List.getElem?_range h]
  show (UInt8.ofNat ((F o : Int)).toNat).toNat = F o
  rw [Int.toNat_natCast, UInt8.toNat_ofNat']
  exact Nat.mod_eq_of_lt (hF o h)
theorem sb_ext {s t : ByteArray} (hs : s.size = t.size) (h : ∀ o, o < s.size → sb s o = sb t o) : s = t := by
  apply ByteArray.ext
  apply Array.toList_inj.1
  refine List.ext_getElem (by simpa using hs) fun j h1 h2 => ?_
  have := h j (by simpa using h1)
  unfold sb at this
  rw [List.getD, List.getD, List.getElem?_eq_getElem h1, List.getElem?_eq_getElem h2] at this
  exact UInt8.toNat_inj.1 this

/-- a line as a value -/
def ln (F : Nat → Nat) : Value := .agg (bl 32 F).toArray

theorem line_info : (Tryd.prog.info? 48).map (·.size) = some 32 := by kernel_rfl

theorem text_any (F : Nat → Nat) (w : World) :
    Calls Tryd.prog 17 #[.agg (bl 32 F).toArray] w fun e w' => e = .returned (.string (tx 32 F)) ∧ Below w.heap.size w w' := by
  have hback := run_convert_bytes_arg (P := Tryd.prog) (w.alloc (.cells (bl 32 F).toArray 48)) 62 5 Tryd.underlying62 Tryd.underlying5 w.heap.size 0 32 32 ((List.range 32).map fun o => ((F o : Nat) : Int)) (by simp) (fun i hi => by
    rw [Nat.zero_add, World.cell?_alloc_at _ _ _ _ rfl, List.getElem?_toArray, bl_get F hi, List.getD, List.getElem?_map, List.getElem?_range hi]; rfl) 9 Tryd.underlying9
  go_enter Tryd.func17, Tryd.ntmps17
  go_wp2
  go_ret
  exact ⟨rfl, (Below.refl _ _).alloc (Nat.le_refl _) _⟩

theorem zlit : (#[.int .u8 0, .int .u8 0, .int .u8 0, .int .u8 0, .int .u8 0, .int .u8 0, .int .u8 0, .int .u8 0, .int .u8 0, .int .u8 0, .int .u8 0, .int .u8 0, .int .u8 0, .int .u8 0, .int .u8 0, .int .u8 0, .int .u8 0, .int .u8 0, .int .u8 0, .int .u8 0, .int .u8 0, .int .u8 0, .int .u8 0, .int .u8 0, .int .u8 0, .int .u8 0, .int .u8 0, .int .u8 0, .int .u8 0, .int .u8 0, .int .u8 0, .int .u8 0] : Array Value) = (bl 32 fun _ => 0).toArray := by kernel_rfl

theorem results_cell {P : Program} {fn : Func} {a : Nat} {t : TypeId} {v : Value} {tmps : Array Value} {w : World} {p : Addr} (h : fn.results = #[.cell a t]) (ha : tmps.getD a undef = .pointer (some p)) (hl : (loadVar t p).run P w = .ok v w) :
    (results fn tmps).run P w = .ok v w := by
  unfold results
  rw [h]
  rw [Array.getD_eq_getD_getElem?] at ha
  simp [loadVar, go_sem] at hl
  simp [ha, asAddr, go_sem]
  exact hl

theorem below_setCells {B b : Nat} {a : World} (hB : B ≤ b) : ∀ (vs : List Value) (o : Nat) (w : World), Below B a w → Below B a (w.setCells b o vs)
  | [], _, _, h => h
  | v :: r, o, w, h => by
    rw [World.setCells]
    exact below_setCells hB r (o + 1) _ (h.setCell (p := ⟨b, o, none⟩) hB v)

/-- what stands in a line's block after k rounds of plus -/
def plusF (F : Nat → Nat) (s : ByteArray) (k : Nat) (o : Nat) : Nat := if o < k then F o ^^^ sb s o else F o

set_option maxRecDepth 100000 in
theorem plus_any (F : Nat → Nat) (hF : ∀ o, o < 32 → F o < 256) (s : ByteArray) (hs : s.size = 32) (w : World) :
    Calls Tryd.prog 29 #[.agg (bl 32 F).toArray, .string s] w fun e w' => e = .returned (.agg (bl 32 fun o => F o ^^^ sb s o).toArray) ∧ Below w.heap.size w w' := by
  go_enter Tryd.func29, Tryd.ntmps29
  go_wp2
  rw [zlit]
  have hA1 : KH.Blk ((w.alloc (.cells (bl 32 F).toArray 48)).alloc (.cells (bl 32 fun _ => 0).toArray 48)) w.heap.size 48 (bl 32 F).toArray := (KH.Blk.new w _ _).alloc _
  have hA2 : KH.Blk ((w.alloc (.cells (bl 32 F).toArray 48)).alloc (.cells (bl 32 fun _ => 0).toArray 48)) (w.heap.size + 1) 48 (bl 32 fun _ => 0).toArray := by
    have := KH.Blk.new (w.alloc (.cells (bl 32 F).toArray 48)) 48 (bl 32 fun _ => 0).toArray
    simpa using this
  have hA3 := ((Below.refl w.heap.size w).alloc (Nat.le_refl _) (.cells (bl 32 F).toArray 48)).alloc (by simp) (.cells (bl 32 fun _ => 0).toArray 48)
  generalize ((w.alloc (.cells (bl 32 F).toArray 48)).alloc (.cells (bl 32 fun _ => 0).toArray 48)) = W at *
  go_loopw [6] (fun i wr => ∃ k : Nat, k ≤ 32 ∧ i = .int .i64 k ∧ KH.Blk wr w.heap.size 48 (bl 32 (plusF F s k)).toArray ∧ KH.Blk wr (w.heap.size + 1) 48 (bl 32 fun _ => 0).toArray ∧ Below w.heap.size w wr) (fun i _ => 32 - (intOf i).toNat)
  case atStart => exact ⟨0, by omega, rfl, by rw [bl_congr (G := F) fun o _ => by unfold plusF; rw [if_neg (by omega)]]; exact hA1, hA2, hA3⟩
  case round =>
    obtain ⟨k, hk, rfl, hB, hB2, hb⟩ := hrel
    clear hA1 hA2 hA3
    by_cases hlt : k < 32
    · have hks : k < s.size := by omega
      have hcell := hB.cell k
      rw [List.getElem?_toArray, bl_get _ hlt] at hcell
      have hpk : plusF F s k k = F k := by unfold plusF; rw [if_neg (by omega)]
      rw [hpk] at hcell
      have hfr := hB.frozen k
      have hFk := hF k hlt
      have hsk : (s[k]'hks).toNat < 256 := by rw [sb_get s k hks]; exact sb_lt s k
      have hxor : bits .xor .u8 (F k : Nat) ((s[k]'hks).toNat : Nat) = ((F k ^^^ sb s k : Nat) : Int) := by rw [KH.bits_xor_u8_nat _ _ hFk hsk, sb_get s k hks]
      have HST : Hid (∀ wq, KH.Blk wq w.heap.size 48 (bl 32 (plusF F s k)).toArray → KH.Blk (wq.setCell ⟨w.heap.size, k, none⟩ (.int .u8 (F k ^^^ sb s k : Nat))) w.heap.size 48 (bl 32 (plusF F s (k + 1))).toArray) := by
        intro wq hq
        have h1 := hq.set_ k (.int .u8 (F k ^^^ sb s k : Nat))
        have h2 : (bl 32 (plusF F s k)).toArray.setIfInBounds k (.int .u8 (F k ^^^ sb s k : Nat)) = (bl 32 (plusF F s (k + 1))).toArray := by
          rw [List.setIfInBounds_toArray, bl_set]
          congr 1
          refine bl_congr fun o ho => ?_
          unfold plusF
          by_cases e : o = k
          · subst e; rw [if_pos rfl, if_pos (by omega)]
          · rw [if_neg e]
            by_cases h : o < k
            · rw [if_pos h, if_pos (by omega)]
            · rw [if_neg h, if_neg (by omega)]
        rw [h2] at h1
        exact h1
      have HB := KH.hid hB
      have HB2 := KH.hid hB2
      generalize (F k ^^^ sb s k) = v at *
      generalize F k = u at *
      have k0 : (0 : Int) ≤ (k : Int) := by omega
      have k1 : (k : Int) < (32 : Int) := by omega
      have k2 : (k : Int) < (s.size : Int) := by omega
      clear hB hB2 hpk
      go_wp2
      go_still_tail 8, (by kernel_rfl)
      go_wp2
      go_roundw
      case rel => exact ⟨k + 1, by omega, by go_num, HST.out wr HB.out, HB2.out.far (by simp) _, (hb.setCell (p := ⟨w.heap.size, k, none⟩) (Nat.le_refl _) _).drew⟩
      case measure => simp [intOf]; omega
    · obtain rfl : k = 32 := by omega
      rw [bl_congr (G := fun o => F o ^^^ sb s o) fun o ho => by unfold plusF; rw [if_pos ho]] at hB
      have hrg : wr.rangeAt w.heap.size 0 (bl 32 fun o => F o ^^^ sb s o) := fun j v hv => by
        rw [Nat.zero_add, hB.cell j, List.getElem?_toArray]; exact hv
      have hth : wr.there (w.heap.size + 1) 0 32 := fun j hj => by
        rw [Nat.zero_add]; exact ⟨by rw [hB2.cell j, List.getElem?_toArray, bl_get _ hj]; rfl, hB2.frozen j⟩
      have hi1 : (Tryd.prog.info? 48).map (·.size) = some (bl 32 fun o => F o ^^^ sb s o).length := by rw [bl_length]; exact line_info
      have hi2 : (Tryd.prog.info? 48).map (·.size) = some (bl 32 fun o => F o ^^^ sb s o).toArray.size := by rw [bl_size]; exact line_info
      have ht2 : wr.there (w.heap.size + 1) 0 (bl 32 fun o => F o ^^^ sb s o).toArray.size := by rw [bl_size]; exact hth
      have ho2 := all_oneCell_toArray (bl_one (N := 32) (F := fun o => F o ^^^ sb s o))
      have HE := KH.hid (And.intro hi1 (And.intro hi2 (And.intro ht2 (And.intro ho2 hrg))))
      clear hi1 hi2 ht2 ho2 hrg hth hB hB2
      go_wp2_with (first | (refine wpList_load_mid (by rfl) 48 (.tmp 2) (by rfl) w.heap.size 0 (by rfl) (bl 32 fun o => F o ^^^ sb s o) _ HE.out.2.2.2.2 Tryd.underlying48 rfl HE.out.1 ?_) | (refine wpList_store_mid (by rfl) 48 (.tmp 4) (.tmp 18) (by rfl) (w.heap.size + 1) 0 (bl 32 fun o => F o ^^^ sb s o).toArray (by rfl) (by rfl) HE.out.2.2.1 HE.out.2.1 HE.out.2.2.2.1 ?_))
      have hload := run_loadVar_mid (P := Tryd.prog) (wr.setCells (w.heap.size + 1) 0 (bl 32 fun o => F o ^^^ sb s o)) (w.heap.size + 1) 0 48 (bl 32 fun o => F o ^^^ sb s o) _ (World.rangeAt_setCells_same _ _ _ _ (by have := HE.out.2.2.1; rw [bl_size] at this; rw [bl_length]; exact this)) Tryd.underlying48 rfl HE.out.1
      refine bodyPost_ret (v := .agg (bl 32 fun o => F o ^^^ sb s o).toArray) (results_cell Tryd.results29 (by rfl) hload) rfl ⟨rfl, below_setCells (by omega) _ _ _ hb⟩
end Go.Proofs.YtdeoibgedjbeiaaDoor
