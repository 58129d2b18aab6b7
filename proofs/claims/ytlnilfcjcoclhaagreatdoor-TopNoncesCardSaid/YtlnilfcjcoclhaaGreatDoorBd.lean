import Derived.Test.YtlnilfcjcoclhaaGreatDoorBc
/- The walk of digest.Step. -/
namespace Go.Proofs.YtlnilfcjcoclhaaGreatDoor
open Go.RowKit

/-- the rounds' words lie in the package's variable -/
def RoundsAt (K : Nat → Nat) (w : World) : Prop := 1 < w.heap.size ∧ ∀ i, i < 64 → w.cell? ⟨1, i, none⟩ = some (.int .i64 (K i : Nat)) ∧ K i < 4294967296
/-- eight words -/
def S8 (s : Nat → Nat) : Array Value := #[.int .i64 (s 0 : Nat), .int .i64 (s 1 : Nat), .int .i64 (s 2 : Nat), .int .i64 (s 3 : Nat), .int .i64 (s 4 : Nat), .int .i64 (s 5 : Nat), .int .i64 (s 6 : Nat), .int .i64 (s 7 : Nat)]
def sU (K w e f g h : Nat) : Nat := adV [h, xoV [rotV e 26, rotV e 21, rotV e 7], xoV [anV e f, anV (4294967295 - e) g], K, w]
def sV (a b c : Nat) : Nat := adV [xoV [rotV a 30, rotV a 19, rotV a 10], xoV [anV a b, anV a c, anV b c]]
/-- one round -/
def nxS (K w : Nat) (s : Nat → Nat) : Nat → Nat
  | 0 => adV [sU K w (s 4) (s 5) (s 6) (s 7), sV (s 0) (s 1) (s 2)]
  | 1 => s 0
  | 2 => s 1
  | 3 => s 2
  | 4 => adV [s 3, sU K w (s 4) (s 5) (s 6) (s 7)]
  | 5 => s 4
  | 6 => s 5
  | 7 => s 6
  | _ => 0
def runS (K W : Nat → Nat) (s : Nat → Nat) : Nat → Nat → Nat
  | 0 => s
  | k + 1 => nxS (K k) (W k) (runS K W s k)
def W8 (s : Nat → Nat) : Prop := ∀ j, j < 8 → s j < 4294967296
theorem runS_lt {K W s : Nat → Nat} (h : W8 s) (k : Nat) : W8 (runS K W s k) := by
  induction k with
  | zero => exact h
  | succ k ih =>
    intro j hj
    show nxS _ _ _ j < _
    match j, hj with
    | 0, _ => exact adV_lt _
    | 1, _ => exact ih 0 (by omega)
    | 2, _ => exact ih 1 (by omega)
    | 3, _ => exact ih 2 (by omega)
    | 4, _ => exact adV_lt _
    | 5, _ => exact ih 4 (by omega)
    | 6, _ => exact ih 5 (by omega)
    | 7, _ => exact ih 6 (by omega)
/-- the state behind a block -/
def stepV (K : Nat → Nat) (s : Nat → Nat) (b : ByteArray) (j : Nat) : Nat := adV [s j, runS K (spV b) s 64 j]
theorem stepV_lt (K s : Nat → Nat) (b : ByteArray) : W8 (stepV K s b) := fun _ _ => adV_lt _

theorem S8_bz (s : Nat → Nat) : S8 s = (bzW 8 s).toArray := rfl
theorem zlit8 : (#[.int .i64 0, .int .i64 0, .int .i64 0, .int .i64 0, .int .i64 0, .int .i64 0, .int .i64 0, .int .i64 0] : Array Value) = S8 fun _ => 0 := rfl
theorem state_info : (Tryz.prog.info? 189).map (·.size) = some 8 := by kernel_rfl
theorem there_blk {w : World} {g n : Nat} {t : TypeId} {F : Nat → Nat} (h : KH.Blk w g t (bzW n F).toArray) : w.there g 0 n := fun j hj => by
  rw [Nat.zero_add]
  exact ⟨by rw [h.cell j, List.getElem?_toArray, bzW_get _ hj]; rfl, h.frozen j⟩
theorem range_blk {w : World} {g n : Nat} {t : TypeId} {F : Nat → Nat} (h : KH.Blk w g t (bzW n F).toArray) : w.rangeAt g 0 (bzW n F) := fun j v hv => by
  rw [Nat.zero_add, h.cell j, List.getElem?_toArray]; exact hv
theorem blk_whole {w : World} {g n : Nat} {t : TypeId} {F G : Nat → Nat} (h : KH.Blk w g t (bzW n F).toArray) : KH.Blk (w.setCells g 0 (bzW n G)) g t (bzW n G).toArray :=
  blk_setCells_all h (bzW n G) (by simp [bzW_length])
/-- eight numbers -/
def n8 (x0 x1 x2 x3 x4 x5 x6 x7 : Nat) : Nat → Nat
  | 0 => x0
  | 1 => x1
  | 2 => x2
  | 3 => x3
  | 4 => x4
  | 5 => x5
  | 6 => x6
  | 7 => x7
  | _ => 0
theorem nx_n8 (K w : Nat) (s : Nat → Nat) (j : Nat) (hj : j < 8) : nxS K w s j = n8 (adV [sU K w (s 4) (s 5) (s 6) (s 7), sV (s 0) (s 1) (s 2)]) (s 0) (s 1) (s 2) (adV [s 3, sU K w (s 4) (s 5) (s 6) (s 7)]) (s 4) (s 5) (s 6) j := by
  match j, hj with
  | 0, _ => rfl
  | 1, _ => rfl
  | 2, _ => rfl
  | 3, _ => rfl
  | 4, _ => rfl
  | 5, _ => rfl
  | 6, _ => rfl
  | 7, _ => rfl
theorem there_sz {w : World} {g n : Nat} {t : TypeId} {F G : Nat → Nat} (h : KH.Blk w g t (bzW n F).toArray) : w.there g 0 (bzW n G).toArray.size := by
  have := there_blk h
  simp only [List.size_toArray, bzW_length]; exact this
/-- the sums so far -/
def endS (K s : Nat → Nat) (b : ByteArray) (k j : Nat) : Nat := if j < k then stepV K s b j else runS K (spV b) s 64 j
theorem endS_set (K s : Nat → Nat) (b : ByteArray) (k : Nat) : (bzW 8 (endS K s b k)).toArray.setIfInBounds k (.int .i64 (adV [s k, runS K (spV b) s 64 k] : Nat)) = (bzW 8 (endS K s b (k + 1))).toArray := by
  rw [List.setIfInBounds_toArray, bzW_set]
  congr 1
  refine bzW_congr fun o _ => ?_
  unfold endS
  by_cases e : o = k
  · subst e; rw [if_pos rfl, if_pos (by omega)]; rfl
  · rw [if_neg e]
    by_cases h : o < k
    · rw [if_pos h, if_pos (by omega)]
    · rw [if_neg h, if_neg (by omega)]
theorem new64 (w : World) (F : Nat → Nat) : Below w.heap.size w ((w.alloc (.cells #[.int .i64 0, .int .i64 0, .int .i64 0, .int .i64 0, .int .i64 0, .int .i64 0, .int .i64 0, .int .i64 0, .int .i64 0, .int .i64 0, .int .i64 0, .int .i64 0, .int .i64 0, .int .i64 0, .int .i64 0, .int .i64 0, .int .i64 0, .int .i64 0, .int .i64 0, .int .i64 0, .int .i64 0, .int .i64 0, .int .i64 0, .int .i64 0, .int .i64 0, .int .i64 0, .int .i64 0, .int .i64 0, .int .i64 0, .int .i64 0, .int .i64 0, .int .i64 0, .int .i64 0, .int .i64 0, .int .i64 0, .int .i64 0, .int .i64 0, .int .i64 0, .int .i64 0, .int .i64 0, .int .i64 0, .int .i64 0, .int .i64 0, .int .i64 0, .int .i64 0, .int .i64 0, .int .i64 0, .int .i64 0, .int .i64 0, .int .i64 0, .int .i64 0, .int .i64 0, .int .i64 0, .int .i64 0, .int .i64 0, .int .i64 0, .int .i64 0, .int .i64 0, .int .i64 0, .int .i64 0, .int .i64 0, .int .i64 0, .int .i64 0, .int .i64 0] 203)).setCells w.heap.size 0 (bzW 64 F)) ∧ KH.Blk ((w.alloc (.cells #[.int .i64 0, .int .i64 0, .int .i64 0, .int .i64 0, .int .i64 0, .int .i64 0, .int .i64 0, .int .i64 0, .int .i64 0, .int .i64 0, .int .i64 0, .int .i64 0, .int .i64 0, .int .i64 0, .int .i64 0, .int .i64 0, .int .i64 0, .int .i64 0, .int .i64 0, .int .i64 0, .int .i64 0, .int .i64 0, .int .i64 0, .int .i64 0, .int .i64 0, .int .i64 0, .int .i64 0, .int .i64 0, .int .i64 0, .int .i64 0, .int .i64 0, .int .i64 0, .int .i64 0, .int .i64 0, .int .i64 0, .int .i64 0, .int .i64 0, .int .i64 0, .int .i64 0, .int .i64 0, .int .i64 0, .int .i64 0, .int .i64 0, .int .i64 0, .int .i64 0, .int .i64 0, .int .i64 0, .int .i64 0, .int .i64 0, .int .i64 0, .int .i64 0, .int .i64 0, .int .i64 0, .int .i64 0, .int .i64 0, .int .i64 0, .int .i64 0, .int .i64 0, .int .i64 0, .int .i64 0, .int .i64 0, .int .i64 0, .int .i64 0, .int .i64 0] 203)).setCells w.heap.size 0 (bzW 64 F)) w.heap.size 203 (bzW 64 F).toArray ∧
    ((w.alloc (.cells #[.int .i64 0, .int .i64 0, .int .i64 0, .int .i64 0, .int .i64 0, .int .i64 0, .int .i64 0, .int .i64 0, .int .i64 0, .int .i64 0, .int .i64 0, .int .i64 0, .int .i64 0, .int .i64 0, .int .i64 0, .int .i64 0, .int .i64 0, .int .i64 0, .int .i64 0, .int .i64 0, .int .i64 0, .int .i64 0, .int .i64 0, .int .i64 0, .int .i64 0, .int .i64 0, .int .i64 0, .int .i64 0, .int .i64 0, .int .i64 0, .int .i64 0, .int .i64 0, .int .i64 0, .int .i64 0, .int .i64 0, .int .i64 0, .int .i64 0, .int .i64 0, .int .i64 0, .int .i64 0, .int .i64 0, .int .i64 0, .int .i64 0, .int .i64 0, .int .i64 0, .int .i64 0, .int .i64 0, .int .i64 0, .int .i64 0, .int .i64 0, .int .i64 0, .int .i64 0, .int .i64 0, .int .i64 0, .int .i64 0, .int .i64 0, .int .i64 0, .int .i64 0, .int .i64 0, .int .i64 0, .int .i64 0, .int .i64 0, .int .i64 0, .int .i64 0] 203)).setCells w.heap.size 0 (bzW 64 F)).heap.size = w.heap.size + 1 := by
  rw [zlit64]
  exact ⟨below_setCells (Nat.le_refl _) _ _ _ ((Below.refl _ _).alloc (Nat.le_refl _) _), blk_whole (KH.Blk.new w _ (bzW 64 fun _ => 0).toArray), by rw [setCells_heap]; simp⟩
theorem new8 (w : World) (F : Nat → Nat) : Below w.heap.size w ((w.alloc (.cells #[.int .i64 0, .int .i64 0, .int .i64 0, .int .i64 0, .int .i64 0, .int .i64 0, .int .i64 0, .int .i64 0] 189)).setCells w.heap.size 0 (bzW 8 F)) ∧ KH.Blk ((w.alloc (.cells #[.int .i64 0, .int .i64 0, .int .i64 0, .int .i64 0, .int .i64 0, .int .i64 0, .int .i64 0, .int .i64 0] 189)).setCells w.heap.size 0 (bzW 8 F)) w.heap.size 189 (bzW 8 F).toArray ∧
    ((w.alloc (.cells #[.int .i64 0, .int .i64 0, .int .i64 0, .int .i64 0, .int .i64 0, .int .i64 0, .int .i64 0, .int .i64 0] 189)).setCells w.heap.size 0 (bzW 8 F)).heap.size = w.heap.size + 1 := by
  rw [zlit8]
  exact ⟨below_setCells (Nat.le_refl _) _ _ _ ((Below.refl _ _).alloc (Nat.le_refl _) _), blk_whole (KH.Blk.new w _ (bzW 8 fun _ => 0).toArray), by rw [setCells_heap]; simp⟩
theorem there8 (w : World) (n : Nat) (hn : n = 8) : (w.alloc (.cells #[.int .i64 0, .int .i64 0, .int .i64 0, .int .i64 0, .int .i64 0, .int .i64 0, .int .i64 0, .int .i64 0] 189)).there w.heap.size 0 n := by
  subst hn; rw [zlit8]; exact there_blk (KH.Blk.new w 189 (bzW 8 fun _ => 0).toArray)
theorem there64 (w : World) (n : Nat) (hn : n = 64) : (w.alloc (.cells #[.int .i64 0, .int .i64 0, .int .i64 0, .int .i64 0, .int .i64 0, .int .i64 0, .int .i64 0, .int .i64 0, .int .i64 0, .int .i64 0, .int .i64 0, .int .i64 0, .int .i64 0, .int .i64 0, .int .i64 0, .int .i64 0, .int .i64 0, .int .i64 0, .int .i64 0, .int .i64 0, .int .i64 0, .int .i64 0, .int .i64 0, .int .i64 0, .int .i64 0, .int .i64 0, .int .i64 0, .int .i64 0, .int .i64 0, .int .i64 0, .int .i64 0, .int .i64 0, .int .i64 0, .int .i64 0, .int .i64 0, .int .i64 0, .int .i64 0, .int .i64 0, .int .i64 0, .int .i64 0, .int .i64 0, .int .i64 0, .int .i64 0, .int .i64 0, .int .i64 0, .int .i64 0, .int .i64 0, .int .i64 0, .int .i64 0, .int .i64 0, .int .i64 0, .int .i64 0, .int .i64 0, .int .i64 0, .int .i64 0, .int .i64 0, .int .i64 0, .int .i64 0, .int .i64 0, .int .i64 0, .int .i64 0, .int .i64 0, .int .i64 0, .int .i64 0] 203)).there w.heap.size 0 n := by
  subst hn; rw [zlit64]; exact there_blk (KH.Blk.new w 203 (bzW 64 fun _ => 0).toArray)
set_option maxHeartbeats 1000000 in
set_option maxRecDepth 100000 in
theorem step_yes (K s : Nat → Nat) (b : ByteArray) (w : World) (hK : RoundsAt K w) (hs : W8 s) (hb : b.size = 64) :
    Calls Tryz.prog 124 #[.agg (S8 s), .string b] w fun e w' => e = .returned (.tuple #[.agg (S8 (stepV K s b)), .bool true]) ∧ Below w.heap.size w w' := by
  go_enter Tryz.func124, Tryz.ntmps124
  go_wp2_with fail
  rw [zlit8]
  have hA0 : KH.Blk ((w.alloc (.cells (S8 s) 189)).alloc (.cells (S8 fun _ => 0) 189)) w.heap.size 189 (S8 s) := (KH.Blk.new w _ _).alloc _
  have hA1 : KH.Blk ((w.alloc (.cells (S8 s) 189)).alloc (.cells (S8 fun _ => 0) 189)) (w.heap.size + 1) 189 (S8 fun _ => 0) := by
    have := KH.Blk.new (w.alloc (.cells (S8 s) 189)) 189 (S8 fun _ => 0)
    simpa using this
  have hA3 := ((Below.refl w.heap.size w).alloc (Nat.le_refl _) (.cells (S8 s) 189)).alloc (by simp) (.cells (S8 fun _ => 0) 189)
  have hz1 : w.heap.size + 2 ≤ ((w.alloc (.cells (S8 s) 189)).alloc (.cells (S8 fun _ => 0) 189)).heap.size := by simp
  generalize ((w.alloc (.cells (S8 s) 189)).alloc (.cells (S8 fun _ => 0) 189)) = W at *
  have hrd : KH.Reads W W.heap.size 1 (some ⟨w.heap.size, 0, none⟩) 8 ((zi [s 0, s 1, s 2, s 3, s 4, s 5, s 6, s 7]).map (.int .i64)) :=
    ⟨rfl, fun _ => ⟨_, rfl, by show w.heap.size < _; omega, fun j u hu => by rw [addr_at, hA0.cell j]; exact (List.getElem?_toArray).trans hu⟩⟩
  refine (is_yes _ hrd (by intro x hx; simp at hx; rcases hx with rfl | rfl | rfl | rfl | rfl | rfl | rfl | rfl <;> exact hs _ (by omega)) (by unfold maxLen; omega)).mono ?_; rintro e w' ⟨rfl, rfl⟩
  clear hrd
  have hb64 : ((b.size : Int) != 64) = false := by simp [hb]
  have HB := KH.hid hb
  clear hb
  go_wp2_with fail
  refine (spread_yes b W HB.out).mono ?_; rintro e w2 ⟨rfl, hb2⟩
  have hs2 := hb2.size
  have hA0 := hA0.below hb2 (by omega)
  have hA1 := hA1.below hb2 (by omega)
  have hB2 := hA3.trans (hb2.mono (by omega))
  have hz2 : w.heap.size + 2 ≤ w2.heap.size := by omega
  clear hb2 hA3 hz1
  have hT6 := there64 w2 (bzW 64 (spV b)).toArray.size (by simp [bzW_length])
  have hi64 : (Tryz.prog.info? 203).map (·.size) = some (bzW 64 (spV b)).toArray.size := by simp only [List.size_toArray, bzW_length]; exact words_info
  have ho64 := all_oneCell_toArray (bzW_one (n := 64) (F := spV b))
  obtain ⟨hb6, hW6, hz6⟩ := new64 w2 (spV b)
  obtain ⟨W6, he6⟩ : ∃ W6, ((w2.alloc (.cells #[.int .i64 0, .int .i64 0, .int .i64 0, .int .i64 0, .int .i64 0, .int .i64 0, .int .i64 0, .int .i64 0, .int .i64 0, .int .i64 0, .int .i64 0, .int .i64 0, .int .i64 0, .int .i64 0, .int .i64 0, .int .i64 0, .int .i64 0, .int .i64 0, .int .i64 0, .int .i64 0, .int .i64 0, .int .i64 0, .int .i64 0, .int .i64 0, .int .i64 0, .int .i64 0, .int .i64 0, .int .i64 0, .int .i64 0, .int .i64 0, .int .i64 0, .int .i64 0, .int .i64 0, .int .i64 0, .int .i64 0, .int .i64 0, .int .i64 0, .int .i64 0, .int .i64 0, .int .i64 0, .int .i64 0, .int .i64 0, .int .i64 0, .int .i64 0, .int .i64 0, .int .i64 0, .int .i64 0, .int .i64 0, .int .i64 0, .int .i64 0, .int .i64 0, .int .i64 0, .int .i64 0, .int .i64 0, .int .i64 0, .int .i64 0, .int .i64 0, .int .i64 0, .int .i64 0, .int .i64 0, .int .i64 0, .int .i64 0, .int .i64 0, .int .i64 0] 203)).setCells w2.heap.size 0 (bzW 64 (spV b))) = W6 := ⟨_, rfl⟩
  rw [he6] at hb6 hW6 hz6
  have hA06 := hA0.below hb6 (by omega)
  have hA16 := hA1.below hb6 (by omega)
  have hr6 : W6.rangeAt w.heap.size 0 (bzW 8 s) := range_blk hA06
  have hT7 := there8 W6 (bzW 8 s).toArray.size (by simp [bzW_length])
  have hi8 : (Tryz.prog.info? 189).map (·.size) = some (bzW 8 s).length := by rw [bzW_length]; exact state_info
  have hi8' : (Tryz.prog.info? 189).map (·.size) = some (bzW 8 s).toArray.size := by simp only [List.size_toArray, bzW_length]; exact state_info
  have ho8 := all_oneCell_toArray (bzW_one (n := 8) (F := s))
  have hB6 := hB2.trans (hb6.mono (by omega))
  have hK6 : Hid (RoundsAt K W6) := ⟨by rw [hz6]; omega, fun i hi => ⟨(hB6.cell (p := ⟨1, i, none⟩) hK.1).trans (hK.2 i hi).1, (hK.2 i hi).2⟩⟩
  obtain ⟨hb7, hW7, hz7⟩ := new8 W6 s
  obtain ⟨W7, he7⟩ : ∃ W7, ((W6.alloc (.cells #[.int .i64 0, .int .i64 0, .int .i64 0, .int .i64 0, .int .i64 0, .int .i64 0, .int .i64 0, .int .i64 0] 189)).setCells W6.heap.size 0 (bzW 8 s)) = W7 := ⟨_, rfl⟩
  rw [he7] at hb7 hW7 hz7
  have HZ := KH.hid (And.intro hz6 hz7)
  clear hA0 hA1 hb6 hB2 hK hz6 hz7
  go_wp2_with (first | ((with_reducible show wpList _ _ _ (⟨none, Op.store _ (Operand.tmp 6) (Operand.tmp 30), _, _, _, _⟩ :: _) _ _); refine wpList_store_mid (by rfl) 203 (.tmp 6) (.tmp 30) (by rfl) w2.heap.size 0 (bzW 64 (spV b)).toArray (by rfl) (by rfl) hT6 hi64 ho64 ?_; clear hT6 hi64 ho64; rw [he6]; clear he6) | ((with_reducible show wpList _ _ _ (⟨some 31, _, _, _, _, _⟩ :: _) _ _); refine wpList_load_mid (by rfl) 189 (.tmp 2) (by rfl) w.heap.size 0 (by rfl) (bzW 8 s) _ hr6 Tryz.underlying189 rfl hi8 ?_) | ((with_reducible show wpList _ _ _ (⟨none, Op.store _ (Operand.tmp 7) (Operand.tmp 31), _, _, _, _⟩ :: _) _ _); refine wpList_store_mid (by rfl) 189 (.tmp 7) (.tmp 31) (by rfl) W6.heap.size 0 (bzW 8 s).toArray (by rfl) (by rfl) hT7 hi8' ho8 ?_; clear hT7 hi8 hi8' ho8 hr6; rw [he7]; clear he7))
  have hlt7 : W6.heap.size < W7.heap.size := by rw [HZ.out.2]; omega
  have hB7 : Below w.heap.size w W7 := hB6.trans (hb7.mono (by have := HZ.out.1; omega))
  have hS0 : Spr W6.heap.size W6.heap.size 189 (bzW 8 (runS K (spV b) s 0)).toArray W7 W7 := ⟨hW7, Below.refl _ _, hlt7, by omega⟩
  have HW6 := KH.hid (hW6.below hb7 (by have := HZ.out.1; omega))
  have HA0 := KH.hid (hA06.below hb7 (by have := HZ.out.1; omega))
  have HA1 := KH.hid (hA16.below hb7 (by have := HZ.out.1; omega))
  have HRK : Hid (RoundsAt K W7) := ⟨Nat.lt_of_lt_of_le hK6.out.1 hb7.size, fun i hi => ⟨(hb7.cell (p := ⟨1, i, none⟩) hK6.out.1).trans (hK6.out.2 i hi).1, (hK6.out.2 i hi).2⟩⟩
  have HSB : Hid (∀ k, W8 (runS K (spV b) s k)) := fun k => runS_lt hs k
  have hl2 : w2.heap.size < W6.heap.size := by rw [HZ.out.1]; omega
  have hl0 : 1 < W6.heap.size := by omega
  clear hW6 hA06 hA16 hb7 hW7 hK6 hB6
  go_loopw [32] (fun i wr => ∃ k : Nat, k ≤ 64 ∧ i = .int .i64 k ∧ Spr W6.heap.size W6.heap.size 189 (bzW 8 (runS K (spV b) s k)).toArray W7 wr) (fun i _ => 64 - (intOf i).toNat)
  case atStart => exact ⟨0, Nat.zero_le _, rfl, hS0⟩
  case round =>
    obtain ⟨k, hk, rfl, hS⟩ := hrel
    clear hS0
    by_cases hlt : k < 64
    · have hcell : ∀ j, j < 8 → wr.cell? ⟨W6.heap.size, j, none⟩ = some (.int .i64 (runS K (spV b) s k j : Nat)) := fun j hj => (spr_cell hS j).trans ((List.getElem?_toArray).trans (bzW_get _ hj))
      have c0 := hcell 0 (by omega)
      have c1 := hcell 1 (by omega)
      have c2 := hcell 2 (by omega)
      have c3 := hcell 3 (by omega)
      have c4 := hcell 4 (by omega)
      have c5 := hcell 5 (by omega)
      have c6 := hcell 6 (by omega)
      have c7 := hcell 7 (by omega)
      have b0 := HSB.out k 0 (by omega)
      have b1 := HSB.out k 1 (by omega)
      have b2 := HSB.out k 2 (by omega)
      have b3 := HSB.out k 3 (by omega)
      have b4 := HSB.out k 4 (by omega)
      have b5 := HSB.out k 5 (by omega)
      have b6 := HSB.out k 6 (by omega)
      have b7 := HSB.out k 7 (by omega)
      have hk1 := (HRK.out.2 k hlt).1
      have bk := (HRK.out.2 k hlt).2
      have hk2 : W7.cell? ⟨w2.heap.size, k, none⟩ = some (.int .i64 (spV b k : Nat)) := (HW6.out.cell k).trans ((List.getElem?_toArray).trans (bzW_get _ hlt))
      have bw := spV_lt b k
      have HST : Hid (runS K (spV b) s (k + 1) = nxS (K k) (spV b k) (runS K (spV b) s k)) := rfl
      have HNX : Hid (∀ j, j < 8 → nxS (K k) (spV b k) (runS K (spV b) s k) j = n8 (adV [sU (K k) (spV b k) (runS K (spV b) s k 4) (runS K (spV b) s k 5) (runS K (spV b) s k 6) (runS K (spV b) s k 7), sV (runS K (spV b) s k 0) (runS K (spV b) s k 1) (runS K (spV b) s k 2)]) (runS K (spV b) s k 0) (runS K (spV b) s k 1) (runS K (spV b) s k 2) (adV [runS K (spV b) s k 3, sU (K k) (spV b k) (runS K (spV b) s k 4) (runS K (spV b) s k 5) (runS K (spV b) s k 6) (runS K (spV b) s k 7)]) (runS K (spV b) s k 4) (runS K (spV b) s k 5) (runS K (spV b) s k 6) j) := fun j hj => nx_n8 _ _ _ j hj
      rw [← HST.out] at HNX
      clear hcell HST
      generalize runS K (spV b) s k 0 = a at *
      generalize runS K (spV b) s k 1 = b' at *
      generalize runS K (spV b) s k 2 = c at *
      generalize runS K (spV b) s k 3 = d at *
      generalize runS K (spV b) s k 4 = e at *
      generalize runS K (spV b) s k 5 = f at *
      generalize runS K (spV b) s k 6 = g at *
      generalize runS K (spV b) s k 7 = h at *
      generalize K k = Kk at *
      generalize spV b k = wk at *
      obtain ⟨m, hm⟩ : ∃ m, m = 4294967295 - e := ⟨_, rfl⟩
      have bm : m < 4294967296 := by omega
      have hme : IntKind.i64.wrap (4294967295 - (e : Int)) = (m : Int) := by rw [show (4294967295 - (e : Int)) = (m : Int) by omega]; exact IntWalk.i64_in _ (by omega)
      have HM := KH.hid hm
      clear hm
      have d64 : decide ((k : Int) < 64) = true := by rw [decide_eq_true_iff]; omega
      go_wp2
      go_quiet (fail)
      go_wp2
      have hS1 : Spr W6.heap.size W6.heap.size 189 (bzW 8 (runS K (spV b) s k)).toArray W7 (wr.drewN nq) := ⟨hS.1, below_drewN hS.2.1 nq, hS.2.2.1, hS.2.2.2⟩
      have c4 : (wr.drewN nq).cell? ⟨W6.heap.size, 4, none⟩ = some (.int .i64 (e : Nat)) := c4
      have c5 : (wr.drewN nq).cell? ⟨W6.heap.size, 5, none⟩ = some (.int .i64 (f : Nat)) := c5
      have c6 : (wr.drewN nq).cell? ⟨W6.heap.size, 6, none⟩ = some (.int .i64 (g : Nat)) := c6
      have c7 : (wr.drewN nq).cell? ⟨W6.heap.size, 7, none⟩ = some (.int .i64 (h : Nat)) := c7
      clear hS c0 c1 c2 c3
      generalize wr.drewN nq = wq1 at *
      go_quiet (fail)
      go_wp2
      have hS : Spr W6.heap.size W6.heap.size 189 (bzW 8 (runS K (spV b) s k)).toArray W7 (wq1.drewN nq).drew := ⟨hS1.1, below_drewN (below_drewN hS1.2.1 nq) 1, hS1.2.2.1, hS1.2.2.2⟩
      clear hS1 c4 c5 c6 c7
      generalize wq1.drewN nq = wq at *
      have hc1 := (hS.2.1.cell (p := ⟨1, k, none⟩) hl0).trans hk1
      have hc2 := (hS.2.1.cell (p := ⟨w2.heap.size, k, none⟩) hl2).trans hk2
      have r1 := rotV_lt e 26 b4
      have r2 := rotV_lt e 21 b4
      have r3 := rotV_lt e 7 b4
      have n1 := anV_lt e f b4
      have n2 := anV_lt m g bm
      have x1 := xo3 r1 r2 r3
      have x2 := xo2 n1 n2
      have k0 : (0 : Int) ≤ (k : Int) := by omega
      have k1 : (k : Int) < 64 := by omega
      go_region_held3 (fun w' => w'.cell? ⟨1, k, none⟩ = some (.int .i64 Kk) ∧ w'.cell? ⟨w2.heap.size, k, none⟩ = some (.int .i64 wk)) (first | exact ⟨by assumption, by assumption⟩ | exact ⟨(World.cell?_alloc_lt _ _ _ (Nat.lt_trans hl0 (spr_lt hS))).trans hc1, (World.cell?_alloc_lt _ _ _ (Nat.lt_trans hl2 (spr_lt hS))).trans hc2⟩ | go_keep)
        (first
          | ((with_reducible (go_at_call 136)); (with_reducible refine (dback_at e 6 26 _ (by omega) (by omega) (by omega) (by omega)).mono ?_); rintro e w7 ⟨rfl, hb7⟩; have hS := spr_step hS hb7; have hc1 := (hS.2.1.cell (p := ⟨1, k, none⟩) hl0).trans hk1; have hc2 := (hS.2.1.cell (p := ⟨w2.heap.size, k, none⟩) hl2).trans hk2)
          | ((with_reducible (go_at_call 136)); (with_reducible refine (dback_at e 11 21 _ (by omega) (by omega) (by omega) (by omega)).mono ?_); rintro e w7 ⟨rfl, hb7⟩; have hS := spr_step hS hb7; have hc1 := (hS.2.1.cell (p := ⟨1, k, none⟩) hl0).trans hk1; have hc2 := (hS.2.1.cell (p := ⟨w2.heap.size, k, none⟩) hl2).trans hk2)
          | ((with_reducible (go_at_call 136)); (with_reducible refine (dback_at e 25 7 _ (by omega) (by omega) (by omega) (by omega)).mono ?_); rintro e w7 ⟨rfl, hb7⟩; have hS := spr_step hS hb7; have hc1 := (hS.2.1.cell (p := ⟨1, k, none⟩) hl0).trans hk1; have hc2 := (hS.2.1.cell (p := ⟨w2.heap.size, k, none⟩) hl2).trans hk2)
          | ((with_reducible (go_at_call 135)); (with_reducible refine (xor3_any (rotV e 26) (rotV e 21) (rotV e 7) _ (by assumption) (by assumption) (by assumption)).mono ?_); rintro e w7 ⟨rfl, hb7⟩; have hS := spr_step hS hb7; have hc1 := (hS.2.1.cell (p := ⟨1, k, none⟩) hl0).trans hk1; have hc2 := (hS.2.1.cell (p := ⟨w2.heap.size, k, none⟩) hl2).trans hk2)
          | ((with_reducible (go_at_call 137)); (with_reducible refine (dand_at e f _ (by assumption) (by assumption)).mono ?_); rintro e w7 ⟨rfl, hb7⟩; have hS := spr_step hS hb7; have hc1 := (hS.2.1.cell (p := ⟨1, k, none⟩) hl0).trans hk1; have hc2 := (hS.2.1.cell (p := ⟨w2.heap.size, k, none⟩) hl2).trans hk2)
          | ((with_reducible (go_at_call 137)); (with_reducible refine (dand_at m g _ (by assumption) (by assumption)).mono ?_); rintro e w7 ⟨rfl, hb7⟩; have hS := spr_step hS hb7; have hc1 := (hS.2.1.cell (p := ⟨1, k, none⟩) hl0).trans hk1; have hc2 := (hS.2.1.cell (p := ⟨w2.heap.size, k, none⟩) hl2).trans hk2)
          | ((with_reducible (go_at_call 135)); (with_reducible refine (xor2_any (anV e f) (anV m g) _ (by assumption) (by assumption)).mono ?_); rintro e w7 ⟨rfl, hb7⟩; have hS := spr_step hS hb7; have hc1 := (hS.2.1.cell (p := ⟨1, k, none⟩) hl0).trans hk1; have hc2 := (hS.2.1.cell (p := ⟨w2.heap.size, k, none⟩) hl2).trans hk2)
          | ((with_reducible (go_at_call 134)); (with_reducible refine (add5_any h (xoV [rotV e 26, rotV e 21, rotV e 7]) (xoV [anV e f, anV m g]) Kk wk _ (by assumption) (by assumption) (by assumption) (by assumption) (by assumption)).mono ?_); rintro e w7 ⟨rfl, hb7⟩; have hS := spr_step hS hb7; have hc1 := (hS.2.1.cell (p := ⟨1, k, none⟩) hl0).trans hk1; have hc2 := (hS.2.1.cell (p := ⟨w2.heap.size, k, none⟩) hl2).trans hk2))
      have hu := adV_lt [h, xoV [rotV e 26, rotV e 21, rotV e 7], xoV [anV e f, anV m g], Kk, wk]
      have HU : Hid (sU Kk wk e f g h = adV [h, xoV [rotV e 26, rotV e 21, rotV e 7], xoV [anV e f, anV m g], Kk, wk]) := by unfold Hid sU; rw [← HM.out]
      generalize adV [h, xoV [rotV e 26, rotV e 21, rotV e 7], xoV [anV e f, anV m g], Kk, wk] = u at *
      have HV : Hid (sV a b' c = (adV [xoV [rotV a 30, rotV a 19, rotV a 10], xoV [anV a b', anV a c, anV b' c]])) := rfl
      rw [HU.out, HV.out] at HNX
      have s1 := rotV_lt a 30 b0
      have s2 := rotV_lt a 19 b0
      have s3 := rotV_lt a 10 b0
      have p1 := anV_lt a b' b0
      have p2 := anV_lt a c b0
      have p3 := anV_lt b' c b1
      have y1 := xo3 s1 s2 s3
      have y2 := xo3 p1 p2 p3
      have hv := adV_lt [xoV [rotV a 30, rotV a 19, rotV a 10], xoV [anV a b', anV a c, anV b' c]]
      have hi8n : (Tryz.prog.info? 189).map (·.size) = some (bzW 8 (n8 (adV [u, adV [xoV [rotV a 30, rotV a 19, rotV a 10], xoV [anV a b', anV a c, anV b' c]]]) a b' c (adV [d, u]) e f g)).toArray.size := by simp only [List.size_toArray, bzW_length]; exact state_info
      have ho8n := all_oneCell_toArray (bzW_one (n := 8) (F := (n8 (adV [u, adV [xoV [rotV a 30, rotV a 19, rotV a 10], xoV [anV a b', anV a c, anV b' c]]]) a b' c (adV [d, u]) e f g)))
      clear hme hc1 hc2
      go_wp2_with (first
          | ((with_reducible (go_at_call 136)); (with_reducible refine (dback_at a 2 30 _ (by omega) (by omega) (by omega) (by omega)).mono ?_); rintro e w7 ⟨rfl, hb7⟩; have hS := spr_step hS hb7)
          | ((with_reducible (go_at_call 136)); (with_reducible refine (dback_at a 13 19 _ (by omega) (by omega) (by omega) (by omega)).mono ?_); rintro e w7 ⟨rfl, hb7⟩; have hS := spr_step hS hb7)
          | ((with_reducible (go_at_call 136)); (with_reducible refine (dback_at a 22 10 _ (by omega) (by omega) (by omega) (by omega)).mono ?_); rintro e w7 ⟨rfl, hb7⟩; have hS := spr_step hS hb7)
          | ((with_reducible (go_at_call 135)); (with_reducible refine (xor3_any (rotV a 30) (rotV a 19) (rotV a 10) _ (by assumption) (by assumption) (by assumption)).mono ?_); rintro e w7 ⟨rfl, hb7⟩; have hS := spr_step hS hb7)
          | ((with_reducible (go_at_call 137)); (with_reducible refine (dand_at a b' _ (by assumption) (by assumption)).mono ?_); rintro e w7 ⟨rfl, hb7⟩; have hS := spr_step hS hb7)
          | ((with_reducible (go_at_call 137)); (with_reducible refine (dand_at a c _ (by assumption) (by assumption)).mono ?_); rintro e w7 ⟨rfl, hb7⟩; have hS := spr_step hS hb7)
          | ((with_reducible (go_at_call 137)); (with_reducible refine (dand_at b' c _ (by assumption) (by assumption)).mono ?_); rintro e w7 ⟨rfl, hb7⟩; have hS := spr_step hS hb7)
          | ((with_reducible (go_at_call 135)); (with_reducible refine (xor3_any (anV a b') (anV a c) (anV b' c) _ (by assumption) (by assumption) (by assumption)).mono ?_); rintro e w7 ⟨rfl, hb7⟩; have hS := spr_step hS hb7)
          | ((with_reducible (go_at_call 134)); (with_reducible refine (add2_any (xoV [rotV a 30, rotV a 19, rotV a 10]) (xoV [anV a b', anV a c, anV b' c]) _ (by assumption) (by assumption)).mono ?_); rintro e w7 ⟨rfl, hb7⟩; have hS := spr_step hS hb7)
          | ((with_reducible (go_at_call 134)); (with_reducible refine (add2_any u (adV [xoV [rotV a 30, rotV a 19, rotV a 10], xoV [anV a b', anV a c, anV b' c]]) _ (by assumption) (by assumption)).mono ?_); rintro e w7 ⟨rfl, hb7⟩; have hS := spr_step hS hb7)
          | ((with_reducible (go_at_call 134)); (with_reducible refine (add2_any d u _ (by assumption) (by assumption)).mono ?_); rintro e w7 ⟨rfl, hb7⟩; have hS := spr_step hS hb7)
          | ((with_reducible show wpList _ _ _ (⟨none, Op.store _ (Operand.tmp 7) (Operand.tmp 112), _, _, _, _⟩ :: _) _ _); refine wpList_store_mid (by rfl) 189 (.tmp 7) (.tmp 112) (by rfl) W6.heap.size 0 (bzW 8 (n8 (adV [u, adV [xoV [rotV a 30, rotV a 19, rotV a 10], xoV [anV a b', anV a c, anV b' c]]]) a b' c (adV [d, u]) e f g)).toArray (by rfl) (by rfl) (there_sz hS.1) hi8n ho8n ?_))
      have hS6 : Spr W6.heap.size W6.heap.size 189 (bzW 8 (runS K (spV b) s (k + 1))).toArray W7 (w7.setCells W6.heap.size 0 (bzW 8 (n8 (adV [u, adV [xoV [rotV a 30, rotV a 19, rotV a 10], xoV [anV a b', anV a c, anV b' c]]]) a b' c (adV [d, u]) e f g))) := by
        have e8 : bzW 8 (n8 (adV [u, adV [xoV [rotV a 30, rotV a 19, rotV a 10], xoV [anV a b', anV a c, anV b' c]]]) a b' c (adV [d, u]) e f g) = bzW 8 (runS K (spV b) s (k + 1)) := bzW_congr fun j hj => (HNX.out j hj).symm
        have h1 : KH.Blk (w7.setCells W6.heap.size 0 (bzW 8 (n8 (adV [u, adV [xoV [rotV a 30, rotV a 19, rotV a 10], xoV [anV a b', anV a c, anV b' c]]]) a b' c (adV [d, u]) e f g))) W6.heap.size 189 (bzW 8 (n8 (adV [u, adV [xoV [rotV a 30, rotV a 19, rotV a 10], xoV [anV a b', anV a c, anV b' c]]]) a b' c (adV [d, u]) e f g)).toArray := blk_whole hS.1
        refine ⟨?_, below_setCells (Nat.le_refl _) _ _ _ hS.2.1, by rw [setCells_heap]; exact hS.2.2.1, by rw [setCells_heap]; exact hS.2.2.2⟩
        rw [e8] at h1 ⊢
        exact h1
      clear hS hi8n ho8n
      go_roundw
      case rel => exact ⟨k + 1, by omega, by go_num, hS6⟩
      case measure => simp [intOf]; omega
    · have hk64 : k = 64 := by omega
      have hd1 : decide ((k : Int) < 64) = false := by rw [decide_eq_false_iff_not]; omega
      rw [hk64] at hS
      clear hk64
      have e0 : bzW 8 (runS K (spV b) s 64) = bzW 8 (endS K s b 0) := bzW_congr fun j _ => by unfold endS; rw [if_neg (by omega)]
      rw [e0] at hS
      clear e0
      have hS0 := hS
      clear hS
      go_wp2
      go_loopw [114] (fun t wr => ∃ i : Nat, i ≤ 8 ∧ t = .int .i64 i ∧ Spr W6.heap.size W6.heap.size 189 (bzW 8 (endS K s b i)).toArray W7 wr) (fun t _ => 8 - (intOf t).toNat)
      case atStart => exact ⟨0, Nat.zero_le _, rfl, hS0⟩
      case round =>
        obtain ⟨i, hi, rfl, hS⟩ := hrel
        clear hS0
        by_cases hil : i < 8
        · have hkc := (List.getElem?_toArray).trans (bzW_get (N := 8) (endS K s b i) hil)
          have HE : Hid (endS K s b i i = runS K (spV b) s 64 i) := by unfold Hid endS; rw [if_neg (by omega)]
          rw [HE.out] at hkc
          have hcy := (spr_cell hS i).trans hkc
          have hlw : w.heap.size < W6.heap.size := by omega
          have hx7 : W7.cell? ⟨w.heap.size, i, none⟩ = some (.int .i64 (s i : Nat)) := (HA0.out.cell i).trans ((List.getElem?_toArray).trans (bzW_get _ hil))
          have hcx : wr.cell? ⟨w.heap.size, i, none⟩ = some (.int .i64 (s i : Nat)) := (hS.2.1.cell (p := ⟨w.heap.size, i, none⟩) hlw).trans hx7
          have by' := HSB.out 64 i hil
          have bx := hs i hil
          have HST := KH.hid (endS_set K s b i)
          generalize runS K (spV b) s 64 i = y at *
          generalize s i = x at *
          have i0 : (0 : Int) ≤ (i : Int) := by omega
          have i1 : (i : Int) < 8 := by omega
          have d8 : decide ((i : Int) < 8) = true := by rw [decide_eq_true_iff]; omega
          go_wp2
          have hS1 : Spr W6.heap.size W6.heap.size 189 (bzW 8 (endS K s b i)).toArray W7 wr.drew := ⟨hS.1, hS.2.1.drew, hS.2.2.1, hS.2.2.2⟩
          have hS := hS1
          clear hS1
          have HADD : Hid (Calls Tryz.prog 134 #[.slice (some ⟨wr.heap.size, 0, none⟩) 2 2] (wr.alloc (.cells #[.int .i64 x, .int .i64 y] 3)).drew fun e w' => e = .returned (.int .i64 (adV [x, y] : Nat)) ∧ Below wr.drew.heap.size wr.drew w') := add2_any x y wr.drew bx by'
          go_region_with
            ((go_at_call 134; refine HADD.out.mono ?_; rintro e w7 ⟨rfl, hb7⟩; have hS := spr_step hS hb7; have hcs := (spr_cell hS i).trans hkc; have hfs := hS.1.frozen i; have hcx := (hS.2.1.cell (p := ⟨w.heap.size, i, none⟩) hlw).trans hx7))
          all_goals
            have hS6 := spr_set hS (Nat.le_refl _) i (.int .i64 (adV [x, y] : Nat))
            rw [HST.out] at hS6
            clear hS hcs hfs hcx
            go_wp2
            go_roundw
            case rel => exact ⟨i + 1, by omega, by go_num, hS6⟩
            case measure => simp [intOf]; omega
        · obtain rfl : i = 8 := by omega
          have hd2 : decide (((8 : Nat) : Int) < 8) = false := by decide
          have e8 : bzW 8 (endS K s b 8) = bzW 8 (stepV K s b) := bzW_congr fun j hj => by unfold endS; rw [if_pos hj]
          rw [e8] at hS
          clear e8
          have hlw1 : w.heap.size + 1 < W6.heap.size := by omega
          have hB := hB7.trans (hS.2.1.mono (by omega))
          have hT0 : KH.Blk wr (w.heap.size + 1) 189 (bzW 8 fun _ => 0).toArray := HA1.out.below hS.2.1 hlw1
          have hrg := range_blk hS.1
          have hth : wr.there (w.heap.size + 1) 0 (bzW 8 (stepV K s b)).toArray.size := there_sz hT0
          have hi1 : (Tryz.prog.info? 189).map (·.size) = some (bzW 8 (stepV K s b)).length := by rw [bzW_length]; exact state_info
          have hi2 : (Tryz.prog.info? 189).map (·.size) = some (bzW 8 (stepV K s b)).toArray.size := by simp only [List.size_toArray, bzW_length]; exact state_info
          have ho2 := all_oneCell_toArray (bzW_one (n := 8) (F := stepV K s b))
          have hF : KH.Blk (wr.setCells (w.heap.size + 1) 0 (bzW 8 (stepV K s b))) (w.heap.size + 1) 189 (bzW 8 (stepV K s b)).toArray := blk_whole hT0
          have hBF : Below w.heap.size w (wr.setCells (w.heap.size + 1) 0 (bzW 8 (stepV K s b))) := below_setCells (by omega) _ _ _ hB
          have HE := KH.hid (And.intro hi1 (And.intro hi2 (And.intro hth (And.intro ho2 hrg))))
          clear hi1 hi2 hth ho2 hrg hS hT0 hB
          go_wp2_with (first | ((with_reducible show wpList _ _ _ (⟨some 128, _, _, _, _, _⟩ :: _) _ _); refine wpList_load_mid (by rfl) 189 (.tmp 7) (by rfl) W6.heap.size 0 (by rfl) (bzW 8 (stepV K s b)) _ HE.out.2.2.2.2 Tryz.underlying189 rfl HE.out.1 ?_) | ((with_reducible show wpList _ _ _ (⟨none, Op.store _ (Operand.tmp 4) (Operand.tmp 128), _, _, _, _⟩ :: _) _ _); refine wpList_store_mid (by rfl) 189 (.tmp 4) (.tmp 128) (by rfl) (w.heap.size + 1) 0 (bzW 8 (stepV K s b)).toArray (by rfl) (by rfl) HE.out.2.2.1 HE.out.2.1 HE.out.2.2.2.1 ?_))
          have hFc : ∀ j, j < 8 → (wr.setCells (w.heap.size + 1) 0 (bzW 8 (stepV K s b))).cell? ⟨w.heap.size + 1, j, none⟩ = some (.int .i64 (stepV K s b j : Nat)) := fun j hj => (hF.cell j).trans ((List.getElem?_toArray).trans (bzW_get _ hj))
          have f0 := hFc 0 (by omega)
          have f1 := hFc 1 (by omega)
          have f2 := hFc 2 (by omega)
          have f3 := hFc 3 (by omega)
          have f4 := hFc 4 (by omega)
          have f5 := hFc 5 (by omega)
          have f6 := hFc 6 (by omega)
          have f7 := hFc 7 (by omega)
          clear hFc hF HE
          generalize wr.setCells (w.heap.size + 1) 0 (bzW 8 (stepV K s b)) = wf at *
          refine bodyPost_ret (v := .tuple #[.agg (S8 (stepV K s b)), .bool true]) (by simp [results, Tryz.results124, go_sem, f0, f1, f2, f3, f4, f5, f6, f7, S8]) rfl ⟨rfl, hBF⟩
end Go.Proofs.YtlnilfcjcoclhaaGreatDoor
