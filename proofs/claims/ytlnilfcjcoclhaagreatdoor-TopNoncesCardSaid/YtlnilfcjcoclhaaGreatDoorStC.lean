import Derived.Test.YtlnilfcjcoclhaaGreatDoorStB
import Derived.Test.YtlnilfcjcoclhaaGreatDoorTwC
import Derived.Test.YtlnilfcjcoclhaaGreatDoorBe
import Derived.Test.YtlnilfcjcoclhaaGreatDoorTwE
/- Package stream: Block's rounds, in plain numbers. -/
namespace Go.Proofs.YtlnilfcjcoclhaaGreatDoor
open Go.RowKit

/-- the places that a turn takes -/
def trT : List (List Nat) := [[0, 4, 8, 12], [1, 5, 9, 13], [2, 6, 10, 14], [3, 7, 11, 15], [0, 5, 10, 15], [1, 6, 11, 12], [2, 7, 8, 13], [3, 4, 9, 14]]
def trn (j i : Nat) : Nat := (trT.getD j []).getD i 0
/-- the table of turns lies as it is listed -/
def TurnsAt (w : World) : Prop := 0 < w.heap.size ∧ ∀ j, j < 8 → ∀ i, i < 4 → w.cell? ⟨0, j * 4 + i, none⟩ = some (.int .i64 (trn j i : Nat))
theorem trn_row : ∀ j, j < 8 → trn j 0 < 16 ∧ trn j 1 < 16 ∧ trn j 2 < 16 ∧ trn j 3 < 16 ∧ trn j 0 ≠ trn j 1 ∧ trn j 0 ≠ trn j 2 ∧ trn j 0 ≠ trn j 3 ∧ trn j 1 ≠ trn j 2 ∧ trn j 1 ≠ trn j 3 ∧ trn j 2 ≠ trn j 3 := by decide
/-- the state behind turn j -/
def turnS (j : Nat) (F : Nat → Nat) (p : Nat) : Nat :=
  let t := turnV (F (trn j 0)) (F (trn j 1)) (F (trn j 2)) (F (trn j 3))
  if p = trn j 3 then t.2.2.2 else if p = trn j 2 then t.2.2.1 else if p = trn j 1 then t.2.1 else if p = trn j 0 then t.1 else F p
theorem turnS_lt {j : Nat} {F : Nat → Nat} (hj : j < 8) (hF : ∀ p, p < 16 → F p < 4294967296) (p : Nat) (hp : p < 16) : turnS j F p < 4294967296 := by
  obtain ⟨h0, h1, h2, h3, _⟩ := trn_row j hj
  have ht := turnV_lt (a := F (trn j 0)) (c := F (trn j 2)) (hF _ h1) (hF _ h3)
  unfold turnS
  dsimp only
  split
  · exact ht.2.2.2
  · split
    · exact ht.2.2.1
    · split
      · exact ht.2.1
      · split
        · exact ht.1
        · exact hF p hp
/-- the state behind j turns -/
def turnsS (F : Nat → Nat) : Nat → Nat → Nat
  | 0 => F
  | j + 1 => turnS j (turnsS F j)
theorem turnsS_lt {F : Nat → Nat} (hF : ∀ p, p < 16 → F p < 4294967296) : ∀ j, j ≤ 8 → ∀ p, p < 16 → turnsS F j p < 4294967296
  | 0, _ => hF
  | j + 1, hj => fun p hp => turnS_lt (by omega) (turnsS_lt hF j (by omega)) p hp
/-- the state behind k rounds -/
def rndS (F : Nat → Nat) : Nat → Nat → Nat
  | 0 => F
  | k + 1 => turnsS (rndS F k) 8
theorem rndS_lt {F : Nat → Nat} (hF : ∀ p, p < 16 → F p < 4294967296) : ∀ k, ∀ p, p < 16 → rndS F k p < 4294967296
  | 0 => hF
  | k + 1 => fun p hp => turnsS_lt (rndS_lt hF k) 8 (Nat.le_refl _) p hp
/-- the bytes of a key, a nonce and a number -/
def blkV (key nonce : ByteArray) (n : Nat) : ByteArray := joV false ((List.range 16).map fun i => adV [rndS (frV key nonce n) 10 i, frV key nonce n i])
theorem blkV_size (key nonce : ByteArray) (n : Nat) : (blkV key nonce n).size = 64 := by unfold blkV; rw [joV_size]; simp

theorem wpList_index_row {P : Program} (w : World) {ops : Array Oper} {rest : List Oper} {o : Oper} {a : Act} {Q : Exit → Act → World → Prop}
    (hg : o.guard = none) (x i : Operand) (t : TypeId) (hop : o.op = Op.index t x i) {V I r : Value} (hx : a.eval x = V) (hi : a.eval i = I) (hrun : (Instr.index t V I).run P w = .ok r w)
    (hK : wpList P ops Q rest (a.put o.dst r) w) : wpList P ops Q (o :: rest) a w := by
  refine wpList_plain hg fun K' hK' => ?_
  unfold Oper.wp
  simp [execOp, hop, hx, hi, hrun, Result.andThen]
  exact hK' _ _ hK
def trL : Array Value := #[.int .i64 0, .int .i64 4, .int .i64 8, .int .i64 12, .int .i64 1, .int .i64 5, .int .i64 9, .int .i64 13, .int .i64 2, .int .i64 6, .int .i64 10, .int .i64 14, .int .i64 3, .int .i64 7, .int .i64 11, .int .i64 15, .int .i64 0, .int .i64 5, .int .i64 10, .int .i64 15, .int .i64 1, .int .i64 6, .int .i64 11, .int .i64 12, .int .i64 2, .int .i64 7, .int .i64 8, .int .i64 13, .int .i64 3, .int .i64 4, .int .i64 9, .int .i64 14]
theorem index_row : ∀ j, j < 8 → ∀ w : World, (Instr.index 167 (.agg trL) (.int .i64 (j : Nat))).run Tryz.prog w = .ok (.agg #[.int .i64 (trn j 0 : Nat), .int .i64 (trn j 1 : Nat), .int .i64 (trn j 2 : Nat), .int .i64 (trn j 3 : Nat)]) w
  | 0, _, w => by simp [Instr.index, trL, go_sem]; decide
  | 1, _, w => by simp [Instr.index, trL, go_sem]; decide
  | 2, _, w => by simp [Instr.index, trL, go_sem]; decide
  | 3, _, w => by simp [Instr.index, trL, go_sem]; decide
  | 4, _, w => by simp [Instr.index, trL, go_sem]; decide
  | 5, _, w => by simp [Instr.index, trL, go_sem]; decide
  | 6, _, w => by simp [Instr.index, trL, go_sem]; decide
  | 7, _, w => by simp [Instr.index, trL, go_sem]; decide

theorem turns_below {w w' : World} {B : Nat} (h : TurnsAt w) (hb : Below B w w') (hB : 0 < B) : TurnsAt w' :=
  ⟨Nat.lt_of_lt_of_le h.1 hb.size, fun j hj i hi => (hb.cell (p := ⟨0, j * 4 + i, none⟩) hB).trans (h.2 j hj i hi)⟩

theorem valAt_of2 {w : World} {g i : Nat} {v : Value} (h : w.cell? ⟨g, i, none⟩ = some v) : w.cell? ⟨g, i, none⟩ = some (valAt w g i) := by
  unfold valAt; rw [h]; rfl
theorem inf16 (F : Nat → Nat) : (Tryz.prog.info? 153).map (·.size) = some (bzW 16 F).length := by rw [bzW_length]; exact info16
theorem inf16' (F : Nat → Nat) : (Tryz.prog.info? 153).map (·.size) = some (bzW 16 F).toArray.size := by simp only [List.size_toArray, bzW_length]; exact info16
theorem one16 (F : Nat → Nat) : (bzW 16 F).toArray.all Value.oneCell' = true := all_oneCell_toArray (bzW_one (n := 16) (F := F))
theorem inf32 : (Tryz.prog.info? 167).map (·.size) = some trL.toList.length := by kernel_rfl
theorem there16 (w : World) (F : Nat → Nat) : (w.alloc (.cells #[.int .i64 0, .int .i64 0, .int .i64 0, .int .i64 0, .int .i64 0, .int .i64 0, .int .i64 0, .int .i64 0, .int .i64 0, .int .i64 0, .int .i64 0, .int .i64 0, .int .i64 0, .int .i64 0, .int .i64 0, .int .i64 0] 153)).there w.heap.size 0 (bzW 16 F).toArray.size := fun j hj => by
  have hj' : j < 16 := by simpa only [List.size_toArray, bzW_length] using hj
  have h := KH.Blk.new w 153 #[.int .i64 0, .int .i64 0, .int .i64 0, .int .i64 0, .int .i64 0, .int .i64 0, .int .i64 0, .int .i64 0, .int .i64 0, .int .i64 0, .int .i64 0, .int .i64 0, .int .i64 0, .int .i64 0, .int .i64 0, .int .i64 0]
  rw [z16] at h ⊢
  rw [Nat.zero_add]
  exact ⟨by rw [h.cell j, List.getElem?_toArray, bzW_get _ hj']; rfl, h.frozen j⟩
theorem whole16 (w : World) (F : Nat → Nat) : KH.Blk (World.setCells (w.alloc (.cells #[.int .i64 0, .int .i64 0, .int .i64 0, .int .i64 0, .int .i64 0, .int .i64 0, .int .i64 0, .int .i64 0, .int .i64 0, .int .i64 0, .int .i64 0, .int .i64 0, .int .i64 0, .int .i64 0, .int .i64 0, .int .i64 0] 153)) w.heap.size 0 (bzW 16 F)) w.heap.size 153 (bzW 16 F).toArray := by
  have h := KH.Blk.new w 153 #[.int .i64 0, .int .i64 0, .int .i64 0, .int .i64 0, .int .i64 0, .int .i64 0, .int .i64 0, .int .i64 0, .int .i64 0, .int .i64 0, .int .i64 0, .int .i64 0, .int .i64 0, .int .i64 0, .int .i64 0, .int .i64 0]
  rw [z16] at h ⊢
  exact blk_whole h
theorem range16 {w : World} {g : Nat} {F : Nat → Nat} (h : KH.Blk w g 153 (bzW 16 F).toArray) : w.rangeAt g 0 (bzW 16 F) := fun j v hv => by rw [Nat.zero_add, h.cell j, List.getElem?_toArray]; exact hv
theorem trL_at : ∀ j, j < 32 → trL.toList[j]? = some (.int .i64 (trn (j / 4) (j % 4) : Nat))
  | 0, _ => rfl
  | 1, _ => rfl
  | 2, _ => rfl
  | 3, _ => rfl
  | 4, _ => rfl
  | 5, _ => rfl
  | 6, _ => rfl
  | 7, _ => rfl
  | 8, _ => rfl
  | 9, _ => rfl
  | 10, _ => rfl
  | 11, _ => rfl
  | 12, _ => rfl
  | 13, _ => rfl
  | 14, _ => rfl
  | 15, _ => rfl
  | 16, _ => rfl
  | 17, _ => rfl
  | 18, _ => rfl
  | 19, _ => rfl
  | 20, _ => rfl
  | 21, _ => rfl
  | 22, _ => rfl
  | 23, _ => rfl
  | 24, _ => rfl
  | 25, _ => rfl
  | 26, _ => rfl
  | 27, _ => rfl
  | 28, _ => rfl
  | 29, _ => rfl
  | 30, _ => rfl
  | 31, _ => rfl
  | n + 32, h => absurd h (by omega)
theorem turns_range {w : World} (h : TurnsAt w) : w.rangeAt 0 0 trL.toList := fun j v hv => by
  rw [Nat.zero_add]
  have hj : j < 32 := by
    rcases Nat.lt_or_ge j 32 with h | h
    · exact h
    · rw [List.getElem?_eq_none (show trL.toList.length ≤ j from h)] at hv; cases hv
  have h1 := h.2 (j / 4) (by omega) (j % 4) (by omega)
  rw [show j / 4 * 4 + j % 4 = j by omega] at h1
  rw [h1, ← hv]
  have : ∀ j, j < 32 → trL.toList[j]? = some (.int .i64 (trn (j / 4) (j % 4) : Nat)) := trL_at
  rw [this j hj]
/-- the sums so far -/
def finS (F R : Nat → Nat) (i p : Nat) : Nat := if p < i then adV [R p, F p] else R p
theorem finS_zero (F R : Nat → Nat) : finS F R 0 = R := by funext p; unfold finS; rw [if_neg (by omega)]
theorem finS_set (F R : Nat → Nat) (i : Nat) : (bzW 16 (finS F R i)).toArray.setIfInBounds i (.int .i64 (adV [R i, F i] : Nat)) = (bzW 16 (finS F R (i + 1))).toArray := by
  rw [List.setIfInBounds_toArray, bzW_set]
  congr 1
  refine bzW_congr fun o _ => ?_
  unfold finS
  by_cases e : o = i
  · subst e; rw [if_pos rfl, if_pos (by omega)]
  · rw [if_neg e]
    by_cases h : o < i
    · rw [if_pos h, if_pos (by omega)]
    · rw [if_neg h, if_neg (by omega)]
theorem fin_all (F R : Nat → Nat) : bzW 16 (finS F R 16) = (zi ((List.range 16).map fun i => adV [R i, F i])).map (Value.int .i64) := by
  unfold bzW zi
  rw [List.map_map, List.map_map]
  refine List.map_congr_left fun i hi => ?_
  have := List.mem_range.1 hi
  show Value.int .i64 (finS F R 16 i : Nat) = Value.int .i64 (adV [R i, F i] : Nat)
  unfold finS
  rw [if_pos this]
theorem below_alloc_drew (w : World) (o : Obj) : Below w.heap.size w.drew (w.alloc o).drew :=
  ⟨rfl, rfl, rfl, by show w.heap.size ≤ (w.alloc o).heap.size; simp, fun k hk => Below.heap_alloc w o k hk⟩
/-- what a turn's stores keep -/
abbrev TuS (g12 g p0 p1 p2 p3 : Nat) (w' : World) : Prop :=
  w'.cell? ⟨g12, 0, none⟩ = some (.int .i64 p0) ∧ w'.cell? ⟨g12, 1, none⟩ = some (.int .i64 p1) ∧ w'.cell? ⟨g12, 2, none⟩ = some (.int .i64 p2) ∧ w'.cell? ⟨g12, 3, none⟩ = some (.int .i64 p3) ∧
    w'.cell? ⟨g, p0, none⟩ = some (valAt w' g p0) ∧ w'.cell? ⟨g, p1, none⟩ = some (valAt w' g p1) ∧ w'.cell? ⟨g, p2, none⟩ = some (valAt w' g p2) ∧ w'.cell? ⟨g, p3, none⟩ = some (valAt w' g p3) ∧
    (KH.Blk w' g12 166 #[.int .i64 p0, .int .i64 p1, .int .i64 p2, .int .i64 p3] ∧ ∃ F' : Nat → Nat, KH.Blk w' g 153 (bzW 16 F').toArray)
theorem cell_bz {w : World} {g p : Nat} {t : TypeId} {F : Nat → Nat} (h : KH.Blk w g t (bzW 16 F).toArray) (hp : p < 16) : w.cell? ⟨g, p, none⟩ = some (.int .i64 (F p : Nat)) := (h.cell p).trans ((List.getElem?_toArray).trans (bzW_get _ hp))
theorem set_bz {w : World} {g p v : Nat} {t : TypeId} {F : Nat → Nat} (h : KH.Blk w g t (bzW 16 F).toArray) : KH.Blk (w.setCell ⟨g, p, none⟩ (.int .i64 (v : Nat))) g t (bzW 16 fun q => if q = p then v else F q).toArray := by
  have := h.set_ p (.int .i64 (v : Nat))
  rwa [List.setIfInBounds_toArray, bzW_set] at this
theorem tuS_of {g12 g p0 p1 p2 p3 : Nat} {w' : World} (hp : p0 < 16 ∧ p1 < 16 ∧ p2 < 16 ∧ p3 < 16) (h1 : KH.Blk w' g12 166 #[.int .i64 p0, .int .i64 p1, .int .i64 p2, .int .i64 p3]) (h2 : ∃ F' : Nat → Nat, KH.Blk w' g 153 (bzW 16 F').toArray) : TuS g12 g p0 p1 p2 p3 w' := by
  have h3 := h2
  obtain ⟨F', h2⟩ := h2
  exact ⟨h1.cell 0, h1.cell 1, h1.cell 2, h1.cell 3, valAt_of2 (cell_bz h2 hp.1), valAt_of2 (cell_bz h2 hp.2.1), valAt_of2 (cell_bz h2 hp.2.2.1), valAt_of2 (cell_bz h2 hp.2.2.2), h1, h3⟩
theorem tuS_drew {g12 g p0 p1 p2 p3 : Nat} {w' : World} (h : TuS g12 g p0 p1 p2 p3 w') : TuS g12 g p0 p1 p2 p3 w'.drew := h
theorem tuS_set {g12 g p0 p1 p2 p3 p v : Nat} {w' : World} (hp : p0 < 16 ∧ p1 < 16 ∧ p2 < 16 ∧ p3 < 16) (h : TuS g12 g p0 p1 p2 p3 w') (hn : g12 ≠ g) : TuS g12 g p0 p1 p2 p3 (w'.setCell ⟨g, p, none⟩ (.int .i64 (v : Nat))) := by
  obtain ⟨_, _, _, _, _, _, _, _, h1, F', h2⟩ := h
  exact tuS_of hp (h1.far (p := ⟨g, p, none⟩) hn _) ⟨_, set_bz h2⟩
/-- what a turn's loads see -/
abbrev TenS (g12 g p0 p1 p2 p3 v0 v1 v2 v3 : Nat) (F : Nat → Nat) (w' : World) : Prop :=
  w'.cell? ⟨g12, 0, none⟩ = some (.int .i64 p0) ∧ w'.cell? ⟨g12, 1, none⟩ = some (.int .i64 p1) ∧ w'.cell? ⟨g12, 2, none⟩ = some (.int .i64 p2) ∧ w'.cell? ⟨g12, 3, none⟩ = some (.int .i64 p3) ∧
    w'.cell? ⟨g, p0, none⟩ = some (.int .i64 v0) ∧ w'.cell? ⟨g, p1, none⟩ = some (.int .i64 v1) ∧ w'.cell? ⟨g, p2, none⟩ = some (.int .i64 v2) ∧ w'.cell? ⟨g, p3, none⟩ = some (.int .i64 v3) ∧
    (KH.Blk w' g12 166 #[.int .i64 p0, .int .i64 p1, .int .i64 p2, .int .i64 p3] ∧ KH.Blk w' g 153 (bzW 16 F).toArray)
theorem tenS_of {g12 g p0 p1 p2 p3 v0 v1 v2 v3 : Nat} {F : Nat → Nat} {w' : World} (hp : p0 < 16 ∧ p1 < 16 ∧ p2 < 16 ∧ p3 < 16) (hv : v0 = F p0 ∧ v1 = F p1 ∧ v2 = F p2 ∧ v3 = F p3) (h1 : KH.Blk w' g12 166 #[.int .i64 p0, .int .i64 p1, .int .i64 p2, .int .i64 p3]) (h2 : KH.Blk w' g 153 (bzW 16 F).toArray) : TenS g12 g p0 p1 p2 p3 v0 v1 v2 v3 F w' := by
  obtain ⟨rfl, rfl, rfl, rfl⟩ := hv
  exact ⟨h1.cell 0, h1.cell 1, h1.cell 2, h1.cell 3, cell_bz h2 hp.1, cell_bz h2 hp.2.1, cell_bz h2 hp.2.2.1, cell_bz h2 hp.2.2.2, h1, h2⟩
theorem tenS_drew {g12 g p0 p1 p2 p3 v0 v1 v2 v3 : Nat} {F : Nat → Nat} {w' : World} (h : TenS g12 g p0 p1 p2 p3 v0 v1 v2 v3 F w') : TenS g12 g p0 p1 p2 p3 v0 v1 v2 v3 F w'.drew := h
theorem tenS_below {g12 g p0 p1 p2 p3 v0 v1 v2 v3 : Nat} {F : Nat → Nat} {w' w'' : World} (hp : p0 < 16 ∧ p1 < 16 ∧ p2 < 16 ∧ p3 < 16) (hv : v0 = F p0 ∧ v1 = F p1 ∧ v2 = F p2 ∧ v3 = F p3) (h : TenS g12 g p0 p1 p2 p3 v0 v1 v2 v3 F w') (hb : Below w'.drew.heap.size w'.drew w'') : TenS g12 g p0 p1 p2 p3 v0 v1 v2 v3 F w'' := by
  obtain ⟨_, _, _, _, _, _, _, _, h1, h2⟩ := h
  exact tenS_of hp hv (KH.Blk.below (w := w'.drew) h1 hb h1.lt) (KH.Blk.below (w := w'.drew) h2 hb h2.lt)
theorem turnS_blk {w : World} {g : Nat} {t : TypeId} {F : Nat → Nat} {j a b c d : Nat} (h : KH.Blk w g t (bzW 16 F).toArray) (ht : turnV (F (trn j 0)) (F (trn j 1)) (F (trn j 2)) (F (trn j 3)) = (a, b, c, d)) :
    KH.Blk ((((w.setCell ⟨g, trn j 0, none⟩ (.int .i64 (a : Nat))).setCell ⟨g, trn j 1, none⟩ (.int .i64 (b : Nat))).setCell ⟨g, trn j 2, none⟩ (.int .i64 (c : Nat))).setCell ⟨g, trn j 3, none⟩ (.int .i64 (d : Nat))) g t (bzW 16 (turnS j F)).toArray := by
  have h4 := set_bz (p := trn j 3) (v := d) (set_bz (p := trn j 2) (v := c) (set_bz (p := trn j 1) (v := b) (set_bz (p := trn j 0) (v := a) h)))
  have e : (fun q => if q = trn j 3 then d else if q = trn j 2 then c else if q = trn j 1 then b else if q = trn j 0 then a else F q) = turnS j F := by
    funext q
    unfold turnS
    rw [ht]
  rw [e] at h4
  exact h4

set_option maxHeartbeats 4000000 in
set_option maxRecDepth 100000 in
theorem block_any (key nonce : ByteArray) (n : Nat) (w : World) (hk : key.size = 32) (hn : nonce.size = 12) (h32 : n < 4294967296) (hT : TurnsAt w) :
    Calls Tryz.prog 94 #[.string key, .string nonce, .int .i64 n] w fun e w' => e = .returned (.tuple #[.string (blkV key nonce n), .int .i64 0]) ∧ Below w.heap.size w w' := by
  have HF := KH.hid (frV_lt (key := key) (nonce := nonce) h32)
  have HV : Hid (blkV key nonce n = joV false ((List.range 16).map fun i => adV [rndS (frV key nonce n) 10 i, frV key nonce n i])) := rfl
  have HT0 := KH.hid hT
  have hT1 := hT.1
  clear hT
  go_enter Tryz.func94, Tryz.ntmps94
  go_wp2_with fail
  refine (first_yes key nonce n w hk hn h32).mono ?_; rintro e w1 ⟨rfl, hb1⟩
  generalize frV key nonce n = F at *
  rw [← S16_eq]
  have hs1 := hb1.size
  have HI := KH.hid (And.intro (inf16 F) (And.intro (inf16' F) (one16 F)))
  have HWa := KH.hid (fun (w : World) => there16 w F)
  have HWb := KH.hid (fun (w : World) => whole16 w F)
  go_wp2_with (first
    | ((with_reducible show wpList _ _ _ (⟨none, Op.store _ (Operand.tmp 8) (Operand.tmp 26), _, _, _, _⟩ :: _) _ _); refine wpList_store_mid (by rfl) 153 (.tmp 8) (.tmp 26) (by rfl) w1.heap.size 0 (bzW 16 F).toArray (by rfl) (by rfl) (HWa.out w1) HI.out.2.1 HI.out.2.2 ?_; have kA := HWb.out w1; have hBA : Below w.heap.size w (World.setCells (w1.alloc (.cells #[.int .i64 0, .int .i64 0, .int .i64 0, .int .i64 0, .int .i64 0, .int .i64 0, .int .i64 0, .int .i64 0, .int .i64 0, .int .i64 0, .int .i64 0, .int .i64 0, .int .i64 0, .int .i64 0, .int .i64 0, .int .i64 0] 153)) w1.heap.size 0 (bzW 16 F)) := below_setCells hs1 _ _ _ (hb1.alloc hs1 _); obtain ⟨Wa, hWa⟩ : ∃ W, W = World.setCells (w1.alloc (.cells #[.int .i64 0, .int .i64 0, .int .i64 0, .int .i64 0, .int .i64 0, .int .i64 0, .int .i64 0, .int .i64 0, .int .i64 0, .int .i64 0, .int .i64 0, .int .i64 0, .int .i64 0, .int .i64 0, .int .i64 0, .int .i64 0] 153)) w1.heap.size 0 (bzW 16 F) := ⟨_, rfl⟩; rw [← hWa] at kA hBA ⊢; clear hWa)
    | ((with_reducible show wpList _ _ _ (⟨some 30, _, _, _, _, _⟩ :: _) _ _); refine wpList_load_mid (by rfl) 153 (.tmp 8) (by rfl) w1.heap.size 0 (by rfl) (bzW 16 F) _ (range16 kA) Tryz.underlying153 rfl HI.out.1 ?_)
    | ((with_reducible show wpList _ _ _ (⟨none, Op.store _ (Operand.tmp 10) (Operand.tmp 30), _, _, _, _⟩ :: _) _ _); refine wpList_store_mid (by rfl) 153 (.tmp 10) (.tmp 30) (by rfl) Wa.heap.size 0 (bzW 16 F).toArray (by rfl) (by rfl) (HWa.out Wa) HI.out.2.1 HI.out.2.2 ?_; have k10 := HWb.out Wa; have hBB : Below Wa.heap.size Wa (World.setCells (Wa.alloc (.cells #[.int .i64 0, .int .i64 0, .int .i64 0, .int .i64 0, .int .i64 0, .int .i64 0, .int .i64 0, .int .i64 0, .int .i64 0, .int .i64 0, .int .i64 0, .int .i64 0, .int .i64 0, .int .i64 0, .int .i64 0, .int .i64 0] 153)) Wa.heap.size 0 (bzW 16 F)) := below_setCells (Nat.le_refl _) _ _ _ ((Below.refl _ _).alloc (Nat.le_refl _) _); obtain ⟨W, hW⟩ : ∃ W, W = World.setCells (Wa.alloc (.cells #[.int .i64 0, .int .i64 0, .int .i64 0, .int .i64 0, .int .i64 0, .int .i64 0, .int .i64 0, .int .i64 0, .int .i64 0, .int .i64 0, .int .i64 0, .int .i64 0, .int .i64 0, .int .i64 0, .int .i64 0, .int .i64 0] 153)) Wa.heap.size 0 (bzW 16 F) := ⟨_, rfl⟩; rw [← hW] at k10 hBB ⊢; clear hW))
  have k8 := kA.below hBB kA.lt
  have hB := hBA.trans (hBB.mono hBA.size)
  have hlt8 := kA.lt
  obtain ⟨g10, hg10⟩ : ∃ g, g = Wa.heap.size := ⟨_, rfl⟩
  rw [← hg10] at k10 ⊢
  obtain ⟨g8, hg8⟩ : ∃ g, g = w1.heap.size := ⟨_, rfl⟩
  rw [← hg8] at k8 ⊢
  have hgg : g8 < g10 ∧ w.heap.size ≤ g8 := by omega
  have HI10 := KH.hid k10.lt
  have hI0 : KH.Blk W g10 153 (bzW 16 (rndS F 0)).toArray ∧ Below g10 W W := ⟨k10, Below.refl _ _⟩
  have HW := KH.hid (And.intro k8 (And.intro hB (turns_below HT0.out hB (by omega))))
  obtain ⟨V, hV⟩ : ∃ V, V = Value.agg (bzW 16 F).toArray := ⟨_, rfl⟩
  rw [← hV]
  clear hV k8 k10 hB hg10 hg8 hb1 hs1 kA hBA hBB hlt8 HWa HWb
  go_loopw [12, 13, 14, 15, 16, 17, 31] (fun _ _ _ _ _ _ i wr => ∃ k : Nat, k ≤ 10 ∧ i = .int .i64 k ∧ Hid (KH.Blk wr g10 153 (bzW 16 (rndS F k)).toArray ∧ Below g10 W wr)) (fun _ _ _ _ _ _ i _ => 10 - (intOf i).toNat)
  case atStart => exact ⟨0, Nat.zero_le _, rfl, hI0⟩
  case round =>
    obtain ⟨k, hk, rfl, hI⟩ := hrel
    clear hI0
    by_cases hlt : k < 10
    · have hTr := turns_below HW.out.2.2 hI.out.2 (by omega)
      have hrgT := turns_range hTr
      have HG := KH.hid (rndS_lt (fun p _ => HF.out p) k)
      have HN : Hid (rndS F (k + 1) = turnsS (rndS F k) 8) := rfl
      have hJ0 : KH.Blk wr g10 153 (bzW 16 (turnsS (rndS F k) 0)).toArray ∧ Below g10 W wr := hI.out
      clear hTr hI
      generalize rndS F k = G at *
      go_wp2_with ((with_reducible show wpList _ _ _ (⟨some 33, _, _, _, _, _⟩ :: _) _ _); refine wpList_load_mid (by rfl) 167 (.global 0) (by rfl) 0 0 (by rfl) trL.toList _ hrgT Tryz.underlying167 rfl inf32 ?_)
      have HR := KH.hid index_row
      clear hrgT
      go_loopw [12, 13, 14, 15, 16, 17, 34] (fun _ _ _ _ _ _ i w2 => ∃ j : Nat, j ≤ 8 ∧ i = .int .i64 j ∧ Hid (KH.Blk w2 g10 153 (bzW 16 (turnsS G j)).toArray ∧ Below g10 W w2)) (fun _ _ _ _ _ _ i _ => 8 - (intOf i).toNat)
      case atStart => exact ⟨0, Nat.zero_le _, rfl, hJ0⟩
      case round =>
        obtain ⟨j, hj, rfl, hI⟩ := hrel
        clear hJ0
        by_cases hlt2 : j < 8
        · obtain ⟨hp0, hp1, hp2, hp3, n01, n02, n03, n12, n13, n23⟩ := trn_row j hlt2
          have hrow := HR.out j hlt2
          have hFl := turnsS_lt HG.out j (by omega)
          have hNx : Hid (turnsS G (j + 1) = turnS j (turnsS G j)) := rfl
          generalize turnsS G j = F2 at *
          have hb0 := hFl _ hp0
          have hb1 := hFl _ hp1
          have hb2 := hFl _ hp2
          have hb3 := hFl _ hp3
          have HTB := KH.hid (fun (w : World) (g a b c d : Nat) (h : KH.Blk w g 153 (bzW 16 F2).toArray) (ht : turnV (F2 (trn j 0)) (F2 (trn j 1)) (F2 (trn j 2)) (F2 (trn j 3)) = (a, b, c, d)) => turnS_blk (j := j) h ht)
          have hv : F2 (trn j 0) = F2 (trn j 0) ∧ F2 (trn j 1) = F2 (trn j 1) ∧ F2 (trn j 2) = F2 (trn j 2) ∧ F2 (trn j 3) = F2 (trn j 3) := ⟨rfl, rfl, rfl, rfl⟩
          have hvv : ∃ v0 v1 v2 v3, v0 = F2 (trn j 0) ∧ v1 = F2 (trn j 1) ∧ v2 = F2 (trn j 2) ∧ v3 = F2 (trn j 3) := ⟨_, _, _, _, rfl, rfl, rfl, rfl⟩
          clear hv
          obtain ⟨v0, v1, v2, v3, e0, e1, e2, e3⟩ := hvv
          rw [← e0] at hb0
          rw [← e1] at hb1
          rw [← e2] at hb2
          rw [← e3] at hb3
          rw [← e0, ← e1, ← e2, ← e3] at HTB
          have hpp : trn j 0 < 16 ∧ trn j 1 < 16 ∧ trn j 2 < 16 ∧ trn j 3 < 16 := ⟨hp0, hp1, hp2, hp3⟩
          generalize trn j 0 = p0 at *
          generalize trn j 1 = p1 at *
          generalize trn j 2 = p2 at *
          generalize trn j 3 = p3 at *
          obtain ⟨a, b, c, d, ht⟩ : ∃ a b c d, turnV v0 v1 v2 v3 = (a, b, c, d) := ⟨_, _, _, _, rfl⟩
          have hturn := fun w => turn_any v0 v1 v2 v3 w hb0 hb1 hb2 hb3
          rw [ht] at hturn
          dsimp only at hturn
          have HPV := KH.hid (And.intro hpp (And.intro e0 (And.intro e1 (And.intro e2 e3))))
          have HTU := KH.hid (And.intro hturn (And.intro ht HTB.out))
          obtain ⟨k10, hBw⟩ := hI.out
          have hz2 := hBw.size
          have k12 := KH.Blk.new wr 166 #[.int .i64 p0, .int .i64 p1, .int .i64 p2, .int .i64 p3]
          have k10a := k10.alloc (.cells #[.int .i64 p0, .int .i64 p1, .int .i64 p2, .int .i64 p3] 166)
          have hg10z := k10.lt
          have HA := KH.hid (And.intro k12 (And.intro k10a (hBw.alloc (by omega) (.cells #[.int .i64 p0, .int .i64 p1, .int .i64 p2, .int .i64 p3] 166))))
          have j0 : (0 : Int) ≤ (p0 : Int) := by omega
          have j1 : (0 : Int) ≤ (p1 : Int) := by omega
          have j2 : (0 : Int) ≤ (p2 : Int) := by omega
          have j3 : (0 : Int) ≤ (p3 : Int) := by omega
          have l0 : (p0 : Int) < 16 := by omega
          have l1 : (p1 : Int) < 16 := by omega
          have l2 : (p2 : Int) < 16 := by omega
          have l3 : (p3 : Int) < 16 := by omega
          have dj : decide ((j : Int) < 8) = true := by rw [decide_eq_true_iff]; omega
          clear hturn ht HTB k10 k12 k10a hBw hI hFl e0 e1 e2 e3 hb0 hb1 hb2 hb3 hpp hp0 hp1 hp2 hp3
          go_wp2_with ((with_reducible show wpList _ _ _ (⟨some 36, _, _, _, _, _⟩ :: _) _ _); refine wpList_index_row _ rfl (.tmp 33) (.tmp 34) 167 rfl (by rfl) (by rfl) (hrow _) ?_)
          generalize wr.alloc (.cells #[.int .i64 p0, .int .i64 p1, .int .i64 p2, .int .i64 p3] 166) = wa at *
          obtain ⟨g12, hg12⟩ : ∃ g, g = wr.heap.size := ⟨_, rfl⟩
          rw [← hg12] at HA ⊢
          have hng : g12 ≠ g10 := by omega
          clear hg12
          have hT0 := tenS_of HPV.out.1 HPV.out.2 HA.out.1 HA.out.2.1
          have HS := KH.hid (tenS_drew hT0)
          have HT5 := KH.hid hT0
          obtain ⟨t0, t1, t2, t3, t4, t5, t6, t7, -⟩ := hT0
          go_region_held3 (fun w' => w'.cell? ⟨g12, 0, none⟩ = some (.int .i64 p0) ∧ w'.cell? ⟨g12, 1, none⟩ = some (.int .i64 p1) ∧ w'.cell? ⟨g12, 2, none⟩ = some (.int .i64 p2) ∧ w'.cell? ⟨g12, 3, none⟩ = some (.int .i64 p3) ∧
              w'.cell? ⟨g10, p0, none⟩ = some (.int .i64 v0) ∧ w'.cell? ⟨g10, p1, none⟩ = some (.int .i64 v1) ∧ w'.cell? ⟨g10, p2, none⟩ = some (.int .i64 v2) ∧ w'.cell? ⟨g10, p3, none⟩ = some (.int .i64 v3) ∧
              (KH.Blk w' g12 166 #[.int .i64 p0, .int .i64 p1, .int .i64 p2, .int .i64 p3] ∧ KH.Blk w' g10 153 (bzW 16 F2).toArray))
            (first | with_reducible exact HS.out | with_reducible exact hT5) ((go_at_call 107; refine (HTU.out.1 _).mono ?_; rintro e w5 ⟨rfl, hb5⟩; have hT5 := tenS_below HPV.out.1 HPV.out.2 HT5.out hb5))
          obtain ⟨x0, x1, x2, x3, x4, x5, x6, x7, k12, k10⟩ := hT5
          have f0 := k10.frozen p0
          have f1 := k10.frozen p1
          have f2 := k10.frozen p2
          have f3 := k10.frozen p3
          have hU := tuS_of HPV.out.1 k12 ⟨F2, k10⟩
          have hU1 := tuS_set (p := p0) (v := a) HPV.out.1 hU hng
          have hU2 := tuS_set (p := p1) (v := b) HPV.out.1 hU1 hng
          have hU3 := tuS_set (p := p2) (v := c) HPV.out.1 hU2 hng
          have hU4 := tuS_set (p := p3) (v := d) HPV.out.1 hU3 hng
          have HU := KH.hid (And.intro (tuS_drew hU) (And.intro (tuS_drew hU1) (And.intro (tuS_drew hU2) (And.intro (tuS_drew hU3) (tuS_drew hU4)))))
          have hbA := HA.out.2.2
          have hzA := hbA.size
          have hsW : g10 < W.heap.size := HI10.out
          have hB5 : Below g10 W w5 := hbA.drew.trans (hb5.mono (by show g10 ≤ wa.heap.size; omega))
          have hF5 := HTU.out.2.2 w5 g10 a b c d k10 HTU.out.2.1
          rw [← hNx.out] at hF5
          have hB6 := (((hB5.setCell (p := ⟨g10, p0, none⟩) (Nat.le_refl _) (.int .i64 (a : Nat))).setCell (p := ⟨g10, p1, none⟩) (Nat.le_refl _) (.int .i64 (b : Nat))).setCell (p := ⟨g10, p2, none⟩) (Nat.le_refl _) (.int .i64 (c : Nat))).setCell (p := ⟨g10, p3, none⟩) (Nat.le_refl _) (.int .i64 (d : Nat))
          have HFF := KH.hid (And.intro hF5.drew hB6.drew)
          clear hU hU1 hU2 hU3 hU4 k12 k10 hF5 hB5 hB6 hb5 hbA hzA t0 t1 t2 t3 t4 t5 t6 t7 HT5 HS hsW
          go_wp2_with fail
          go_region_held3 (fun w' => w'.cell? ⟨g12, 0, none⟩ = some (.int .i64 p0) ∧ w'.cell? ⟨g12, 1, none⟩ = some (.int .i64 p1) ∧ w'.cell? ⟨g12, 2, none⟩ = some (.int .i64 p2) ∧ w'.cell? ⟨g12, 3, none⟩ = some (.int .i64 p3) ∧ w'.cell? ⟨g10, p0, none⟩ = some (valAt w' g10 p0) ∧ w'.cell? ⟨g10, p1, none⟩ = some (valAt w' g10 p1) ∧ w'.cell? ⟨g10, p2, none⟩ = some (valAt w' g10 p2) ∧ w'.cell? ⟨g10, p3, none⟩ = some (valAt w' g10 p3) ∧ (KH.Blk w' g12 166 #[.int .i64 p0, .int .i64 p1, .int .i64 p2, .int .i64 p3] ∧ ∃ F' : Nat → Nat, KH.Blk w' g10 153 (bzW 16 F').toArray)) (first | with_reducible exact HU.out.1 | with_reducible exact HU.out.2.1 | with_reducible exact HU.out.2.2.1 | with_reducible exact HU.out.2.2.2.1 | with_reducible exact HU.out.2.2.2.2) (fail)
          go_wp2_with fail
          exact ⟨⟨j + 1, by omega, by go_num, HFF.out⟩, by simp [intOf]; omega⟩
        · obtain rfl : j = 8 := by omega
          have HE := hI
          rw [← HN.out] at HE
          clear hI
          go_wp2_with fail
          exact ⟨⟨k + 1, by omega, by go_num, HE.out⟩, by simp [intOf]; omega⟩
    · obtain rfl : k = 10 := by omega
      rw [show ((10 : Nat) : Int) = (10 : Int) from rfl]
      have hR := fun p (hp : p < 16) => rndS_lt (fun p _ => HF.out p) 10 p hp
      have hsI := hI.out.2.size
      have hS0 : Spr g10 g10 153 (bzW 16 (finS F (rndS F 10) 0)).toArray W wr := ⟨by rw [finS_zero]; exact hI.out.1, hI.out.2, hI.out.1.lt, Nat.le_of_lt hI.out.1.lt⟩
      have HR := KH.hid hR
      have h8W := HW.out.1
      clear hI hR
      generalize rndS F 10 = R at *
      go_wp2_with fail
      go_loopw [18, 78] (fun _ t wr => ∃ i : Nat, i ≤ 16 ∧ t = .int .i64 i ∧ Spr g10 g10 153 (bzW 16 (finS F R i)).toArray W wr) (fun _ t _ => 16 - (intOf t).toNat)
      case atStart => exact ⟨0, Nat.zero_le _, rfl, hS0⟩
      case round =>
        obtain ⟨i, hi, rfl, hS⟩ := hrel
        clear hS0
        by_cases hil : i < 16
        · have hkc := (List.getElem?_toArray).trans (bzW_get (N := 16) (finS F R i) hil)
          have HE : Hid (finS F R i i = R i) := by unfold Hid finS; rw [if_neg (by omega)]
          rw [HE.out] at hkc
          have hcy := (spr_cell hS i).trans hkc
          have hx7 : W.cell? ⟨g8, i, none⟩ = some (.int .i64 (F i : Nat)) := cell_bz h8W hil
          have hcx : wr.cell? ⟨g8, i, none⟩ = some (.int .i64 (F i : Nat)) := (hS.2.1.cell (p := ⟨g8, i, none⟩) hgg.1).trans hx7
          have by' := HR.out i hil
          have bx := HF.out i
          have HST := KH.hid (finS_set F R i)
          generalize R i = y at *
          generalize F i = x at *
          have i0 : (0 : Int) ≤ (i : Int) := by omega
          have i1 : (i : Int) < 16 := by omega
          have d16 : decide ((i : Int) < 16) = true := by rw [decide_eq_true_iff]; omega
          go_wp2_with fail
          have hS1 : Spr g10 g10 153 (bzW 16 (finS F R i)).toArray W wr.drew := ⟨hS.1, hS.2.1.drew, hS.2.2.1, hS.2.2.2⟩
          have hS := hS1
          clear hS1
          have hr2 : KH.Reads (wr.alloc (.cells #[.int .i64 y, .int .i64 x] 3)).drew (wr.heap.size + 1) 1 (some ⟨wr.heap.size, 0, none⟩) 2 ((zi [y, x]).map (.int .i64)) := (lits_reads wr [y, x] 3).drew
          have HADD : Hid (Calls Tryz.prog 108 #[.slice (some ⟨wr.heap.size, 0, none⟩) 2 2] (wr.alloc (.cells #[.int .i64 y, .int .i64 x] 3)).drew fun e w' => e = .returned (.tuple #[.int .i64 (adV [y, x] : Nat), .bool true]) ∧ Below wr.drew.heap.size wr.drew w') :=
            KH.hid ((wadd_yes 2 hr2 (by intro q hq; simp at hq; rcases hq with rfl | rfl <;> assumption) (by unfold maxLen; omega)).mono fun _ _ ⟨he, hw⟩ => ⟨he, hw ▸ below_alloc_drew wr _⟩)
          clear hr2
          go_region_with
            ((go_at_call 108; refine HADD.out.mono ?_; rintro e w7 ⟨rfl, hb7⟩; have hS := spr_step hS hb7; have hcs := (spr_cell hS i).trans hkc; have hfs := hS.1.frozen i; have hcx := (hS.2.1.cell (p := ⟨g8, i, none⟩) hgg.1).trans hx7))
          all_goals
            have hS6 := spr_set hS (Nat.le_refl _) i (.int .i64 (adV [y, x] : Nat))
            rw [HST.out] at hS6
            clear hS hcs hfs hcx
            go_wp2_with fail
            go_roundw
            case rel => exact ⟨i + 1, by omega, by go_num, hS6⟩
            case measure => simp [intOf]; omega
        · obtain rfl : i = 16 := by omega
          have hL : bzW 16 (finS F R 16) = (zi ((List.range 16).map fun i => adV [R i, F i])).map (.int .i64) := fin_all F R
          have hz9 := hS.2.2.1
          have hrd : KH.Reads wr wr.heap.size 1 (some ⟨g10, 0, none⟩) 16 ((zi ((List.range 16).map fun i => adV [R i, F i])).map (.int .i64)) := by
            rw [← hL]
            exact KH.Reads.of_blk hS.1 (bzW_length _ _)
          have HJ := KH.hid (fun c => join_no c hrd (by intro x hx; obtain ⟨q, _, rfl⟩ := List.mem_map.1 hx; exact adV_lt _) (by omega))
          rw [← HV.out] at HJ
          have hBF := HW.out.2.1.trans (hS.2.1.mono (by omega))
          clear hL hrd hS
          go_wp2_with (go_at_call 47; refine (HJ.out _).mono ?_; rintro e w9 ⟨rfl, hb9⟩)
          go_ret2
          exact ⟨rfl, hBF.trans (hb9.mono hBF.size)⟩
end Go.Proofs.YtlnilfcjcoclhaaGreatDoor
