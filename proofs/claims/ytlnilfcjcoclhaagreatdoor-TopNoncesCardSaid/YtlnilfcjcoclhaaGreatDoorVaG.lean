import Derived.Test.YtlnilfcjcoclhaaGreatDoorVaF
import Derived.Deep.CutRange
import Derived.Deep.RegionLaw
import Derived.Deep.DeepCutAuto
/- Package vault: Store. -/
namespace Go.Proofs.YtlnilfcjcoclhaaGreatDoor
open Go.RowKit Go.Shelf
attribute [local go_sem] Oper.semAt_some

theorem fallS_other {S : List ByteArray} {i j : Nat} {s : ByteArray} {f : Int} (h : i ≠ j) : (fallS S i s f).getD j ⟨#[]⟩ = S.getD j ⟨#[]⟩ := by
  have hs : ∀ b, (S.set i b).getD j ⟨#[]⟩ = S.getD j ⟨#[]⟩ := fun b => by
    rw [List.getD_eq_getElem?_getD, List.getD_eq_getElem?_getD, List.getElem?_set_ne h]
  unfold fallS
  split
  · rfl
  · split
    · exact hs _
    · exact hs _
theorem settleS_other {S : List ByteArray} {C : List (Int × ByteArray)} {f : Nat → Int} {j : Nat} (h : ∀ p ∈ C, p.1.toNat ≠ j) : ∀ k, k ≤ C.length → (settleS S C f k).getD j ⟨#[]⟩ = S.getD j ⟨#[]⟩
  | 0, _ => rfl
  | k + 1, hk => by
    rw [settleS, fallS_other, settleS_other h k (by omega)]
    rw [List.getD_eq_getElem?_getD, List.getElem?_eq_getElem (by omega)]
    exact h _ (List.getElem_mem (by omega))
theorem stS_low (S : List ByteArray) (n a : Nat) (Bl : List ByteArray) {j : Nat} (hj : j < 3) : (stS S n a Bl).getD j ⟨#[]⟩ = S.getD j ⟨#[]⟩ := by
  unfold stS
  refine settleS_other (fun p hp => ?_) _ (Nat.le_refl _)
  obtain ⟨i, hi, rfl⟩ := List.mem_map.1 hp
  show ((3 + (1 - a) * n + i : Nat) : Int).toNat ≠ j
  omega
theorem stS_mark (S : List ByteArray) (n a : Nat) (Bl : List ByteArray) : fOf (stS S n a Bl) = fOf S ∧ mOf (stS S n a Bl) = mOf S ∧ (MkIn S → MkIn (stS S n a Bl)) := by
  unfold fOf mOf MkIn
  rw [stS_low S n a Bl (by omega)]
  exact ⟨rfl, rfl, id⟩
/-- the disk behind a Store of so many deeds -/
def stoD (K : Nat → Nat) (S : List ByteArray) (n a g : Nat) (Bl : List ByteArray) (t : Nat) : Dsk := if t ≤ n then stD S n a Bl t else putD (stS S n a Bl) (fOf S) (hdS (g + 1) (1 - a) (rootV K Bl)) (mOf S) (t - (n + 1))
theorem alloc6 (w : World) (t1 t2 t3 t4 t5 t6 : TypeId) (a b c d e f : Array Value) (W : World) (hW : W = (((((w.alloc (.cells a t1)).alloc (.cells b t2)).alloc (.cells c t3)).alloc (.cells d t4)).alloc (.cells e t5)).alloc (.cells f t6)) :
    KH.Blk W w.heap.size t1 a ∧ KH.Blk W (w.heap.size + 1) t2 b ∧ KH.Blk W (w.heap.size + 1 + 1) t3 c ∧ KH.Blk W (w.heap.size + 1 + 1 + 1) t4 d ∧ KH.Blk W (w.heap.size + 1 + 1 + 1 + 1) t5 e ∧ KH.Blk W (w.heap.size + 1 + 1 + 1 + 1 + 1) t6 f ∧ Below w.heap.size w W ∧ W.heap.size = w.heap.size + 6 := by
  subst hW
  obtain ⟨h1, h2, h3, h4⟩ := pack3 w t1 t2 t3 a b c
  obtain ⟨W3, hW3⟩ : ∃ W3, W3 = ((w.alloc (.cells a t1)).alloc (.cells b t2)).alloc (.cells c t3) := ⟨_, rfl⟩
  have hz : W3.heap.size = w.heap.size + 1 + 1 + 1 := by rw [hW3]; simp
  rw [← hW3] at h1 h2 h3 h4 ⊢
  obtain ⟨g1, g2, g3, g4⟩ := pack3 W3 t4 t5 t6 d e f
  rw [hz] at g1 g2 g3
  exact ⟨((h1.alloc _).alloc _).alloc _, ((h2.alloc _).alloc _).alloc _, ((h3.alloc _).alloc _).alloc _, g1, g2, g3, h4.trans (g4.mono (by omega)), by simp; omega⟩
theorem wp_blind {P : Program} {s : Code} {K : Act → World → Prop} {Q : Exit → Act → World → Prop} {a : Act} {w : World} (h : s.wp P (Exit.then K fun _ _ _ => False) a w) : s.wp P (Exit.then K Q) a w := by
  refine wp_mono h ?_
  intro e a' w' hq
  cases e with
  | normal => exact hq
  | exit id => exact hq.elim
  | goto l => exact hq.elim
  | ret => exact hq.elim
  | panic ch => exact hq.elim
  | outgrown => exact hq.elim
/-- where Store's variables lie -/
structure StM (W : World) (g3 g4 g5 g6 g7 g8 g9 g10 : Nat) (x y : Value) (vol ch : Array Value) (d : Int) : Prop where
  b3 : KH.Blk W g3 35 #[x, y]
  b4 : KH.Blk W g4 48 vol
  b5 : KH.Blk W g5 3 #[.int .i64 d]
  b6 : KH.Blk W g6 35 #[.slice none 0 0, .slice none 0 0]
  b7 : KH.Blk W g7 4 #[.bool false]
  b8 : KH.Blk W g8 41 #[.int .i64 0]
  b9 : KH.Blk W g9 73 ch
  b10 : KH.Blk W g10 41 #[.int .i64 0]
theorem StM.below {W W' : World} {g3 g4 g5 g6 g7 g8 g9 g10 B : Nat} {x y : Value} {vol ch : Array Value} {d : Int} (h : StM W g3 g4 g5 g6 g7 g8 g9 g10 x y vol ch d) (hb : Below B W W') (ho : g3 < g4 ∧ g4 < g5 ∧ g5 < g6 ∧ g6 < g7 ∧ g7 < g8 ∧ g8 < g9 ∧ g9 < g10 ∧ g10 < B) : StM W' g3 g4 g5 g6 g7 g8 g9 g10 x y vol ch d :=
  ⟨h.b3.below hb (by omega), h.b4.below hb (by omega), h.b5.below hb (by omega), h.b6.below hb (by omega), h.b7.below hb (by omega), h.b8.below hb (by omega), h.b9.below hb (by omega), h.b10.below hb (by omega)⟩
theorem StM.setD {W : World} {g3 g4 g5 g6 g7 g8 g9 g10 : Nat} {x y : Value} {vol ch : Array Value} {d : Int} (h : StM W g3 g4 g5 g6 g7 g8 g9 g10 x y vol ch d) (ho : g3 < g4 ∧ g4 < g5 ∧ g5 < g6 ∧ g6 < g7 ∧ g7 < g8 ∧ g8 < g9 ∧ g9 < g10) (d' : Int) : StM (W.setCell ⟨g5, 0, none⟩ (.int .i64 d')) g3 g4 g5 g6 g7 g8 g9 g10 x y vol ch d' :=
  ⟨h.b3.far (p := ⟨g5, 0, none⟩) (by show g3 ≠ g5; omega) _, h.b4.far (p := ⟨g5, 0, none⟩) (by show g4 ≠ g5; omega) _, h.b5.set_ 0 (.int .i64 d'), h.b6.far (p := ⟨g5, 0, none⟩) (by show g6 ≠ g5; omega) _, h.b7.far (p := ⟨g5, 0, none⟩) (by show g7 ≠ g5; omega) _, h.b8.far (p := ⟨g5, 0, none⟩) (by show g8 ≠ g5; omega) _, h.b9.far (p := ⟨g5, 0, none⟩) (by show g9 ≠ g5; omega) _, h.b10.far (p := ⟨g5, 0, none⟩) (by show g10 ≠ g5; omega) _⟩
theorem StM.setP {W : World} {g3 g4 g5 g6 g7 g8 g9 g10 : Nat} {x y : Value} {vol ch : Array Value} {d : Int} (h : StM W g3 g4 g5 g6 g7 g8 g9 g10 x y vol ch d) (ho : g3 < g4 ∧ g4 < g5 ∧ g5 < g6 ∧ g6 < g7 ∧ g7 < g8 ∧ g8 < g9 ∧ g9 < g10) (x' y' : Value) : StM ((W.setCell ⟨g3, 0, none⟩ x').setCell ⟨g3, 1, none⟩ y') g3 g4 g5 g6 g7 g8 g9 g10 x' y' vol ch d :=
  ⟨by have := (h.b3.set_ 0 x').set_ 1 y'; simpa using this, (h.b4.far (p := ⟨g3, 0, none⟩) (by show g4 ≠ g3; omega) _).far (p := ⟨g3, 1, none⟩) (by show g4 ≠ g3; omega) _, (h.b5.far (p := ⟨g3, 0, none⟩) (by show g5 ≠ g3; omega) _).far (p := ⟨g3, 1, none⟩) (by show g5 ≠ g3; omega) _,
    (h.b6.far (p := ⟨g3, 0, none⟩) (by show g6 ≠ g3; omega) _).far (p := ⟨g3, 1, none⟩) (by show g6 ≠ g3; omega) _, (h.b7.far (p := ⟨g3, 0, none⟩) (by show g7 ≠ g3; omega) _).far (p := ⟨g3, 1, none⟩) (by show g7 ≠ g3; omega) _, (h.b8.far (p := ⟨g3, 0, none⟩) (by show g8 ≠ g3; omega) _).far (p := ⟨g3, 1, none⟩) (by show g8 ≠ g3; omega) _,
    (h.b9.far (p := ⟨g3, 0, none⟩) (by show g9 ≠ g3; omega) _).far (p := ⟨g3, 1, none⟩) (by show g9 ≠ g3; omega) _, (h.b10.far (p := ⟨g3, 0, none⟩) (by show g10 ≠ g3; omega) _).far (p := ⟨g3, 1, none⟩) (by show g10 ≠ g3; omega) _⟩
/-- what the rounds of Store keep -/
def StI (w : World) (g4 g5 g6 g7 g8 g9 g10 hc t n a : Nat) (S Bl : List ByteArray) (vol ch : Array Value) (pre : List DdX) (W : World) : Prop :=
  ∃ x y, StM W w.heap.size g4 g5 g6 g7 g8 g9 g10 x y vol ch ((t - pre.length : Nat) : Int) ∧ PlIn W (g10 + 1) (.agg #[x, y]) (stD S n a Bl pre.length).1 (stD S n a Bl pre.length).2 ∧ KH.Blk W hc 73 ch ∧ Below w.heap.size w W ∧ pre.length ≤ t
/-- where Store stops early -/
def StX (w : World) (g6 g7 g8 g10 t n a : Nat) (S Bl : List ByteArray) (W : World) : Prop :=
  ∃ x y, KH.Blk W g6 35 #[x, y] ∧ KH.Blk W g7 4 #[.bool false] ∧ KH.Blk W g8 41 #[.int .i64 0] ∧ PlIn W (g10 + 1) (.agg #[x, y]) (stD S n a Bl t).1 (stD S n a Bl t).2 ∧ Below w.heap.size w W ∧ t ≤ n
theorem StM.kept {A A' : World} {g3 g4 g5 g6 g7 g8 g9 g10 : Nat} {x y : Value} {vol ch : Array Value} {d : Int} {row : Option Nat} (h : StM A g3 g4 g5 g6 g7 g8 g9 g10 x y vol ch d) (hg : A.grownBy A' row) (hr : ∀ r, row = some r → ∃ o : Obj, A.heap[r]? = some o ∧ o.isCells = false) : StM A' g3 g4 g5 g6 g7 g8 g9 g10 x y vol ch d :=
  ⟨blk_kept h.b3 hg hr, blk_kept h.b4 hg hr, blk_kept h.b5 hg hr, blk_kept h.b6 hg hr, blk_kept h.b7 hg hr, blk_kept h.b8 hg hr, blk_kept h.b9 hg hr, blk_kept h.b10 hg hr⟩
theorem stI_own (w : World) (g4 g5 g6 g7 g8 g9 g10 hc t n a : Nat) (S Bl : List ByteArray) (vol ch : Array Value) (B : Nat) (hB : w.heap.size ≤ B) : OwnFrom B (StI w g4 g5 g6 g7 g8 g9 g10 hc t n a S Bl vol ch) := by
  rintro s A A' row ⟨x, y, h1, h2, h3, h4, h5⟩ hg hr
  have hr' : ∀ r, row = some r → ∃ o : Obj, A.heap[r]? = some o ∧ o.isCells = false := fun r e => (hr r e).2
  exact ⟨x, y, h1.kept hg hr', plIn_kept h2 hg hr', blk_kept h3 hg hr', h4.grown hg h4.size (fun k e => Nat.le_trans hB (hr k e).1), h5⟩
theorem stX_own (w : World) (g6 g7 g8 g10 t n a : Nat) (S Bl : List ByteArray) (B : Nat) (hB : w.heap.size ≤ B) : OwnFrom B (fun (_ : List DdX) W => StX w g6 g7 g8 g10 t n a S Bl W) := by
  rintro s A A' row ⟨x, y, h1, h2, h3, h4, h5, h6⟩ hg hr
  have hr' : ∀ r, row = some r → ∃ o : Obj, A.heap[r]? = some o ∧ o.isCells = false := fun r e => (hr r e).2
  exact ⟨x, y, blk_kept h1 hg hr', blk_kept h2 hg hr', blk_kept h3 hg hr', plIn_kept h4 hg hr', h5.grown hg h5.size (fun k e => Nat.le_trans hB (hr k e).1), h6⟩
theorem belowPut {B : Nat} (W : World) (l : Nat) (o' : Obj) (h : B ≤ l) : Below B W (W.putObj l o') :=
  ⟨rfl, rfl, rfl, by simp, fun k hk => World.putObj_heap_other (by omega)⟩
theorem blk_putOff {W : World} {g l : Nat} {t : TypeId} {cs : Array Value} {o : Obj} (h : KH.Blk W g t cs) (ho : W.heap[l]? = some o) (hc : o.isCells = false) (o' : Obj) : KH.Blk (W.putObj l o') g t cs := by
  unfold KH.Blk at h ⊢
  refine (World.putObj_heap_other fun e => ?_).trans h
  subst e
  rw [h] at ho
  obtain rfl := Option.some.inj ho
  exact absurd hc (by simp [Obj.isCells])
/-- what lies about while Store ends -/
structure StR (w W : World) (g3 g4 g5 g6 g7 g8 g9 g10 : Nat) (X Y : Value) (vol ch : Array Value) (d : Int) (SS : List ByteArray) (w' : World) : Prop where
  b3 : KH.Blk w' g3 35 #[X, Y]
  b4 : KH.Blk w' g4 48 vol
  b5 : KH.Blk w' g5 3 #[.int .i64 d]
  b9 : KH.Blk w' g9 73 ch
  bx : ∃ x y b e, KH.Blk w' g6 35 #[x, y] ∧ KH.Blk w' g7 4 #[b] ∧ KH.Blk w' g8 41 #[e]
  pl : PlIn w' (g10 + 1) (.agg #[X, Y]) SS []
  ko : KeepsOthers W w'
  bl : Below w.heap.size w w'
abbrev SvR (w W : World) (g3 g4 g5 g6 g7 g8 g9 g10 : Nat) (X Y : Value) (n a g : Nat) (sl1 sl2 : Value) (rv ru : ByteArray) (d : Int) (SS : List ByteArray) (w' : World) : Prop :=
  w'.cell? ⟨g3, 0, none⟩ = some X ∧ w'.cell? ⟨g3, 1, none⟩ = some Y ∧ w'.cell? ⟨g9, 1, none⟩ = some (.int .i64 a) ∧ w'.cell? ⟨g9, 2, none⟩ = some (.int .i64 g) ∧ w'.cell? ⟨g4, 1, none⟩ = some (.string ru) ∧ w'.cell? ⟨g5, 0, none⟩ = some (.int .i64 d) ∧
    StR w W g3 g4 g5 g6 g7 g8 g9 g10 X Y #[sl2, .string ru] #[.int .i64 n, .int .i64 a, .int .i64 g, sl1, .string rv] d SS w'
section
variable {w W w' w'' : World} {g3 g4 g5 g6 g7 g8 g9 g10 n a g : Nat} {X Y sl1 sl2 : Value} {rv ru : ByteArray} {d : Int} {SS : List ByteArray}
theorem svR_of (h : StR w W g3 g4 g5 g6 g7 g8 g9 g10 X Y #[sl2, .string ru] #[.int .i64 n, .int .i64 a, .int .i64 g, sl1, .string rv] d SS w') : SvR w W g3 g4 g5 g6 g7 g8 g9 g10 X Y n a g sl1 sl2 rv ru d SS w' :=
  ⟨h.b3.cell 0, h.b3.cell 1, h.b9.cell 1, h.b9.cell 2, h.b4.cell 1, h.b5.cell 0, h⟩
theorem svR_st (h : SvR w W g3 g4 g5 g6 g7 g8 g9 g10 X Y n a g sl1 sl2 rv ru d SS w') : StR w W g3 g4 g5 g6 g7 g8 g9 g10 X Y #[sl2, .string ru] #[.int .i64 n, .int .i64 a, .int .i64 g, sl1, .string rv] d SS w' := h.2.2.2.2.2.2
theorem svR_drew (h : SvR w W g3 g4 g5 g6 g7 g8 g9 g10 X Y n a g sl1 sl2 rv ru d SS w') : SvR w W g3 g4 g5 g6 g7 g8 g9 g10 X Y n a g sl1 sl2 rv ru d SS w'.drew := by
  obtain ⟨b3, b4, b5, b9, bx, pl, ko, bl⟩ := svR_st h
  exact svR_of ⟨b3, b4, b5, b9, bx, pl, ⟨ko.size, ko.same⟩, bl.drew⟩
theorem svR_call (h : SvR w W g3 g4 g5 g6 g7 g8 g9 g10 X Y n a g sl1 sl2 rv ru d SS w') (hb : Below w'.heap.size w' w'') : SvR w W g3 g4 g5 g6 g7 g8 g9 g10 X Y n a g sl1 sl2 rv ru d SS w'' := by
  obtain ⟨b3, b4, b5, b9, ⟨x, y, b, e, b6, b7, b8⟩, pl, ko, bl⟩ := svR_st h
  exact svR_of ⟨b3.below hb b3.lt, b4.below hb b4.lt, b5.below hb b5.lt, b9.below hb b9.lt, ⟨x, y, b, e, b6.below hb b6.lt, b7.below hb b7.lt, b8.below hb b8.lt⟩, pl.below hb, ko.trans (keeps_of_below hb), bl.trans (hb.mono bl.size)⟩
theorem svR_set6 (h : SvR w W g3 g4 g5 g6 g7 g8 g9 g10 X Y n a g sl1 sl2 rv ru d SS w') (ho : w.heap.size = g3 ∧ g3 < g4 ∧ g4 < g5 ∧ g5 < g6 ∧ g6 < g7 ∧ g7 < g8 ∧ g8 < g9 ∧ g9 < g10) (u v : Value) : SvR w W g3 g4 g5 g6 g7 g8 g9 g10 X Y n a g sl1 sl2 rv ru d SS ((w'.setCell ⟨g6, 0, none⟩ u).setCell ⟨g6, 1, none⟩ v) := by
  obtain ⟨b3, b4, b5, b9, ⟨x, y, b, e, b6, b7, b8⟩, pl, ko, bl⟩ := svR_st h
  have F : ∀ {q t} {cs : Array Value}, KH.Blk w' q t cs → q ≠ g6 → KH.Blk ((w'.setCell ⟨g6, 0, none⟩ u).setCell ⟨g6, 1, none⟩ v) q t cs := fun k hq => (k.far (p := ⟨g6, 0, none⟩) hq u).far (p := ⟨g6, 1, none⟩) hq v
  exact svR_of ⟨F b3 (by omega), F b4 (by omega), F b5 (by omega), F b9 (by omega), ⟨u, v, b, e, by simpa using (b6.set_ 0 u).set_ 1 v, F b7 (by omega), F b8 (by omega)⟩, (pl.setLow (p := ⟨g6, 0, none⟩) (by show g6 < _; omega) u).setLow (p := ⟨g6, 1, none⟩) (by show g6 < _; omega) v, (ko.trans (KeepsOthers.setCell _ _ _)).trans (KeepsOthers.setCell _ _ _), (bl.setCell (p := ⟨g6, 0, none⟩) (by show _ ≤ g6; omega) u).setCell (p := ⟨g6, 1, none⟩) (by show _ ≤ g6; omega) v⟩
theorem svR_set7 (h : SvR w W g3 g4 g5 g6 g7 g8 g9 g10 X Y n a g sl1 sl2 rv ru d SS w') (ho : w.heap.size = g3 ∧ g3 < g4 ∧ g4 < g5 ∧ g5 < g6 ∧ g6 < g7 ∧ g7 < g8 ∧ g8 < g9 ∧ g9 < g10) (u : Value) : SvR w W g3 g4 g5 g6 g7 g8 g9 g10 X Y n a g sl1 sl2 rv ru d SS (w'.setCell ⟨g7, 0, none⟩ u) := by
  obtain ⟨b3, b4, b5, b9, ⟨x, y, b, e, b6, b7, b8⟩, pl, ko, bl⟩ := svR_st h
  have F : ∀ {q t} {cs : Array Value}, KH.Blk w' q t cs → q ≠ g7 → KH.Blk (w'.setCell ⟨g7, 0, none⟩ u) q t cs := fun k hq => k.far (p := ⟨g7, 0, none⟩) hq u
  exact svR_of ⟨F b3 (by omega), F b4 (by omega), F b5 (by omega), F b9 (by omega), ⟨x, y, u, e, F b6 (by omega), by simpa using b7.set_ 0 u, F b8 (by omega)⟩, pl.setLow (p := ⟨g7, 0, none⟩) (by show g7 < _; omega) u, ko.trans (KeepsOthers.setCell _ _ _), bl.setCell (p := ⟨g7, 0, none⟩) (by show _ ≤ g7; omega) u⟩
theorem svR_set8 (h : SvR w W g3 g4 g5 g6 g7 g8 g9 g10 X Y n a g sl1 sl2 rv ru d SS w') (ho : w.heap.size = g3 ∧ g3 < g4 ∧ g4 < g5 ∧ g5 < g6 ∧ g6 < g7 ∧ g7 < g8 ∧ g8 < g9 ∧ g9 < g10) (u : Value) : SvR w W g3 g4 g5 g6 g7 g8 g9 g10 X Y n a g sl1 sl2 rv ru d SS (w'.setCell ⟨g8, 0, none⟩ u) := by
  obtain ⟨b3, b4, b5, b9, ⟨x, y, b, e, b6, b7, b8⟩, pl, ko, bl⟩ := svR_st h
  have F : ∀ {q t} {cs : Array Value}, KH.Blk w' q t cs → q ≠ g8 → KH.Blk (w'.setCell ⟨g8, 0, none⟩ u) q t cs := fun k hq => k.far (p := ⟨g8, 0, none⟩) hq u
  exact svR_of ⟨F b3 (by omega), F b4 (by omega), F b5 (by omega), F b9 (by omega), ⟨x, y, b, u, F b6 (by omega), F b7 (by omega), by simpa using b8.set_ 0 u⟩, pl.setLow (p := ⟨g8, 0, none⟩) (by show g8 < _; omega) u, ko.trans (KeepsOthers.setCell _ _ _), bl.setCell (p := ⟨g8, 0, none⟩) (by show _ ≤ g8; omega) u⟩
theorem svR_fr (h : SvR w W g3 g4 g5 g6 g7 g8 g9 g10 X Y n a g sl1 sl2 rv ru d SS w') : w'.frozen? ⟨g6, 0, none⟩ = false ∧ w'.frozen? ⟨g6, 1, none⟩ = false ∧ w'.frozen? ⟨g7, 0, none⟩ = false ∧ w'.frozen? ⟨g8, 0, none⟩ = false ∧ w'.cell? ⟨g6, 0, none⟩ = some (valAt w' g6 0) ∧ w'.cell? ⟨g6, 1, none⟩ = some (valAt w' g6 1) ∧ w'.cell? ⟨g7, 0, none⟩ = some (valAt w' g7 0) ∧ w'.cell? ⟨g8, 0, none⟩ = some (valAt w' g8 0) := by
  obtain ⟨x, y, b, e, b6, b7, b8⟩ := (svR_st h).bx
  exact ⟨b6.frozen 0, b6.frozen 1, b7.frozen 0, b8.frozen 0, valAt_of2 (b6.cell 0), valAt_of2 (b6.cell 1), valAt_of2 (b7.cell 0), valAt_of2 (b8.cell 0)⟩
end
theorem ret_sto {w W : World} {g6 g7 g8 D nn lo lo' : Nat} {x y : Value} {b b' : Bool} {S : List ByteArray} {C : List (Int × ByteArray)} {a : Act} (r6 : KH.Blk W g6 35 #[x, y]) (r7 : KH.Blk W g7 4 #[.bool b]) (r8 : KH.Blk W g8 41 #[.int .i64 0]) (hK : W.heap[D]? = some (.deferred (some [])))
    (hP : PlIn W lo' (.agg #[x, y]) S C) (hlo : lo ≤ lo') (hw : lo = w.heap.size) (hB : Below w.heap.size w W) (hD : w.heap.size ≤ D) (hd : a.defers = [{ target := Target.collected D, args := #[] }]) (ht : a.tmps.getD 6 undef = .pointer (some ⟨g6, 0, none⟩) ∧ a.tmps.getD 7 undef = .pointer (some ⟨g7, 0, none⟩) ∧ a.tmps.getD 8 undef = .pointer (some ⟨g8, 0, none⟩)) (hb : b = b') :
    bodyPostM Fence.wide nn Tryz.prog Tryz.f15 (fun e w' => ∃ v', e = .returned (.tuple #[v', .bool b', .int .i64 0]) ∧ PlIn w' w.heap.size v' S C ∧ Below w.heap.size w w') .ret a W := by
  show LeavesInM _ _ _ _ _ _ _ _ _
  rw [hd]
  refine ⟨by simp, .inl ⟨_, _, rfl, run_takeDeferred hK, ?_⟩⟩
  have n6 : g6 ≠ D := fun e => by unfold KH.Blk at r6; rw [e, hK] at r6; cases r6
  have n7 : g7 ≠ D := fun e => by unfold KH.Blk at r7; rw [e, hK] at r7; cases r7
  have n8 : g8 ≠ D := fun e => by unfold KH.Blk at r8; rw [e, hK] at r8; cases r8
  have p6 := blk_putOff r6 hK rfl (.deferred none)
  have p7 := blk_putOff r7 hK rfl (.deferred none)
  have p8 := blk_putOff r8 hK rfl (.deferred none)
  have c6 : (W.putObj D (.deferred none)).cell? ⟨g6, 0, none⟩ = some x := p6.cell 0
  have c6b : (W.putObj D (.deferred none)).cell? ⟨g6, 1, none⟩ = some y := p6.cell 1
  have c7 : (W.putObj D (.deferred none)).cell? ⟨g7, 0, none⟩ = some (.bool b) := p7.cell 0
  have c8 : (W.putObj D (.deferred none)).cell? ⟨g8, 0, none⟩ = some (.int .i64 0) := p8.cell 0
  obtain ⟨h1, h2, h3⟩ := ht
  rw [Array.getD_eq_getD_getElem?] at h1 h2 h3
  subst hb hw
  refine ⟨_, (show (results _ _).run _ _ = .ok (.tuple #[.agg #[x, y], .bool b, .int .i64 0]) _ by simp [results, Tryz.results15, h1, h2, h3, go_sem, c6, c6b, c7, c8]), _, rfl, ?_, ?_⟩
  · exact plIn_kept (row := some D) (hP.mono hlo) (grownBy_putObj' W D (.deferred none)) (fun r e => by cases e; exact ⟨_, hK, rfl⟩)
  · exact hB.trans (belowPut W D _ hD)
theorem stX_end {w W : World} {g4 g5 g6 g7 g8 g9 g10 t n a : Nat} {X Y : Value} {S Bl : List ByteArray} {vol ch : Array Value} {d : Int} (ho : w.heap.size < g4 ∧ g4 < g5 ∧ g5 < g6 ∧ g6 < g7 ∧ g7 < g8 ∧ g8 < g9 ∧ g9 < g10) (hM : StM W w.heap.size g4 g5 g6 g7 g8 g9 g10 X Y vol ch d) (hP : PlIn W (g10 + 1) (.agg #[X, Y]) (stD S n a Bl t).1 (stD S n a Bl t).2) (hB : Below w.heap.size w W) (ht : t ≤ n) :
    KeepsOthers W ((((W.setCell ⟨g6, 0, none⟩ X).setCell ⟨g6, 1, none⟩ Y).setCell ⟨g7, 0, none⟩ (.bool false)).setCell ⟨g8, 0, none⟩ (.int .i64 0)) ∧ StX w g6 g7 g8 g10 t n a S Bl ((((W.setCell ⟨g6, 0, none⟩ X).setCell ⟨g6, 1, none⟩ Y).setCell ⟨g7, 0, none⟩ (.bool false)).setCell ⟨g8, 0, none⟩ (.int .i64 0)) := by
  refine ⟨((((KeepsOthers.refl W).trans (KeepsOthers.setCell _ _ _)).trans (KeepsOthers.setCell _ _ _)).trans (KeepsOthers.setCell _ _ _)).trans (KeepsOthers.setCell _ _ _), X, Y, ?_, ?_, ?_, ?_, ?_, ht⟩
  · have := (((hM.b6.set_ 0 X).set_ 1 Y).far (p := ⟨g7, 0, none⟩) (by show g6 ≠ g7; omega) (.bool false)).far (p := ⟨g8, 0, none⟩) (by show g6 ≠ g8; omega) (.int .i64 0)
    simpa using this
  · have := (((hM.b7.far (p := ⟨g6, 0, none⟩) (by show g7 ≠ g6; omega) X).far (p := ⟨g6, 1, none⟩) (by show g7 ≠ g6; omega) Y).set_ 0 (.bool false)).far (p := ⟨g8, 0, none⟩) (by show g7 ≠ g8; omega) (.int .i64 0)
    simpa using this
  · have := (((hM.b8.far (p := ⟨g6, 0, none⟩) (by show g8 ≠ g6; omega) X).far (p := ⟨g6, 1, none⟩) (by show g8 ≠ g6; omega) Y).far (p := ⟨g7, 0, none⟩) (by show g8 ≠ g7; omega) (.bool false)).set_ 0 (.int .i64 0)
    simpa using this
  · exact (((hP.setLow (p := ⟨g6, 0, none⟩) (by show g6 < _; omega) _).setLow (p := ⟨g6, 1, none⟩) (by show g6 < _; omega) _).setLow (p := ⟨g7, 0, none⟩) (by show g7 < _; omega) _).setLow (p := ⟨g8, 0, none⟩) (by show g8 < _; omega) _
  · exact (((hB.setCell (p := ⟨g6, 0, none⟩) (by show _ ≤ g6; omega) _).setCell (p := ⟨g6, 1, none⟩) (by show _ ≤ g6; omega) _).setCell (p := ⟨g7, 0, none⟩) (by show _ ≤ g7; omega) _).setCell (p := ⟨g8, 0, none⟩) (by show _ ≤ g8; omega) _
/-- what a deed of Store does -/
def DeedC (f : Nat) (caps : Array Value) (D' : Dsk) (X Y : Value) (W : World) : Prop :=
  Calls Tryz.prog f (#[.agg #[X, Y]] ++ caps) W fun e w' => ∃ B1 e1 B2 e2, e = .returned (.tuple #[.agg #[.slice B1 D'.1.length e1, .slice B2 D'.2.length e2], .int .i64 0]) ∧ PlIn w' W.heap.size (.agg #[.slice B1 D'.1.length e1, .slice B2 D'.2.length e2]) D'.1 D'.2 ∧ Below W.heap.size W w'
theorem deed_vol {W : World} {lo hc n a k : Nat} {S Bl : List ByteArray} {X Y g b r : Value} {x : DdX} (hok : pOk S []) (hl : S.length = 3 + 2 * n) (ha : a ≤ 1) (hn : n ≤ 64) (hs : vSz Bl) (hP : PlIn W lo (.agg #[X, Y]) (stD S n a Bl k).1 (stD S n a Bl k).2)
    (hk : KH.Blk W hc 73 #[.int .i64 n, .int .i64 a, g, b, r]) (hx : x.1 = k) (hG : x.1 < n → KH.Blk W x.2.1 3 #[.int .i64 (x.1 : Nat)] ∧ KH.Blk W x.2.2 9 #[.string (Bl.getD x.1 ⟨#[]⟩)]) (hxn : x.1 < n) :
    DeedC 56 #[.pointer (some ⟨hc, 0, none⟩), .pointer (some ⟨x.2.1, 0, none⟩), .pointer (some ⟨x.2.2, 0, none⟩)] (stD S n a Bl (k + 1)) X Y W := by
  have hst := stD_ok (k := k) hok hl ha hn hs
  obtain ⟨G1, G2⟩ := hG hxn
  have hle2 : (1 - a) * n ≤ 1 * n := Nat.mul_le_mul_right n (by omega)
  have hs1 := hs x.1
  refine (vdeed_any (q := 3 + (1 - a) * n + x.1) hP hst.1 hk G1 G2 ha hn hxn rfl (by rw [hst.2.1]; omega) (by omega) (by have := hst.2.2; omega)).mono ?_
  rintro e w' ⟨v', rfl, h1, h2⟩
  rw [show (((3 + (1 - a) * n + x.1 : Nat) : Int), Bl.getD x.1 ⟨#[]⟩) = (((3 + (1 - a) * n + k : Nat) : Int), Bl.getD k ⟨#[]⟩) by rw [hx]] at h1
  have hnx := stD_next (S := S) (n := n) (a := a) (k := k) (Bl := Bl) (by omega)
  have h3 : PlIn w' W.heap.size v' (stD S n a Bl (k + 1)).1 (stD S n a Bl (k + 1)).2 := by rw [hnx]; exact h1
  have h4 := h3
  obtain ⟨B1, e1, B2, e2, rfl, -, -, -, -⟩ := h3
  exact ⟨B1, e1, B2, e2, rfl, h4, h2⟩
theorem deed_syn {W : World} {lo n a : Nat} {S Bl : List ByteArray} {X Y : Value} (hok : pOk S []) (hl : S.length = 3 + 2 * n) (ha : a ≤ 1) (hn : n ≤ 64) (hs : vSz Bl) (hP : PlIn W lo (.agg #[X, Y]) (stD S n a Bl n).1 (stD S n a Bl n).2) :
    DeedC 46 #[] (stD S n a Bl (n + 1)) X Y W := by
  have hst := stD_ok (k := n) hok hl ha hn hs
  refine (sync_any hP hst.1).mono ?_
  rintro e w' ⟨v', rfl, h1, h2⟩
  have h3 : PlIn w' W.heap.size v' (stD S n a Bl (n + 1)).1 (stD S n a Bl (n + 1)).2 := by rw [stD_sync]; exact h1
  have h4 := h3
  obtain ⟨B1, e1, B2, e2, rfl, -, -, -, -⟩ := h3
  exact ⟨B1, e1, B2, e2, rfl, h4, h2⟩
theorem stI_next {w W W1 : World} {g4 g5 g6 g7 g8 g9 g10 hc t n a : Nat} {X Y X' Y' : Value} {S Bl : List ByteArray} {vol ch : Array Value} {pre : List DdX} (x : DdX) (ho : w.heap.size < g4 ∧ g4 < g5 ∧ g5 < g6 ∧ g6 < g7 ∧ g7 < g8 ∧ g8 < g9 ∧ g9 < g10) (hch : g10 < hc)
    (hM : StM W w.heap.size g4 g5 g6 g7 g8 g9 g10 X Y vol ch ((t - pre.length : Nat) : Int)) (hk : KH.Blk W hc 73 ch) (hB : Below w.heap.size w W) (ht : pre.length < t) (hb : Below W.heap.size W W1) (hP : PlIn W1 W.heap.size (.agg #[X', Y']) (stD S n a Bl (pre.length + 1)).1 (stD S n a Bl (pre.length + 1)).2) :
    KeepsOthers W ((((W1.setCell ⟨w.heap.size, 0, none⟩ X').setCell ⟨w.heap.size, 1, none⟩ Y').setCell ⟨g10, 0, none⟩ (.int .i64 0)).setCell ⟨g5, 0, none⟩ (.int .i64 (((t - pre.length : Nat) : Int) - 1))) ∧
      Below w.heap.size W ((((W1.setCell ⟨w.heap.size, 0, none⟩ X').setCell ⟨w.heap.size, 1, none⟩ Y').setCell ⟨g10, 0, none⟩ (.int .i64 0)).setCell ⟨g5, 0, none⟩ (.int .i64 (((t - pre.length : Nat) : Int) - 1))) ∧
      StI w g4 g5 g6 g7 g8 g9 g10 hc t n a S Bl vol ch (pre ++ [x]) ((((W1.setCell ⟨w.heap.size, 0, none⟩ X').setCell ⟨w.heap.size, 1, none⟩ Y').setCell ⟨g10, 0, none⟩ (.int .i64 0)).setCell ⟨g5, 0, none⟩ (.int .i64 (((t - pre.length : Nat) : Int) - 1))) := by
  have hkl := hk.lt
  have hM1 := hM.below hb ⟨ho.1, ho.2.1, ho.2.2.1, ho.2.2.2.1, ho.2.2.2.2.1, ho.2.2.2.2.2.1, ho.2.2.2.2.2.2, by omega⟩
  have hM2 := hM1.setP ho X' Y'
  have hM3 : StM (((W1.setCell ⟨w.heap.size, 0, none⟩ X').setCell ⟨w.heap.size, 1, none⟩ Y').setCell ⟨g10, 0, none⟩ (.int .i64 0)) w.heap.size g4 g5 g6 g7 g8 g9 g10 X' Y' vol ch ((t - pre.length : Nat) : Int) := by
    have F : ∀ {q u} {cs : Array Value}, KH.Blk ((W1.setCell ⟨w.heap.size, 0, none⟩ X').setCell ⟨w.heap.size, 1, none⟩ Y') q u cs → q ≠ g10 → KH.Blk (((W1.setCell ⟨w.heap.size, 0, none⟩ X').setCell ⟨w.heap.size, 1, none⟩ Y').setCell ⟨g10, 0, none⟩ (.int .i64 0)) q u cs := fun k hq => k.far (p := ⟨g10, 0, none⟩) hq _
    exact ⟨F hM2.b3 (by omega), F hM2.b4 (by omega), F hM2.b5 (by omega), F hM2.b6 (by omega), F hM2.b7 (by omega), F hM2.b8 (by omega), F hM2.b9 (by omega), by have := hM2.b10.set_ 0 (.int .i64 0); simpa using this⟩
  have hM4 := hM3.setD ho (((t - pre.length : Nat) : Int) - 1)
  have hl : (pre ++ [x]).length = pre.length + 1 := by simp
  have hd : ((t - (pre.length + 1) : Nat) : Int) = ((t - pre.length : Nat) : Int) - 1 := by omega
  have hW : w.heap.size < W.heap.size := by omega
  have hbk : Below w.heap.size W ((((W1.setCell ⟨w.heap.size, 0, none⟩ X').setCell ⟨w.heap.size, 1, none⟩ Y').setCell ⟨g10, 0, none⟩ (.int .i64 0)).setCell ⟨g5, 0, none⟩ (.int .i64 (((t - pre.length : Nat) : Int) - 1))) :=
    (((((show Below w.heap.size W W1 from hb.mono (by omega))).setCell (p := ⟨w.heap.size, 0, none⟩) (Nat.le_refl _) _).setCell (p := ⟨w.heap.size, 1, none⟩) (Nat.le_refl _) _).setCell (p := ⟨g10, 0, none⟩) (by show _ ≤ g10; omega) _).setCell (p := ⟨g5, 0, none⟩) (by show _ ≤ g5; omega) _
  refine ⟨((((keeps_of_below hb).trans (KeepsOthers.setCell _ _ _)).trans (KeepsOthers.setCell _ _ _)).trans (KeepsOthers.setCell _ _ _)).trans (KeepsOthers.setCell _ _ _), hbk, X', Y', ?_, ?_, ?_, hB.trans hbk, by omega⟩
  · rw [hl, hd]; exact hM4
  · rw [hl]
    exact ((((hP.mono (show g10 + 1 ≤ W.heap.size by omega)).setLow (p := ⟨w.heap.size, 0, none⟩) (by show w.heap.size < _; omega) _).setLow (p := ⟨w.heap.size, 1, none⟩) (by show w.heap.size < _; omega) _).setLow (p := ⟨g10, 0, none⟩) (by show g10 < _; omega) _).setLow (p := ⟨g5, 0, none⟩) (by show g5 < _; omega) _
  · exact ((((hk.below hb hkl).far (p := ⟨w.heap.size, 0, none⟩) (by show hc ≠ w.heap.size; omega) _).far (p := ⟨w.heap.size, 1, none⟩) (by show hc ≠ w.heap.size; omega) _).far (p := ⟨g10, 0, none⟩) (by show hc ≠ g10; omega) _).far (p := ⟨g5, 0, none⟩) (by show hc ≠ g5; omega) _
theorem sto_end {w W W9 : World} {g6 g7 g8 g10 lo D : Nat} {x y : Value} {b : Bool} {S : List ByteArray} {C : List (Int × ByteArray)} (ho : w.heap.size < g6 ∧ g6 < g7 ∧ g7 < g8 ∧ g8 < g10) (hb : ∃ x y b e, KH.Blk W9 g6 35 #[x, y] ∧ KH.Blk W9 g7 4 #[b] ∧ KH.Blk W9 g8 41 #[e])
    (hP : PlIn W9 lo (.agg #[x, y]) S C) (hlo : g10 + 1 ≤ lo) (hk : KeepsOthers W W9) (hB : Below w.heap.size w W9) (hD : W.heap[D]? = some (.deferred (some []))) :
    ∃ B1 B2, KH.Blk ((((W9.setCell ⟨g6, 0, none⟩ x).setCell ⟨g6, 1, none⟩ y).setCell ⟨g7, 0, none⟩ (.bool b)).setCell ⟨g8, 0, none⟩ (.int .i64 0)) g6 35 #[B1, B2] ∧
      KH.Blk ((((W9.setCell ⟨g6, 0, none⟩ x).setCell ⟨g6, 1, none⟩ y).setCell ⟨g7, 0, none⟩ (.bool b)).setCell ⟨g8, 0, none⟩ (.int .i64 0)) g7 4 #[.bool b] ∧
      KH.Blk ((((W9.setCell ⟨g6, 0, none⟩ x).setCell ⟨g6, 1, none⟩ y).setCell ⟨g7, 0, none⟩ (.bool b)).setCell ⟨g8, 0, none⟩ (.int .i64 0)) g8 41 #[.int .i64 0] ∧
      PlIn ((((W9.setCell ⟨g6, 0, none⟩ x).setCell ⟨g6, 1, none⟩ y).setCell ⟨g7, 0, none⟩ (.bool b)).setCell ⟨g8, 0, none⟩ (.int .i64 0)) (g10 + 1) (.agg #[B1, B2]) S C ∧
      Below w.heap.size w ((((W9.setCell ⟨g6, 0, none⟩ x).setCell ⟨g6, 1, none⟩ y).setCell ⟨g7, 0, none⟩ (.bool b)).setCell ⟨g8, 0, none⟩ (.int .i64 0)) ∧
      ((((W9.setCell ⟨g6, 0, none⟩ x).setCell ⟨g6, 1, none⟩ y).setCell ⟨g7, 0, none⟩ (.bool b)).setCell ⟨g8, 0, none⟩ (.int .i64 0)).heap[D]? = some (.deferred (some [])) := by
  obtain ⟨x0, y0, b0, e0, b6, b7, b8⟩ := hb
  refine ⟨x, y, ?_, ?_, ?_, ?_, ?_, ?_⟩
  · have := (((b6.set_ 0 x).set_ 1 y).far (p := ⟨g7, 0, none⟩) (by show g6 ≠ g7; omega) (.bool b)).far (p := ⟨g8, 0, none⟩) (by show g6 ≠ g8; omega) (.int .i64 0)
    simpa using this
  · have := (((b7.far (p := ⟨g6, 0, none⟩) (by show g7 ≠ g6; omega) x).far (p := ⟨g6, 1, none⟩) (by show g7 ≠ g6; omega) y).set_ 0 (.bool b)).far (p := ⟨g8, 0, none⟩) (by show g7 ≠ g8; omega) (.int .i64 0)
    simpa using this
  · have := (((b8.far (p := ⟨g6, 0, none⟩) (by show g8 ≠ g6; omega) x).far (p := ⟨g6, 1, none⟩) (by show g8 ≠ g6; omega) y).far (p := ⟨g7, 0, none⟩) (by show g8 ≠ g7; omega) (.bool b)).set_ 0 (.int .i64 0)
    simpa using this
  · exact ((((hP.mono hlo).setLow (p := ⟨g6, 0, none⟩) (by show g6 < _; omega) _).setLow (p := ⟨g6, 1, none⟩) (by show g6 < _; omega) _).setLow (p := ⟨g7, 0, none⟩) (by show g7 < _; omega) _).setLow (p := ⟨g8, 0, none⟩) (by show g8 < _; omega) _
  · exact (((hB.setCell (p := ⟨g6, 0, none⟩) (by show _ ≤ g6; omega) _).setCell (p := ⟨g6, 1, none⟩) (by show _ ≤ g6; omega) _).setCell (p := ⟨g7, 0, none⟩) (by show _ ≤ g7; omega) _).setCell (p := ⟨g8, 0, none⟩) (by show _ ≤ g8; omega) _
  · exact ((((hk.trans (KeepsOthers.setCell _ _ _)).trans (KeepsOthers.setCell _ _ _)).trans (KeepsOthers.setCell _ _ _)).trans (KeepsOthers.setCell _ _ _)).same D _ hD rfl
end Go.Proofs.YtlnilfcjcoclhaaGreatDoor
