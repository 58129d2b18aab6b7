import Derived.Test.YtlnilfcjcoclhaaGreatDoorHsF
/- Package keyholetop: writes. -/
namespace Go.Proofs.YtlnilfcjcoclhaaGreatDoor
open Go.RowKit Go.Shelf
attribute [local go_sem] Oper.semAt_some

/-- what holds of blocks, texts and nonces -/
structure WrG (key : ByteArray) (n : Nat) (Bl T Sn : List ByteArray) (N j : Nat) (dr : List ByteArray) : Prop where
  no : NoOk Sn (16 * j)
  le : N ≤ 16 * j
  d : DrOk dr N
  bl : Bl.length = n
  tl : T.length = n
  sz : vSz Bl
  ok : ∀ i, i < n → BlOk key i (Bl.getD i ⟨#[]⟩) (T.getD i ⟨#[]⟩)
theorem wr_start {w : World} (v1 v2 : Value) (s : Stp) (W : World) (hW : W = ((w.alloc (.cells #[v1, v2] 48)).alloc (.cells s.cells 32)).alloc (.cells #[.slice none 0 0, .string ⟨#[]⟩] 48)) :
    KH.Blk W w.heap.size 48 #[v1, v2] ∧ KH.Blk W (w.heap.size + 1) 32 s.cells ∧ KH.Blk W (w.heap.size + 2) 48 #[.slice none 0 0, .string ⟨#[]⟩] ∧ Below w.heap.size w W ∧ W.heap.size = w.heap.size + 3 := by
  subst hW
  refine ⟨((KH.Blk.new w _ _).alloc _).alloc _, ?_, ?_, ((((Below.refl w.heap.size w).alloc (Nat.le_refl _) _).alloc (by simp) _).alloc (by simp; omega) _), by simp⟩
  · have := (KH.Blk.new (w.alloc (.cells #[v1, v2] 48)) 32 s.cells).alloc (.cells #[.slice none 0 0, .string ⟨#[]⟩] 48)
    simpa using this
  · have := KH.Blk.new ((w.alloc (.cells #[v1, v2] 48)).alloc (.cells s.cells 32)) 48 #[.slice none 0 0, .string ⟨#[]⟩]
    simpa using this
theorem wr_end {K : Nat → Nat} {A0 : Option Addr} {w wr : World} {base h lo hi g9 c9 : Nat} {s : Stp} {S Sn : List ByteArray} {N L : Nat} {key : ByteArray} {said dr : List ByteArray} {x : HsV} {n : Nat} {A4 : Option Addr} {c4 : Nat} {Bl T : List ByteArray}
    (W : WrS K A0 w wr base h lo hi g9 c9 s S Sn N L key said dr x n A4 c4 Bl T) (u v : Value) :
    House ((wr.setCell ⟨lo + 2, 0, none⟩ u).setCell ⟨lo + 2, 1, none⟩ v) base h 0 0 S Sn N L key said dr x ∧ RowN ((wr.setCell ⟨lo + 2, 0, none⟩ u).setCell ⟨lo + 2, 1, none⟩ v) (HQ h 0 0 x.A6) (some ⟨g9, 0, none⟩) n T ∧
      RowN ((wr.setCell ⟨lo + 2, 0, none⟩ u).setCell ⟨lo + 2, 1, none⟩ v) (HQ h 0 0 x.A6) A4 n Bl ∧ Below base w ((wr.setCell ⟨lo + 2, 0, none⟩ u).setCell ⟨lo + 2, 1, none⟩ v) ∧
      (∀ b, b < lo → b ≠ h → (∀ ad, A0 = some ad → ad.block ≠ b) → ((wr.setCell ⟨lo + 2, 0, none⟩ u).setCell ⟨lo + 2, 1, none⟩ v).heap[b]? = w.heap[b]?) := by
  have h1 := W.hl
  have h2 := W.tg
  have hbl := W.bl
  have hq : ∀ i, ¬ HQ h lo hi x.A6 (⟨lo + 2, i, none⟩ : Addr).block := fun i q => by have := q.2.2; simp at this; omega
  have hH := (W.H.off (p := ⟨lo + 2, 0, none⟩) ⟨by show lo ≤ lo + 2; omega, by show lo + 2 < hi; omega⟩ (by show h ≠ lo + 2; omega) u).off (p := ⟨lo + 2, 1, none⟩) ⟨by show lo ≤ lo + 2; omega, by show lo + 2 < hi; omega⟩ (by show h ≠ lo + 2; omega) v
  have hn : ∀ i, (Value.slice (some ⟨g9, 0, none⟩) n c9).ownBlock ≠ some (⟨lo + 2, i, none⟩ : Addr).block := fun i e => by injection e with e; have : g9 = lo + 2 := e; omega
  have ht := ownsRow_setCell_other (ownsRow_setCell_other W.t (hn 0) u) (hn 1) v
  refine ⟨hH.free, RowN.of_reads (KH.Reads.of_own ht) fun ad e _ => ?_, ((W.v.set (hq 0) u).set (hq 1) v).imp fun b _ q => ⟨q.1, q.2.1, .inr (Nat.zero_le _)⟩, (W.b.setCell (p := ⟨lo + 2, 0, none⟩) (by show base ≤ lo + 2; omega) u).setCell (p := ⟨lo + 2, 1, none⟩) (by show base ≤ lo + 2; omega) v, fun b q1 q2 q3 => (heap2 _ _ _ _ _ _ b (by omega)).trans (W.fr b q1 q2 q3)⟩
  injection e with e
  subst e
  refine ⟨by show g9 ≠ h; omega, fun ad e q => ?_, .inr (Nat.zero_le _)⟩
  have := W.H.dq ad e
  have q' : ad.block = g9 := q
  omega
theorem load_wr {fn : Func} {p u2 u3 : Nat} {tmps : Array Value} {w : World} {h : Nat} {x y a b : Value}
    (hr : fn.results = #[.cell p 48, .tmp u2, .tmp u3]) (hp : tmps.getD p undef = .pointer (some ⟨h, 0, none⟩)) (hu : tmps.getD u2 undef = a) (hu3 : tmps.getD u3 undef = b)
    (h0 : w.cell? ⟨h, 0, none⟩ = some x) (h1 : w.cell? ⟨h, 1, none⟩ = some y) : (results fn tmps).run Tryz.prog w = .ok (.tuple #[.agg #[x, y], a, b]) w := by
  rw [Array.getD_eq_getD_getElem?] at hp hu hu3
  simp [results, hr, hp, hu, hu3, go_sem, h0, h1]
theorem ret_wr {fn : Func} {p u2 u3 : Nat} {a : Act} {w : World} {h : Nat} {x0 y0 x y b c : Value} {R : Ending → World → Prop} (hk : KH.Blk w h 48 #[x0, y0])
    (hr : fn.results = #[.cell p 48, .tmp u2, .tmp u3]) (hp : a.tmps.getD p undef = .pointer (some ⟨h, 0, none⟩)) (hu : a.tmps.getD u2 undef = b) (hu3 : a.tmps.getD u3 undef = c) (hd : a.defers = [])
    (hR : R (.returned (.tuple #[.agg #[x, y], b, c])) ((w.setCell ⟨h, 0, none⟩ x).setCell ⟨h, 1, none⟩ y)) :
    bodyPost Tryz.prog fn R .ret a ((w.setCell ⟨h, 0, none⟩ x).setCell ⟨h, 1, none⟩ y) := by
  have k3 := (hk.set_ 0 x).set_ 1 y
  have c3 : ((w.setCell ⟨h, 0, none⟩ x).setCell ⟨h, 1, none⟩ y).cell? ⟨h, 0, none⟩ = some x := by simpa using k3.cell 0
  have c4 : ((w.setCell ⟨h, 0, none⟩ x).setCell ⟨h, 1, none⟩ y).cell? ⟨h, 1, none⟩ = some y := by simpa using k3.cell 1
  exact bodyPost_ret (load_wr hr hp hu hu3 c3 c4) hd hR
theorem blk_newdrew2 {w2 w3 : World} {o : Obj} {t : TypeId} {cs : Array Value} (hb : Below ((w2.alloc (.cells cs t)).alloc o).drew.heap.size ((w2.alloc (.cells cs t)).alloc o).drew w3) : KH.Blk w3 w2.heap.size t cs :=
  KH.Blk.below (w := ((w2.alloc (.cells cs t)).alloc o).drew) ((KH.Blk.new w2 t cs).alloc o) hb ((KH.Blk.new w2 t cs).alloc o).lt
theorem alloc_sz (w : World) (o : Obj) : (w.alloc o).heap.size = w.heap.size + 1 := by simp
theorem alloc_cell {w : World} {p : Addr} {v : Value} (h : w.cell? p = some v) (o : Obj) : (w.alloc o).cell? p = some v :=
  (World.cell?_alloc_lt w o p (World.block_lt_of_cell? _ _ h)).trans h
/-- what writes' region 6 keeps -/
abbrev NxR (w0 : World) (h : Nat) (x y a b c : Value) (w' : World) : Prop := w'.cell? ⟨h, 2, none⟩ = some x ∧ w'.cell? ⟨h, 3, none⟩ = some y ∧ w'.cell? ⟨h, 4, none⟩ = some a ∧ w'.cell? ⟨h, 5, none⟩ = some b ∧ w'.cell? ⟨h, 6, none⟩ = some c ∧ Below w0.heap.size w0 w'
theorem nxR_of {w0 w' : World} {h : Nat} {x y a b c : Value} (k0 : w0.cell? ⟨h, 2, none⟩ = some x) (k1 : w0.cell? ⟨h, 3, none⟩ = some y) (k2 : w0.cell? ⟨h, 4, none⟩ = some a) (k3 : w0.cell? ⟨h, 5, none⟩ = some b) (k4 : w0.cell? ⟨h, 6, none⟩ = some c) (hb : Below w0.heap.size w0 w') : NxR w0 h x y a b c w' := by
  have hl := World.block_lt_of_cell? _ _ k0
  exact ⟨(hb.cell hl).trans k0, (hb.cell (p := ⟨h, 3, none⟩) hl).trans k1, (hb.cell (p := ⟨h, 4, none⟩) hl).trans k2, (hb.cell (p := ⟨h, 5, none⟩) hl).trans k3, (hb.cell (p := ⟨h, 6, none⟩) hl).trans k4, hb⟩
theorem nxR_b {w0 w' : World} {h : Nat} {x y a b c : Value} (hs : NxR w0 h x y a b c w') : Below w0.heap.size w0 w' := hs.2.2.2.2.2
theorem nxR_call {w0 w' w'' : World} {h : Nat} {x y a b c : Value} (hs : NxR w0 h x y a b c w') (k0 : w0.cell? ⟨h, 2, none⟩ = some x) (k1 : w0.cell? ⟨h, 3, none⟩ = some y) (k2 : w0.cell? ⟨h, 4, none⟩ = some a) (k3 : w0.cell? ⟨h, 5, none⟩ = some b) (k4 : w0.cell? ⟨h, 6, none⟩ = some c) (hb : Below w'.heap.size w' w'') : NxR w0 h x y a b c w'' :=
  nxR_of k0 k1 k2 k3 k4 ((nxR_b hs).trans (hb.mono (nxR_b hs).size))
theorem nxR_alloc {w0 w' : World} {h : Nat} {x y a b c : Value} (hs : NxR w0 h x y a b c w') (k0 : w0.cell? ⟨h, 2, none⟩ = some x) (k1 : w0.cell? ⟨h, 3, none⟩ = some y) (k2 : w0.cell? ⟨h, 4, none⟩ = some a) (k3 : w0.cell? ⟨h, 5, none⟩ = some b) (k4 : w0.cell? ⟨h, 6, none⟩ = some c) (o : Obj) : NxR w0 h x y a b c (w'.alloc o) :=
  nxR_of k0 k1 k2 k3 k4 ((nxR_b hs).alloc (nxR_b hs).size o)
theorem nonV_ne (N : Nat) : (nonV N).toList.isEmpty = false := str_some (by rw [nonV_size]; omega)
theorem str_reads (w : World) (s : ByteArray) (t : TypeId) (g : Nat) (hg : w.heap.size = g) : KH.Reads (w.alloc (.cells #[.string s] t)) (g + 1) 1 (some ⟨g, 0, none⟩) 1 [.string s] := by
  subst hg
  refine ⟨rfl, fun _ => ⟨_, rfl, by show w.heap.size < _; omega, fun j u hu => ?_⟩⟩
  rw [addr_at, World.cell?_alloc_at _ _ _ _ rfl]
  simpa using hu
/-- the six ends of writes' region 6 -/
theorem nx1 {wr w4 : World} {lo' : Nat} {A3 A5 : Option Addr} {c3 c5 : Nat} {S' : List ByteArray} {N1 L2 : Nat} (hP : PlIn w4 lo' (.agg #[.slice A3 S'.length c3, .slice A5 0 c5]) S' []) (hlo : wr.heap.size ≤ lo') (hB : Below wr.heap.size wr w4) : KH.Blk ((w4.alloc (.cells #[.int .i64 0, .int .i64 N1, .int .i64 L2] 37)).alloc (.cells #[.slice A3 S'.length c3, .slice A5 0 c5] 35)) w4.heap.size 37 #[.int .i64 0, .int .i64 N1, .int .i64 L2] ∧ KH.Blk ((w4.alloc (.cells #[.int .i64 0, .int .i64 N1, .int .i64 L2] 37)).alloc (.cells #[.slice A3 S'.length c3, .slice A5 0 c5] 35)) (w4.heap.size + 1) 35 #[.slice A3 S'.length c3, .slice A5 0 c5] ∧ PlIn ((w4.alloc (.cells #[.int .i64 0, .int .i64 N1, .int .i64 L2] 37)).alloc (.cells #[.slice A3 S'.length c3, .slice A5 0 c5] 35)) wr.heap.size (.agg #[.slice A3 S'.length c3, .slice A5 0 c5]) S' [] ∧ Below wr.heap.size wr ((w4.alloc (.cells #[.int .i64 0, .int .i64 N1, .int .i64 L2] 37)).alloc (.cells #[.slice A3 S'.length c3, .slice A5 0 c5] 35)) := by
  have hs := hB.size
  have hb : Below w4.heap.size w4 ((w4.alloc (.cells #[.int .i64 0, .int .i64 N1, .int .i64 L2] 37)).alloc (.cells #[.slice A3 S'.length c3, .slice A5 0 c5] 35)) := ((Below.refl w4.heap.size w4).alloc (Nat.le_refl _) _).alloc (by simp) _
  refine ⟨(KH.Blk.new w4 _ _).alloc _, ?_, (hP.below hb).mono hlo, hB.trans (hb.mono hs)⟩
  have := KH.Blk.new (w4.alloc (.cells #[.int .i64 0, .int .i64 N1, .int .i64 L2] 37)) 35 #[.slice A3 S'.length c3, .slice A5 0 c5]
  simpa using this
theorem nx2 {wr w4 : World} {lo' : Nat} {A3 A5 : Option Addr} {c3 c5 : Nat} {S' : List ByteArray} {N1 L2 : Nat} (hP : PlIn w4 lo' (.agg #[.slice A3 S'.length c3, .slice A5 0 c5]) S' []) (hlo : wr.heap.size ≤ lo') (hB : Below wr.heap.size wr w4) : KH.Blk ((w4.alloc (.cells #[.slice A3 S'.length c3, .slice A5 0 c5] 35)).alloc (.cells #[.int .i64 0, .int .i64 N1, .int .i64 L2] 37)) (w4.heap.size + 1) 37 #[.int .i64 0, .int .i64 N1, .int .i64 L2] ∧ KH.Blk ((w4.alloc (.cells #[.slice A3 S'.length c3, .slice A5 0 c5] 35)).alloc (.cells #[.int .i64 0, .int .i64 N1, .int .i64 L2] 37)) w4.heap.size 35 #[.slice A3 S'.length c3, .slice A5 0 c5] ∧ PlIn ((w4.alloc (.cells #[.slice A3 S'.length c3, .slice A5 0 c5] 35)).alloc (.cells #[.int .i64 0, .int .i64 N1, .int .i64 L2] 37)) wr.heap.size (.agg #[.slice A3 S'.length c3, .slice A5 0 c5]) S' [] ∧ Below wr.heap.size wr ((w4.alloc (.cells #[.slice A3 S'.length c3, .slice A5 0 c5] 35)).alloc (.cells #[.int .i64 0, .int .i64 N1, .int .i64 L2] 37)) := by
  have hs := hB.size
  have hb : Below w4.heap.size w4 ((w4.alloc (.cells #[.slice A3 S'.length c3, .slice A5 0 c5] 35)).alloc (.cells #[.int .i64 0, .int .i64 N1, .int .i64 L2] 37)) := ((Below.refl w4.heap.size w4).alloc (Nat.le_refl _) _).alloc (by simp) _
  refine ⟨?_, (KH.Blk.new w4 _ _).alloc _, (hP.below hb).mono hlo, hB.trans (hb.mono hs)⟩
  have := KH.Blk.new (w4.alloc (.cells #[.slice A3 S'.length c3, .slice A5 0 c5] 35)) 37 #[.int .i64 0, .int .i64 N1, .int .i64 L2]
  simpa using this
theorem nx3 {a : Nat} {wr w4 : World} {lo' : Nat} {A3 A5 : Option Addr} {c3 c5 : Nat} {S' : List ByteArray} {N1 L2 : Nat} (hP : PlIn w4 lo' (.agg #[.slice A3 S'.length c3, .slice A5 0 c5]) S' []) (hlo : wr.heap.size ≤ lo') (hB : Below wr.heap.size wr w4) (kA : KH.Blk w4 a 37 #[.int .i64 0, .int .i64 0, .int .i64 0]) (ha : wr.heap.size ≤ a) (hl : a < lo') : KH.Blk ((((((w4.alloc (.cells #[.slice none 0 0, .slice none 0 0] 35)).setCell ⟨a, 0, none⟩ (.int .i64 0)).setCell ⟨a, 1, none⟩ (.int .i64 N1)).setCell ⟨a, 2, none⟩ (.int .i64 L2)).setCell ⟨w4.heap.size, 0, none⟩ (.slice A3 S'.length c3)).setCell ⟨w4.heap.size, 1, none⟩ (.slice A5 0 c5)) a 37 #[.int .i64 0, .int .i64 N1, .int .i64 L2] ∧ KH.Blk ((((((w4.alloc (.cells #[.slice none 0 0, .slice none 0 0] 35)).setCell ⟨a, 0, none⟩ (.int .i64 0)).setCell ⟨a, 1, none⟩ (.int .i64 N1)).setCell ⟨a, 2, none⟩ (.int .i64 L2)).setCell ⟨w4.heap.size, 0, none⟩ (.slice A3 S'.length c3)).setCell ⟨w4.heap.size, 1, none⟩ (.slice A5 0 c5)) w4.heap.size 35 #[.slice A3 S'.length c3, .slice A5 0 c5] ∧ PlIn ((((((w4.alloc (.cells #[.slice none 0 0, .slice none 0 0] 35)).setCell ⟨a, 0, none⟩ (.int .i64 0)).setCell ⟨a, 1, none⟩ (.int .i64 N1)).setCell ⟨a, 2, none⟩ (.int .i64 L2)).setCell ⟨w4.heap.size, 0, none⟩ (.slice A3 S'.length c3)).setCell ⟨w4.heap.size, 1, none⟩ (.slice A5 0 c5)) wr.heap.size (.agg #[.slice A3 S'.length c3, .slice A5 0 c5]) S' [] ∧ Below wr.heap.size wr ((((((w4.alloc (.cells #[.slice none 0 0, .slice none 0 0] 35)).setCell ⟨a, 0, none⟩ (.int .i64 0)).setCell ⟨a, 1, none⟩ (.int .i64 N1)).setCell ⟨a, 2, none⟩ (.int .i64 L2)).setCell ⟨w4.heap.size, 0, none⟩ (.slice A3 S'.length c3)).setCell ⟨w4.heap.size, 1, none⟩ (.slice A5 0 c5)) := by
  have hs := hB.size
  have la := kA.lt
  have kS := ((((kA.alloc (.cells #[.slice none 0 0, .slice none 0 0] 35)).set_ 0 (.int .i64 0)).set_ 1 (.int .i64 N1)).set_ 2 (.int .i64 L2))
  have kP := (((KH.Blk.new w4 35 #[.slice none 0 0, .slice none 0 0]).far (p := ⟨a, 0, none⟩) (by show w4.heap.size ≠ a; omega) (.int .i64 0)).far (p := ⟨a, 1, none⟩) (by show w4.heap.size ≠ a; omega) (.int .i64 N1)).far (p := ⟨a, 2, none⟩) (by show w4.heap.size ≠ a; omega) (.int .i64 L2)
  refine ⟨?_, ?_, ?_, ?_⟩
  · have := (kS.far (p := ⟨w4.heap.size, 0, none⟩) (by show a ≠ w4.heap.size; omega) (.slice A3 S'.length c3)).far (p := ⟨w4.heap.size, 1, none⟩) (by show a ≠ w4.heap.size; omega) (.slice A5 0 c5)
    simpa using this
  · have := (kP.set_ 0 (.slice A3 S'.length c3)).set_ 1 (.slice A5 0 c5)
    simpa using this
  · have q := hP.plB.below ((Below.refl w4.heap.size w4).alloc (Nat.le_refl _) (.cells #[.slice none 0 0, .slice none 0 0] 35))
    exact (((((q.off (p := ⟨a, 0, none⟩) (.inl hl) _).off (p := ⟨a, 1, none⟩) (.inl hl) _).off (p := ⟨a, 2, none⟩) (.inl hl) _).off (p := ⟨w4.heap.size, 0, none⟩) (.inr (Nat.le_refl _)) _).off (p := ⟨w4.heap.size, 1, none⟩) (.inr (Nat.le_refl _)) _).inn hlo (by simp)
  · exact (((((hB.alloc hs _).setCell (p := ⟨a, 0, none⟩) ha _).setCell (p := ⟨a, 1, none⟩) ha _).setCell (p := ⟨a, 2, none⟩) ha _).setCell (p := ⟨w4.heap.size, 0, none⟩) hs _).setCell (p := ⟨w4.heap.size, 1, none⟩) hs _
theorem nx4 {a b : Nat} {wr w4 : World} {lo' : Nat} {A3 A5 : Option Addr} {c3 c5 : Nat} {S' : List ByteArray} {N1 L2 : Nat} (hP : PlIn w4 lo' (.agg #[.slice A3 S'.length c3, .slice A5 0 c5]) S' []) (hlo : wr.heap.size ≤ lo') (hB : Below wr.heap.size wr w4) (kS : KH.Blk w4 a 37 #[.int .i64 0, .int .i64 0, .int .i64 0]) (kP : KH.Blk w4 b 35 #[.slice none 0 0, .slice none 0 0]) (ha : wr.heap.size ≤ a) (hb : wr.heap.size ≤ b) (hl : a < lo') (hl' : b < lo') : KH.Blk (((((w4.setCell ⟨a, 0, none⟩ (.int .i64 0)).setCell ⟨a, 1, none⟩ (.int .i64 N1)).setCell ⟨a, 2, none⟩ (.int .i64 L2)).setCell ⟨b, 0, none⟩ (.slice A3 S'.length c3)).setCell ⟨b, 1, none⟩ (.slice A5 0 c5)) a 37 #[.int .i64 0, .int .i64 N1, .int .i64 L2] ∧ KH.Blk (((((w4.setCell ⟨a, 0, none⟩ (.int .i64 0)).setCell ⟨a, 1, none⟩ (.int .i64 N1)).setCell ⟨a, 2, none⟩ (.int .i64 L2)).setCell ⟨b, 0, none⟩ (.slice A3 S'.length c3)).setCell ⟨b, 1, none⟩ (.slice A5 0 c5)) b 35 #[.slice A3 S'.length c3, .slice A5 0 c5] ∧ PlIn (((((w4.setCell ⟨a, 0, none⟩ (.int .i64 0)).setCell ⟨a, 1, none⟩ (.int .i64 N1)).setCell ⟨a, 2, none⟩ (.int .i64 L2)).setCell ⟨b, 0, none⟩ (.slice A3 S'.length c3)).setCell ⟨b, 1, none⟩ (.slice A5 0 c5)) wr.heap.size (.agg #[.slice A3 S'.length c3, .slice A5 0 c5]) S' [] ∧ Below wr.heap.size wr (((((w4.setCell ⟨a, 0, none⟩ (.int .i64 0)).setCell ⟨a, 1, none⟩ (.int .i64 N1)).setCell ⟨a, 2, none⟩ (.int .i64 L2)).setCell ⟨b, 0, none⟩ (.slice A3 S'.length c3)).setCell ⟨b, 1, none⟩ (.slice A5 0 c5)) := by
  have hne : a ≠ b := kS.ne_ kP (by decide)
  refine ⟨?_, ?_, ?_, ?_⟩
  · have := ((((kS.set_ 0 (.int .i64 0)).set_ 1 (.int .i64 N1)).set_ 2 (.int .i64 L2)).far (p := ⟨b, 0, none⟩) hne (.slice A3 S'.length c3)).far (p := ⟨b, 1, none⟩) hne (.slice A5 0 c5)
    simpa using this
  · have := ((((kP.far (p := ⟨a, 0, none⟩) hne.symm (.int .i64 0)).far (p := ⟨a, 1, none⟩) hne.symm (.int .i64 N1)).far (p := ⟨a, 2, none⟩) hne.symm (.int .i64 L2)).set_ 0 (.slice A3 S'.length c3)).set_ 1 (.slice A5 0 c5)
    simpa using this
  · exact (((((hP.plB.off (p := ⟨a, 0, none⟩) (.inl hl) _).off (p := ⟨a, 1, none⟩) (.inl hl) _).off (p := ⟨a, 2, none⟩) (.inl hl) _).off (p := ⟨b, 0, none⟩) (.inl hl') _).off (p := ⟨b, 1, none⟩) (.inl hl') _).inn hlo (by simp)
  · exact ((((hB.setCell (p := ⟨a, 0, none⟩) ha _).setCell (p := ⟨a, 1, none⟩) ha _).setCell (p := ⟨a, 2, none⟩) ha _).setCell (p := ⟨b, 0, none⟩) hb _).setCell (p := ⟨b, 1, none⟩) hb _
theorem nx5 {a : Nat} {wr w4 : World} {lo' : Nat} {A3 A5 : Option Addr} {c3 c5 : Nat} {S' : List ByteArray} {N1 L2 : Nat} (hP : PlIn w4 lo' (.agg #[.slice A3 S'.length c3, .slice A5 0 c5]) S' []) (hlo : wr.heap.size ≤ lo') (hB : Below wr.heap.size wr w4) (kA : KH.Blk w4 a 35 #[.slice none 0 0, .slice none 0 0]) (ha : wr.heap.size ≤ a) (hl : a < lo') : KH.Blk (((w4.alloc (.cells #[.int .i64 0, .int .i64 N1, .int .i64 L2] 37)).setCell ⟨a, 0, none⟩ (.slice A3 S'.length c3)).setCell ⟨a, 1, none⟩ (.slice A5 0 c5)) w4.heap.size 37 #[.int .i64 0, .int .i64 N1, .int .i64 L2] ∧ KH.Blk (((w4.alloc (.cells #[.int .i64 0, .int .i64 N1, .int .i64 L2] 37)).setCell ⟨a, 0, none⟩ (.slice A3 S'.length c3)).setCell ⟨a, 1, none⟩ (.slice A5 0 c5)) a 35 #[.slice A3 S'.length c3, .slice A5 0 c5] ∧ PlIn (((w4.alloc (.cells #[.int .i64 0, .int .i64 N1, .int .i64 L2] 37)).setCell ⟨a, 0, none⟩ (.slice A3 S'.length c3)).setCell ⟨a, 1, none⟩ (.slice A5 0 c5)) wr.heap.size (.agg #[.slice A3 S'.length c3, .slice A5 0 c5]) S' [] ∧ Below wr.heap.size wr (((w4.alloc (.cells #[.int .i64 0, .int .i64 N1, .int .i64 L2] 37)).setCell ⟨a, 0, none⟩ (.slice A3 S'.length c3)).setCell ⟨a, 1, none⟩ (.slice A5 0 c5)) := by
  have hs := hB.size
  have la := kA.lt
  refine ⟨?_, ?_, ?_, ?_⟩
  · exact ((KH.Blk.new w4 _ _).far (p := ⟨a, 0, none⟩) (by show w4.heap.size ≠ a; omega) _).far (p := ⟨a, 1, none⟩) (by show w4.heap.size ≠ a; omega) _
  · have := ((kA.alloc (.cells #[.int .i64 0, .int .i64 N1, .int .i64 L2] 37)).set_ 0 (.slice A3 S'.length c3)).set_ 1 (.slice A5 0 c5)
    simpa using this
  · have q := hP.plB.below ((Below.refl w4.heap.size w4).alloc (Nat.le_refl _) (.cells #[.int .i64 0, .int .i64 N1, .int .i64 L2] 37))
    exact ((q.off (p := ⟨a, 0, none⟩) (.inl hl) _).off (p := ⟨a, 1, none⟩) (.inl hl) _).inn hlo (by simp)
  · exact ((hB.alloc hs _).setCell (p := ⟨a, 0, none⟩) ha _).setCell (p := ⟨a, 1, none⟩) ha _
theorem hdV_head {key nonce s : ByteArray} {i : Nat} (h : nonce.size = 12) : (hdV key nonce i s).extract 0 12 = nonce := by
  unfold hdV
  rw [← h]
  apply ByteArray.ext
  simp [ByteArray.data_extract, ByteArray.data_append]
theorem wrG_put {key bn tx : ByteArray} {n i N N1 j j2 : Nat} {Bl T Sn S' dr dr' : List ByteArray} (G : WrG key n Bl T Sn N j dr) (r1 : NoOk S' (16 * j2)) (r2 : N1 ≤ 16 * j2) (r3 : DrOk dr' N1) (hb : bn.size = 12) (ht : tx.size ≤ 64) :
    WrG key n (Bl.set i (hdV key bn i tx)) (T.set i tx) S' N1 j2 dr' := by
  refine ⟨r1, r2, r3, by rw [List.length_set]; exact G.bl, by rw [List.length_set]; exact G.tl, G.sz.set i (by rw [hdV_size _ _ _ _ hb]; omega), fun m hm => ?_⟩
  by_cases e : i = m
  · subst e
    rw [get_set_eq (by rw [G.bl]; exact hm), get_set_eq (by rw [G.tl]; exact hm)]
    exact .inr ⟨ht, bn, hb, rfl⟩
  · rw [get_set_ne e, get_set_ne e]
    exact G.ok m hm
/-- what writes' region 12 keeps -/
abbrev WvR (w0 : World) (lo h p5 : Nat) (a1 a2 : Addr) (x y z u v c d : Value) (w' : World) : Prop := w'.cell? ⟨lo, 0, none⟩ = some x ∧ w'.cell? ⟨lo, 1, none⟩ = some y ∧ w'.cell? ⟨h, 7, none⟩ = some z ∧ w'.cell? ⟨p5, 0, none⟩ = some u ∧ w'.cell? ⟨p5, 1, none⟩ = some v ∧ w'.cell? a1 = some c ∧ w'.cell? a2 = some d ∧ Below w0.heap.size w0 w'
theorem wvR_of {w0 w' : World} {lo h p5 : Nat} {a1 a2 : Addr} {x y z u v c d : Value} (k0 : w0.cell? ⟨lo, 0, none⟩ = some x) (k1 : w0.cell? ⟨lo, 1, none⟩ = some y) (k2 : w0.cell? ⟨h, 7, none⟩ = some z) (k3 : w0.cell? ⟨p5, 0, none⟩ = some u) (k4 : w0.cell? ⟨p5, 1, none⟩ = some v) (k5 : w0.cell? a1 = some c) (k6 : w0.cell? a2 = some d)
    (hb : Below w0.heap.size w0 w') : WvR w0 lo h p5 a1 a2 x y z u v c d w' :=
  ⟨(hb.cell (World.block_lt_of_cell? _ _ k0)).trans k0, (hb.cell (World.block_lt_of_cell? _ _ k1)).trans k1, (hb.cell (World.block_lt_of_cell? _ _ k2)).trans k2, (hb.cell (World.block_lt_of_cell? _ _ k3)).trans k3, (hb.cell (World.block_lt_of_cell? _ _ k4)).trans k4,
    (hb.cell (World.block_lt_of_cell? _ _ k5)).trans k5, (hb.cell (World.block_lt_of_cell? _ _ k6)).trans k6, hb⟩
theorem wvR_b {w0 w' : World} {lo h p5 : Nat} {a1 a2 : Addr} {x y z u v c d : Value} (hs : WvR w0 lo h p5 a1 a2 x y z u v c d w') : Below w0.heap.size w0 w' := hs.2.2.2.2.2.2.2
theorem wv1 {w8 w9 : World} {b n c : Nat} {r : ByteArray} {Bl : List ByteArray} (hR : KH.Reads w9 w9.heap.size 1 (some ⟨b, 0, none⟩) n (Bl.map .string)) (hB : Below w8.heap.size w8 w9) :
    KH.Blk (w9.alloc (.cells #[.slice (some ⟨b, 0, none⟩) n c, .string r] 48)) w9.heap.size 48 #[.slice (some ⟨b, 0, none⟩) n c, .string r] ∧
      KH.Reads (w9.alloc (.cells #[.slice (some ⟨b, 0, none⟩) n c, .string r] 48)) (w9.alloc (.cells #[.slice (some ⟨b, 0, none⟩) n c, .string r] 48)).heap.size 1 (some ⟨b, 0, none⟩) n (Bl.map .string) ∧ Below w8.heap.size w8 (w9.alloc (.cells #[.slice (some ⟨b, 0, none⟩) n c, .string r] 48)) :=
  ⟨KH.Blk.new _ _ _, (hR.alloc (Nat.le_refl _) _).more (by simp), hB.alloc hB.size _⟩
theorem wv2 {w8 w9 : World} {g b n c : Nat} {x y : Value} {r : ByteArray} {Bl : List ByteArray} (hR : KH.Reads w9 w9.heap.size 1 (some ⟨b, 0, none⟩) n (Bl.map .string)) (hB : Below w8.heap.size w8 w9) (kA : KH.Blk w9 g 48 #[x, y]) (hg : w8.heap.size ≤ g) (hb : g < b) :
    KH.Blk ((w9.setCell ⟨g, 0, none⟩ (.slice (some ⟨b, 0, none⟩) n c)).setCell ⟨g, 1, none⟩ (.string r)) g 48 #[.slice (some ⟨b, 0, none⟩) n c, .string r] ∧
      KH.Reads ((w9.setCell ⟨g, 0, none⟩ (.slice (some ⟨b, 0, none⟩) n c)).setCell ⟨g, 1, none⟩ (.string r)) ((w9.setCell ⟨g, 0, none⟩ (.slice (some ⟨b, 0, none⟩) n c)).setCell ⟨g, 1, none⟩ (.string r)).heap.size 1 (some ⟨b, 0, none⟩) n (Bl.map .string) ∧
      Below w8.heap.size w8 ((w9.setCell ⟨g, 0, none⟩ (.slice (some ⟨b, 0, none⟩) n c)).setCell ⟨g, 1, none⟩ (.string r)) := by
  refine ⟨?_, ?_, (hB.setCell (p := ⟨g, 0, none⟩) hg _).setCell (p := ⟨g, 1, none⟩) hg _⟩
  · have := (kA.set_ 0 (.slice (some ⟨b, 0, none⟩) n c)).set_ 1 (.string r)
    simpa using this
  · have hn : ∀ ad, some (⟨b, 0, none⟩ : Addr) = some ad → ad.block ≠ g := fun ad e q => by injection e with e; subst e; have q' : b = g := q; omega
    exact KH.Reads.more (KH.Reads.setFar (KH.Reads.setFar hR (p := ⟨g, 0, none⟩) hn _) (p := ⟨g, 1, none⟩) hn _) (by simp)
theorem wv3 {w8 w9 : World} {g : Nat} {x y u v : Value} (hB : Below w8.heap.size w8 w9) (kA : KH.Blk w9 g 48 #[x, y]) (hg : w8.heap.size ≤ g) :
    KH.Blk ((w9.setCell ⟨g, 0, none⟩ u).setCell ⟨g, 1, none⟩ v) g 48 #[u, v] ∧ Below w8.heap.size w8 ((w9.setCell ⟨g, 0, none⟩ u).setCell ⟨g, 1, none⟩ v) := by
  refine ⟨?_, (hB.setCell (p := ⟨g, 0, none⟩) hg _).setCell (p := ⟨g, 1, none⟩) hg _⟩
  have := (kA.set_ 0 u).set_ 1 v
  simpa using this
set_option maxHeartbeats 4000000 in
set_option maxRecDepth 100000 in
theorem writes_any (K : Nat → Nat) {w : World} {base h : Nat} {S Sn : List ByteArray} {N j : Nat} {key : ByteArray} {said dr : List ByteArray} {x : HsV} (H : House w base h 0 0 S Sn N (16 * j) key said dr x) {n : Nat} {s : Stp} {A4 : Option Addr} {c4 : Nat} {Bl : List ByteArray}
    (hv : RowN w (HQ h 0 0 x.A6) A4 n Bl) (hn : cntB n = true) (hG : WrG key n Bl said Sn N j dr) (hkey : key.size = 32) (hj : j + 6 < 60) (hs : s.Ok w base) (h1 : s.n1 ≤ 6) (_h2 : s.n2 ≤ 6)
    (hK : RoundsAt K w) (hT : TurnsAt w) (hP : PowAt w) (g0 : 0 < base) (g1 : 1 < base) (g2 : 2 < base) :
    Calls Tryz.prog 17 #[.pointer (some ⟨h, 0, none⟩), .agg #[.slice A4 n c4, .string (rootV K Bl)], .agg s.cells] w fun e w' => ∃ A4' c4' A9 c9 Bl' T' Sn' N' j' dr' x', e = .returned (.tuple #[.agg #[.slice A4' n c4', .string (rootV K Bl')], .slice A9 n c9, .bool true]) ∧
      House w' base h 0 0 S Sn' N' (16 * j') key said dr' x' ∧ RowN w' (HQ h 0 0 x'.A6) A9 n T' ∧ RowN w' (HQ h 0 0 x'.A6) A4' n Bl' ∧ WrG key n Bl' T' Sn' N' j' dr' ∧ j' ≤ j + 6 ∧ Below base w w' ∧
      (∀ b, b < w.heap.size → b ≠ h → (∀ ad, x.A6 = some ad → ad.block ≠ b) → w'.heap[b]? = w.heap[b]?) := by
  obtain ⟨i0, hi, hz0, hz1, hz2⟩ := info_parts str_info
  have hn' : 1 ≤ n ∧ n ≤ 64 := by obtain ⟨m, hm, h⟩ := cntB_nat hn; omega
  have hbh := H.hb
  have hhw := H.blk.lt
  have hsl := hG.tl
  have hR := H.s.reads
  obtain ⟨k4, k5, k6, hb3, hz3⟩ := wr_start (w := w) (.slice A4 n c4) (.string (rootV K Bl)) s _ rfl
  have H3 := H.below hb3
  have hv3 := hv.below hb3
  have hR3 := hR.below hb3
  have f8 := H3.blk.cell 8
  simp only [hsC, List.getElem?_toArray, List.getElem?_cons_zero, List.getElem?_cons_succ] at f8
  rw [hsl] at hR3 f8
  have h1c : ∀ u ∈ said.map Value.string, u.oneCell' = true := by intro u hu; obtain ⟨b, _, rfl⟩ := List.mem_map.1 hu; rfl
  have HX := KH.hid (And.intro H (And.intro hv (And.intro hG (And.intro hs (And.intro hK (And.intro hT hP))))))
  have HY := KH.hid (And.intro H3 hv3)
  clear H hv hG hs hK hT hP hR H3 hv3 hsl
  obtain ⟨rv, hrv⟩ : ∃ q, q = rootV K Bl := ⟨_, rfl⟩
  rw [← hrv] at k4 hb3 hz3 hR3 f8 HY k5 k6 ⊢
  have HRV := KH.hid hrv
  clear hrv
  unfold Stp.cells at k4 k5 k6 hb3 hz3 hR3 f8 HY ⊢
  go_enter Tryz.func17, Tryz.ntmps17
  go_upto_region 2 with fail
  obtain ⟨lo, hlo⟩ : ∃ q, q = w.heap.size := ⟨_, rfl⟩
  obtain ⟨p5, hp5⟩ : ∃ q, q = w.heap.size + 1 := ⟨_, rfl⟩
  obtain ⟨p6, hp6⟩ : ∃ q, q = w.heap.size + 1 + 1 := ⟨_, rfl⟩
  obtain ⟨w3, hw3⟩ : ∃ W, W = ((w.alloc (.cells #[.slice A4 n c4, .string rv] 48)).alloc (.cells #[.slice s.A1 s.n1 s.c1, .slice s.A2 s.n2 s.c2, .int .i64 s.d, .slice s.A3 s.n3 s.c3, .slice s.A4 s.n4 s.c4] 32)).alloc (.cells #[.slice none 0 0, .string ⟨#[]⟩] 48) := ⟨_, rfl⟩
  rw [← hw3] at k4 k5 k6 hb3 hz3 hR3 f8 HY
  rw [← hw3, ← hp6, ← hp5, ← hlo]
  rw [← hlo] at hb3 k4 k5 k6 hz3 hR3
  have HE := KH.hid (And.intro hlo (And.intro hp5 hp6))
  clear hw3 hlo hp5 hp6
  go_wp2_with (at_builtin; refine KH.wpList_append_any _ rfl _ _ _ rfl lo 9 i0 _ 1 16 Tryz.underlying30 hi hz0 hz1 hz2 rfl (by omega) (.slice none 0 0) 0 [] rfl ⟨by simp, .inl ⟨rfl, rfl⟩⟩ lo x.A5 n x.c5 _ rfl hR3 h1c (by unfold maxLen; omega) (by omega) (by omega) ?_; intro v9 w4 hown4 hgrow4 hlies4; obtain ⟨A9, c9, rfl⟩ := KH.own_form hown4)
  simp only [Nat.zero_add, List.nil_append] at hown4 hlies4
  obtain ⟨g9, cap9, hv9, hg9lo, hg9lt⟩ := hown4.form (by omega)
  obtain rfl : A9 = some ⟨g9, 0, none⟩ := by injection hv9
  have hg9 : g9 = w3.heap.size := by
    rcases hlies4 with e | e
    · cases e
    · injection e
  have hb4 : Below w3.heap.size w3 w4 := (Below.refl _ _).grown hgrow4 (Nat.le_refl _) (fun _ h => by cases h)
  have hB4 : Below lo w w4 := hb3.trans (hb4.mono (by omega))
  have hhl : h < lo := by rw [HE.out.1]; exact hhw
  obtain ⟨hi4, hhi⟩ : ∃ q, q = w4.heap.size := ⟨_, rfl⟩
  have HS0 : Hid (WrS K x.A6 w w4 base h lo hi4 g9 c9 s S Sn N (16 * j) key said dr x n A4 c4 Bl said) := by
    have hB4' : Below w.heap.size w w4 := by rw [← HE.out.1]; exact hB4
    have hr := HX.out.1.range hi4
    have hv5 : RowN w (HQ h w.heap.size hi4 x.A6) A4 n Bl := HX.out.2.1.imp fun b hb q => ⟨q.1, q.2.1, .inl hb⟩
    rw [← HE.out.1] at hr hv5
    exact ⟨hr.below hB4', by rw [← HRV.out]; exact k4.below hb4 k4.lt, k5.below hb4 k5.lt, k6.below hb4 k6.lt, hv5.below hB4', hown4, ⟨by omega, by omega⟩, by omega, hhl, hB4.mono (by omega), fun b q1 _ _ => hB4.block b q1, fun ad e => .inr ⟨ad, e, rfl⟩⟩
  have HLo := KH.hid (And.intro hg9 hhi)
  have hz4 := hb4.size
  clear k4 k5 k6 hb3 hz3 hR3 f8 hown4 hgrow4 hlies4 hb4 hB4 HY hg9 hhi hv9 hg9lo hg9lt h1c
  go_loopw [10] (fun i wr => ∃ k : Nat, k ≤ s.n1 ∧ k ≤ s.n2 ∧ i = .int .i64 k ∧ Hid (∃ Sn' N' j' dr' x' A4' c4' Bl' T', WrS K x.A6 w wr base h lo hi4 g9 c9 s S Sn' N' (16 * j') key said dr' x' n A4' c4' Bl' T' ∧ WrG key n Bl' T' Sn' N' j' dr' ∧ j' ≤ j + k)) (fun i _ => s.n1 - (intOf i).toNat)
  case atStart => exact ⟨0, Nat.zero_le _, Nat.zero_le _, rfl, KH.hid ⟨_, _, _, _, _, _, _, _, _, HS0.out, HX.out.2.2.1, Nat.le_refl _⟩⟩
  case round =>
    obtain ⟨k, hk1, hk2, rfl, HR⟩ := hrel
    clear HS0
    obtain ⟨Sn', N', j', dr', x', A4', c4', Bl', T', hW, hG, hjk⟩ := HR
    have HW := KH.hid hW
    have HG := KH.hid hG
    have kk5 : KH.Blk wr p5 32 s.cells := by rw [HE.out.2.1, ← HE.out.1]; exact hW.k5
    have kk6 : KH.Blk wr p6 48 #[.slice none 0 0, .string ⟨#[]⟩] := by rw [HE.out.2.2, ← HE.out.1]; exact hW.k6
    have kk4 := hW.k4
    obtain ⟨rv', hrv'⟩ : ∃ q, q = rootV K Bl' := ⟨_, rfl⟩
    rw [← hrv'] at kk4
    have HRV' := KH.hid hrv'
    clear hW hG hrv'
    have e50 : wr.cell? ⟨p5, 0, none⟩ = some (.slice s.A1 s.n1 s.c1) := kk5.cell 0
    have e51 : wr.cell? ⟨p5, 1, none⟩ = some (.slice s.A2 s.n2 s.c2) := kk5.cell 1
    have e40 : wr.cell? ⟨lo, 0, none⟩ = some (.slice A4' n c4') := kk4.cell 0
    have e41 : wr.cell? ⟨lo, 1, none⟩ = some (.string rv') := kk4.cell 1
    by_cases hlt : k < s.n1 ∧ k < s.n2
    · obtain ⟨hka, hkb'⟩ := hlt
      have hH := HW.out.H
      have hBw := HW.out.b
      have hzw := hBw.size
      have hzb : base ≤ wr.heap.size := by have := HW.out.bl; omega
      have hc2 := hH.blk.cell 2
      have hc3 := hH.blk.cell 3
      have hc4 := hH.blk.cell 4
      have hc5 := hH.blk.cell 5
      have hc6 := hH.blk.cell 6
      simp only [hsC, List.getElem?_toArray, List.getElem?_cons_zero, List.getElem?_cons_succ] at hc2 hc3 hc4 hc5 hc6
      obtain ⟨bn, hbn⟩ : ∃ q, q = nonV N' := ⟨_, rfl⟩
      have HNx : Hid (∀ (W : World), Below wr.heap.size wr W → Calls Tryz.prog 35 #[.agg #[.slice x'.A3 Sn'.length x'.c3, .slice x'.A4 0 x'.c4], .agg #[.int .i64 0, .int .i64 N', .int .i64 (16 * j' : Nat)], .int .i64 (-1)] W fun e w' =>
          ∃ A3 c3 A5 c5 S', ∃ N1 L2 : Nat, e = .returned (.tuple #[.string bn, .agg #[.int .i64 0, .int .i64 N1, .int .i64 L2], .agg #[.slice A3 S'.length c3, .slice A5 0 c5], .int .i64 0]) ∧ PlIn w' W.heap.size (.agg #[.slice A3 S'.length c3, .slice A5 0 c5]) S' [] ∧
            Hid (N1 = N' + 1 ∧ ∃ j2, L2 = 16 * j2 ∧ NoOk S' (16 * j2) ∧ N1 ≤ 16 * j2 ∧ j2 ≤ j' + 1) ∧ Below W.heap.size W w') := fun W hb => by
        refine (next_any (hH.pn.below hb) HG.out.no HG.out.le (by omega) (HX.out.2.2.2.2.2.2.below (hBw.trans (hb.mono hzb)) g2) (by have := (hBw.trans (hb.mono hzb)).size; omega)).mono ?_
        rintro e w' ⟨v', S', j2, rfl, h1, h2, h3, h4, h5⟩
        rw [← hbn]
        obtain ⟨A3, c3, A5, c5, rfl, -, -⟩ := h1.form
        exact ⟨A3, c3, A5, c5, S', _, _, rfl, h1, KH.hid ⟨rfl, j2, rfl, h2, h3, h4⟩, h5⟩
      have Hbn := KH.hid hbn
      clear hbn
      obtain ⟨Lr, hLr⟩ : ∃ q, q = 16 * j' := ⟨_, rfl⟩
      rw [← hLr] at hc6 HNx
      have HLr := KH.hid hLr
      clear hH hBw hLr kk4 kk6
      go_upto_region 6 with fail
      go_cut [11, 12, 13, 14] from 38 to 51 (fun b p q e wx => ∃ g12 g13 A3 c3 A5 c5 S', ∃ N1 L2 : Nat, b = .string bn ∧ p = .pointer (some ⟨g12, 0, none⟩) ∧ q = .pointer (some ⟨g13, 0, none⟩) ∧ e = .int .i64 0 ∧ KH.Blk wx g12 37 #[.int .i64 0, .int .i64 N1, .int .i64 L2] ∧ KH.Blk wx g13 35 #[.slice A3 S'.length c3, .slice A5 0 c5] ∧
        Hid (N1 = N' + 1 ∧ ∃ j2, L2 = 16 * j2 ∧ NoOk S' (16 * j2) ∧ N1 ≤ 16 * j2 ∧ j2 ≤ j' + 1) ∧ PlIn wx wr.heap.size (.agg #[.slice A3 S'.length c3, .slice A5 0 c5]) S' [] ∧ Below wr.heap.size wr wx)
      case first =>
        go_region_held3 (fun w' => w'.cell? ⟨h, 2, none⟩ = some (.slice x'.A3 Sn'.length x'.c3) ∧ w'.cell? ⟨h, 3, none⟩ = some (.slice x'.A4 0 x'.c4) ∧ w'.cell? ⟨h, 4, none⟩ = some (.int .i64 0) ∧ w'.cell? ⟨h, 5, none⟩ = some (.int .i64 N') ∧ w'.cell? ⟨h, 6, none⟩ = some (.int .i64 Lr) ∧ Below wr.heap.size wr w')
          (first | exact nxR_of hc2 hc3 hc4 hc5 hc6 (Below.refl wr.heap.size wr).drew | (refine nxR_of hc2 hc3 hc4 hc5 hc6 ?_; (repeat' first | exact (Below.refl wr.heap.size wr).drew | exact Below.refl wr.heap.size wr | exact hB4 | (with_reducible refine Below.drew ?_) | (with_reducible refine Below.setCell ?_ ?_ _) | (with_reducible refine Below.alloc ?_ ?_ _) | exact Nat.le_refl _ | (show wr.heap.size ≤ _; omega) | (simp <;> omega)); done))
          (first | (go_at_call 35; refine (HNx.out _ (nxR_b (h := h) (x := .slice x'.A3 Sn'.length x'.c3) (y := .slice x'.A4 0 x'.c4) (a := .int .i64 0) (b := .int .i64 N') (c := .int .i64 Lr) (by assumption))).mono ?_; rintro e w4 ⟨A3, c3, A5, c5, S', N1, L2, rfl, hP4, hF4, hb4⟩; have hB4 := (nxR_b (w0 := wr) (h := h) (x := .slice x'.A3 Sn'.length x'.c3) (y := .slice x'.A4 0 x'.c4) (a := .int .i64 0) (b := .int .i64 N') (c := .int .i64 Lr) (by assumption)).trans (hb4.mono (nxR_b (w0 := wr) (h := h) (x := .slice x'.A3 Sn'.length x'.c3) (y := .slice x'.A4 0 x'.c4) (a := .int .i64 0) (b := .int .i64 N') (c := .int .i64 Lr) (by assumption)).size); have hs4 := hB4.size; try (have kA := blk_newdrew hb4; (try simp only [alloc_sz] at kA); have a0 := kA.cell 0; have a1 := kA.cell 1; have a2 := kA.cell 2; have b0 := kA.frozen 0; have b1 := kA.frozen 1; have b2 := kA.frozen 2; have nA := Nat.ne_of_lt kA.lt; have nA' := Ne.symm (Nat.ne_of_lt kA.lt); simp only [List.getElem?_toArray, List.getElem?_cons_zero, List.getElem?_cons_succ] at a0 a1 a2; have c0 := fun o => alloc_cell a0 o; have c1 := fun o => alloc_cell a1 o; (try (have c2 := fun o => alloc_cell a2 o)); have d0 := fun o => (kA.alloc o).frozen 0; have d1 := fun o => (kA.alloc o).frozen 1; have d2 := fun o => (kA.alloc o).frozen 2); try (have kB := blk_newdrew2 hb4; (try simp only [alloc_sz] at kB); have a3 := kB.cell 0; have a4 := kB.cell 1; have a5 := kB.cell 2; have b3 := kB.frozen 0; have b4 := kB.frozen 1; have b5 := kB.frozen 2; have nB := Nat.ne_of_lt kB.lt; have nB' := Ne.symm (Nat.ne_of_lt kB.lt); simp only [List.getElem?_toArray, List.getElem?_cons_zero, List.getElem?_cons_succ] at a3 a4 a5)))
        all_goals
          go_wp2_with fail
          go_meet
          first
            | (obtain ⟨q1, q2, q3, q4⟩ := nx1 (wr := wr) hP4 (by simp) hB4; with_reducible exact ⟨_, _, A3, c3, A5, c5, S', N1, L2, rfl, rfl, rfl, rfl, q1, q2, hF4, q3, q4⟩)
            | (obtain ⟨q1, q2, q3, q4⟩ := nx2 (wr := wr) hP4 (by simp) hB4; with_reducible exact ⟨_, _, A3, c3, A5, c5, S', N1, L2, rfl, rfl, rfl, rfl, q1, q2, hF4, q3, q4⟩)
            | (obtain ⟨q1, q2, q3, q4⟩ := nx3 (wr := wr) hP4 (by simp <;> omega) hB4 kA (by omega) (by simp <;> omega); with_reducible exact ⟨_, _, A3, c3, A5, c5, S', N1, L2, rfl, rfl, rfl, rfl, q1, q2, hF4, q3, q4⟩)
            | (obtain ⟨q1, q2, q3, q4⟩ := nx5 (wr := wr) hP4 (by simp <;> omega) hB4 kA (by omega) (by simp <;> omega); with_reducible exact ⟨_, _, A3, c3, A5, c5, S', N1, L2, rfl, rfl, rfl, rfl, q1, q2, hF4, q3, q4⟩)
            | (obtain ⟨q1, q2, q3, q4⟩ := nx4 (wr := wr) hP4 (by simp <;> omega) hB4 kA kB (by omega) (by omega) (by simp <;> omega) (by simp <;> omega); with_reducible exact ⟨_, _, A3, c3, A5, c5, S', N1, L2, rfl, rfl, rfl, rfl, q1, q2, hF4, q3, q4⟩)
            | (obtain ⟨q1, q2, q3, q4⟩ := nx4 (wr := wr) hP4 (by simp <;> omega) hB4 kB kA (by omega) (by omega) (by simp <;> omega) (by simp <;> omega); with_reducible exact ⟨_, _, A3, c3, A5, c5, S', N1, L2, rfl, rfl, rfl, rfl, q1, q2, hF4, q3, q4⟩)
      case rest =>
        obtain ⟨g12, g13, A3, c3, A5, c5, S', N1, L2, rfl, rfl, rfl, rfl, kS, kN, HF, hPn, hb⟩ := hcut
        have W1 := HW.out.below hb
        have hrN : RowN wc (HQ h lo hi4 x'.A6) A3 S'.length S' := hPn.row fun b q1 _ => ⟨by have := HW.out.hl; have := HW.out.k4.lt; omega, fun ad e q => by have := (HW.out.H.d.lt ad.block (by rw [e]; rfl)).2; omega, .inr (by have := HW.out.hz; omega)⟩
        have W2 := W1.setN (c3 := c3) (A5 := A5) (c5 := c5) hrN
        have nS : h ≠ g12 := W1.H.blk.ne_ kS (by decide)
        have kS2 := (kS.far (p := ⟨h, 2, none⟩) nS.symm (.slice A3 S'.length c3)).far (p := ⟨h, 3, none⟩) nS.symm (.slice A5 0 c5)
        have t2 := W1.H.blk.cell 2
        have t3 := W1.H.blk.cell 3
        have t4 := W1.H.blk.frozen 2
        have t5 := W1.H.blk.frozen 3
        have t6 : wc.cell? ⟨g13, 0, none⟩ = some (.slice A3 S'.length c3) := kN.cell 0
        have t7 : wc.cell? ⟨g13, 1, none⟩ = some (.slice A5 0 c5) := kN.cell 1
        have hbz : bn.toList.isEmpty = false := by rw [Hbn.out]; exact nonV_ne N'
        simp only [hsC, List.getElem?_toArray, List.getElem?_cons_zero, List.getElem?_cons_succ] at t2 t3
        have HW2 := KH.hid (And.intro W2 kS2)
        clear W1 W2 hrN kS kN hPn kS2 HNx hc2 hc3 hc4 hc5 hc6 e40 e41
        go_upto_region 10 with fail
        obtain ⟨w5, hw5⟩ : ∃ W, W = (wc.setCell ⟨h, 2, none⟩ (.slice A3 S'.length c3)).setCell ⟨h, 3, none⟩ (.slice A5 0 c5) := ⟨_, rfl⟩
        rw [← hw5] at HW2
        rw [← hw5]
        clear hw5 t2 t3 t4 t5 t6 t7 hb
        have t0 : w5.cell? ⟨g12, 0, none⟩ = some (.int .i64 0) := HW2.out.2.cell 0
        have t1 : w5.cell? ⟨g12, 1, none⟩ = some (.int .i64 N1) := HW2.out.2.cell 1
        have t2 : w5.cell? ⟨g12, 2, none⟩ = some (.int .i64 L2) := HW2.out.2.cell 2
        have t4 := HW2.out.1.H.blk.cell 4
        have t5 := HW2.out.1.H.blk.cell 5
        have t6 := HW2.out.1.H.blk.cell 6
        have t7 := HW2.out.1.H.blk.frozen 4
        have t8 := HW2.out.1.H.blk.frozen 5
        have t9 := HW2.out.1.H.blk.frozen 6
        simp only [hsC, List.getElem?_toArray, List.getElem?_cons_zero, List.getElem?_cons_succ] at t4 t5 t6
        go_upto_region 11 with fail
        have HW3 := KH.hid (HW2.out.1.setS N1 L2)
        obtain ⟨w6, hw6⟩ : ∃ W, W = ((w5.setCell ⟨h, 4, none⟩ (.int .i64 0)).setCell ⟨h, 5, none⟩ (.int .i64 N1)).setCell ⟨h, 6, none⟩ (.int .i64 L2) := ⟨_, rfl⟩
        rw [← hw6] at HW3
        rw [← hw6]
        clear hw6 t0 t1 t2 t4 t5 t6 t7 t8 t9 HW2
        have hW4 := HW3.out.below ((Below.refl w6.heap.size w6).alloc (Nat.le_refl _) (.cells #[.string bn] 9))
        have t0 := hW4.H.blk.cell 9
        simp only [hsC, List.getElem?_toArray, List.getElem?_cons_zero, List.getElem?_cons_succ] at t0
        have t1 := HW3.out.H.blk.cell 9
        simp only [hsC, List.getElem?_toArray, List.getElem?_cons_zero, List.getElem?_cons_succ] at t1
        have hod := hW4.H.d
        have hdl : dr'.length ≤ 2000 := by have := HG.out.d.1; have := HG.out.le; omega
        have hbz6 : base ≤ w6.heap.size := by have := HW3.out.bl; have := HW3.out.k4.lt; omega
        have h1s : ∀ u ∈ [Value.string bn], u.oneCell' = true := by intro u hu; simp at hu; subst hu; rfl
        have hkb := hW4.H.blk
        go_upto_region 12 with (at_builtin; refine KH.wpList_append_any _ rfl _ _ _ rfl base 9 i0 _ 1 16 Tryz.underlying30 hi hz0 hz1 hz2 rfl (by omega) (.slice x'.A6 dr'.length x'.c6) dr'.length _ rfl hod (w6.heap.size + 1) (some ⟨w6.heap.size, 0, none⟩) 1 1 _ rfl (str_reads w6 bn _ _ rfl) h1s (by unfold maxLen; omega) (by omega) (by simp; omega) ?_; intro v9 w7 hown7 hgrow7 hlies7; obtain ⟨A7, c7, rfl⟩ := KH.own_form hown7; have hk7 := hkb.grown hgrow7 (fun e => KH.own_blk_ne hod hkb (by decide) e.symm); have t3 := hk7.cell 9; have t4 := hk7.frozen 9; simp only [hsC, List.getElem?_toArray, List.getElem?_cons_zero, List.getElem?_cons_succ] at t3)
        have HW5 := KH.hid (hW4.setDr hgrow7 hown7 hlies7)
        obtain ⟨x2, HW6⟩ : ∃ x2, Hid (WrS K x.A6 w (w7.setCell ⟨h, 9, none⟩ (.slice A7 (dr'.length + 1) c7)) base h lo hi4 g9 c9 s S S' N1 L2 key said (dr' ++ [bn]) x2 n A4' c4' Bl' T') := ⟨_, HW5⟩
        obtain ⟨w8, hw8⟩ : ∃ W, W = w7.setCell ⟨h, 9, none⟩ (.slice A7 (dr'.length + 1) c7) := ⟨_, rfl⟩
        rw [← hw8] at HW6
        rw [← hw8]
        clear hw8 HW5 hown7 hgrow7 hlies7 hk7 t0 t1 t3 t4 hod hkb hW4 HW3 h1s
        have hOk8 := HX.out.2.2.2.1.below HW6.out.b (Nat.le_refl _)
        obtain ⟨ad1, pI, hA1, had1, hpl, q5⟩ := KH.Reads.int hOk8.h1 hka
        obtain ⟨ad2, u2, hA2, had2, htx, q6⟩ := hOk8.h2.at_ hkb'
        obtain ⟨tx, htx1, rfl⟩ : ∃ b, s.tx[k]? = some b ∧ u2 = .string b := by
          rw [List.getElem?_map] at htx
          cases hq : s.tx[k]? with
          | none => rw [hq] at htx; cases htx
          | some b => rw [hq] at htx; exact ⟨b, rfl, by simpa using htx.symm⟩
        have hpr := hOk8.r1 pI (List.mem_of_getElem? hpl)
        have htz : tx.size ≤ 9223372036854775807 := by have := hOk8.r2 tx (List.mem_of_getElem? htx1); unfold maxLen at this; exact this
        clear htx htx1 hpl hOk8
        have q0 : w8.cell? ⟨lo, 0, none⟩ = some (.slice A4' n c4') := HW6.out.k4.cell 0
        have q1 : w8.cell? ⟨lo, 1, none⟩ = some (.string rv') := by rw [HRV'.out]; exact HW6.out.k4.cell 1
        have q2 := HW6.out.H.blk.cell 7
        simp only [hsC, List.getElem?_toArray, List.getElem?_cons_zero, List.getElem?_cons_succ] at q2
        have kk5 : KH.Blk w8 p5 32 s.cells := by rw [HE.out.2.1, ← HE.out.1]; exact HW6.out.k5
        have q3 : w8.cell? ⟨p5, 0, none⟩ = some (.slice s.A1 s.n1 s.c1) := kk5.cell 0
        have q4 : w8.cell? ⟨p5, 1, none⟩ = some (.slice s.A2 s.n2 s.c2) := kk5.cell 1
        rw [hA1] at q3
        rw [hA2] at q4
        have HA := KH.hid (And.intro hA1 hA2)
        clear hA1 hA2
        have hz8 := HW6.out.b.size
        have hzb8 : base ≤ w8.heap.size := by have := HW6.out.bl; have := HW6.out.k4.lt; omega
        have hK8 : RoundsAt K w8 := rounds_below HX.out.2.2.2.2.1 HW6.out.b g1
        have hT8 : TurnsAt w8 := turns_below HX.out.2.2.2.2.2.1 HW6.out.b g0
        have hbs : bn.size = 12 := by rw [Hbn.out]; exact nonV_size _
        have HKT := KH.hid (And.intro hK8 hT8)
        have hV8 : VlIn w8 (.agg #[.slice A4' n c4', .string rv']) Bl' (rootV K Bl') := by
          rw [HRV'.out, ← HG.out.bl]
          refine ⟨A4', c4', rfl, ?_⟩
          have := HW6.out.v.reads
          rw [← HG.out.bl] at this
          exact this
        have HV8 := KH.hid hV8
        have HQ56 := KH.hid (And.intro q5 q6)
        have k0 : (0 : Int) ≤ (k : Int) := by omega
        have k1 : (k : Int) < (s.n1 : Int) := by omega
        have k2 : (k : Int) < (s.n2 : Int) := by omega
        clear kk5 hK8 hT8 hV8
        have hgl1 : 1 < w8.heap.size := by omega
        have hgl0 : 0 < w8.heap.size := by omega
        by_cases hmay : (0 ≤ pI ∧ pI < (n : Int)) ∧ tx.size ≤ 64
        · obtain ⟨⟨hp0, hp1⟩, ht64⟩ := hmay
          obtain ⟨i, rfl⟩ : ∃ i : Nat, pI = (i : Int) := ⟨pI.toNat, by omega⟩
          have hin : i < n := by omega
          obtain ⟨hd, hhd⟩ : ∃ q, q = hdV key bn i tx := ⟨_, rfl⟩
          obtain ⟨Bl2, hBl2⟩ : ∃ q, q = Bl'.set i hd := ⟨_, rfl⟩
          obtain ⟨rv2, hrv2⟩ : ∃ q, q = rootV K Bl2 := ⟨_, rfl⟩
          have HWr : Hid (∀ W, Below w8.heap.size w8 W → Calls Tryz.prog 13 #[.agg #[.slice A4' n c4', .string rv'], .string key, .string bn, .int .i64 i, .string tx] W fun e w' => ∃ b c, e = .returned (.tuple #[.agg #[.slice (some ⟨b, 0, none⟩) n c, .string rv2], .int .i64 0]) ∧ KH.Reads w' w'.heap.size 1 (some ⟨b, 0, none⟩) n (Bl2.map .string) ∧ W.heap.size ≤ b ∧ Below W.heap.size W w') := fun W hb => by
            refine (vwrite_at K (HV8.out.below hb) (by rw [HG.out.bl]; exact hn) HG.out.sz (by rw [HG.out.bl]; exact hin) hkey hbs ht64 (rounds_below HKT.out.1 hb hgl1) (turns_below HKT.out.2 hb hgl0)).mono ?_
            rintro e w' ⟨v', rfl, r1, r2, b, c, rfl, r3⟩
            rw [← hhd, ← hBl2, ← hrv2] at r1 ⊢
            rw [HG.out.bl] at r1 ⊢
            refine ⟨b, c, rfl, ?_, r3, r2⟩
            obtain ⟨A, c', e1, r4⟩ := r1
            have hl2 : Bl2.length = n := by rw [hBl2, List.length_set]; exact HG.out.bl
            rw [hl2] at e1 r4
            obtain ⟨rfl, -⟩ := vl_eq e1
            exact r4
          have HH := KH.hid (And.intro hhd (And.intro hBl2 hrv2))
          clear hhd hBl2 hrv2
          go_cut [15, 16] from 78 to 97 (fun p e wx => ∃ g15 b c, p = .pointer (some ⟨g15, 0, none⟩) ∧ e = .int .i64 0 ∧ KH.Blk wx g15 48 #[.slice (some ⟨b, 0, none⟩) n c, .string rv2] ∧ KH.Reads wx wx.heap.size 1 (some ⟨b, 0, none⟩) n (Bl2.map .string) ∧ Below w8.heap.size w8 wx ∧ w8.heap.size ≤ b)
          case first =>
            go_region_held3 (fun w' => w'.cell? ⟨lo, 0, none⟩ = some (.slice A4' n c4') ∧ w'.cell? ⟨lo, 1, none⟩ = some (.string rv') ∧ w'.cell? ⟨h, 7, none⟩ = some (.string key) ∧ w'.cell? ⟨p5, 0, none⟩ = some (.slice (some ad1) s.n1 s.c1) ∧ w'.cell? ⟨p5, 1, none⟩ = some (.slice (some ad2) s.n2 s.c2) ∧ w'.cell? (ad1.add k) = some (.int .i64 i) ∧ w'.cell? (ad2.add k) = some (.string tx) ∧ Below w8.heap.size w8 w')
              (first | exact wvR_of q0 q1 q2 q3 q4 q5 q6 (Below.refl w8.heap.size w8).drew | (refine wvR_of q0 q1 q2 q3 q4 q5 q6 ?_; (repeat' first | exact (Below.refl w8.heap.size w8).drew | exact Below.refl w8.heap.size w8 | exact hB9 | (with_reducible refine Below.drew ?_) | (with_reducible refine Below.setCell ?_ ?_ _) | (with_reducible refine Below.alloc ?_ ?_ _) | exact Nat.le_refl _ | (show w8.heap.size ≤ _; omega) | (simp <;> omega)); done))
              (first | (go_at_call 13; refine (HWr.out _ (wvR_b (w0 := w8) (lo := lo) (h := h) (p5 := p5) (a1 := ad1.add k) (a2 := ad2.add k) (x := .slice A4' n c4') (y := .string rv') (z := .string key) (u := .slice (some ad1) s.n1 s.c1) (v := .slice (some ad2) s.n2 s.c2) (c := .int .i64 i) (d := .string tx) (by assumption))).mono ?_; rintro e w9 ⟨b, c, rfl, hR9, hl9, hb9⟩; have hB9 := (wvR_b (w0 := w8) (lo := lo) (h := h) (p5 := p5) (a1 := ad1.add k) (a2 := ad2.add k) (x := .slice A4' n c4') (y := .string rv') (z := .string key) (u := .slice (some ad1) s.n1 s.c1) (v := .slice (some ad2) s.n2 s.c2) (c := .int .i64 i) (d := .string tx) (by assumption)).trans (hb9.mono (wvR_b (w0 := w8) (lo := lo) (h := h) (p5 := p5) (a1 := ad1.add k) (a2 := ad2.add k) (x := .slice A4' n c4') (y := .string rv') (z := .string key) (u := .slice (some ad1) s.n1 s.c1) (v := .slice (some ad2) s.n2 s.c2) (c := .int .i64 i) (d := .string tx) (by assumption)).size); have hs9 := hB9.size; try (have kA := blk_newdrew hb9; have a0 := kA.cell 0; have a1 := kA.cell 1; have b0 := kA.frozen 0; have b1 := kA.frozen 1; simp only [List.getElem?_toArray, List.getElem?_cons_zero, List.getElem?_cons_succ] at a0 a1)))
            all_goals
              go_wp2_with fail
              go_meet
              first
                | (obtain ⟨r1, r2, r3⟩ := wv1 (w8 := w8) (c := c) (r := rv2) hR9 hB9; with_reducible exact ⟨_, b, c, rfl, rfl, r1, r2, r3, by simp at hl9; omega⟩)
                | (obtain ⟨r1, r2, r3⟩ := wv2 (w8 := w8) (c := c) (r := rv2) hR9 hB9 kA (by omega) (by simp at hl9; omega); with_reducible exact ⟨_, b, c, rfl, rfl, r1, r2, r3, by simp at hl9; omega⟩)
          case rest =>
            obtain ⟨g15, b, c, rfl, rfl, k15, hR, hbx, hbl⟩ := hcut
            have y3 := (hbx.cell (p := ⟨p5, 0, none⟩) (World.block_lt_of_cell? _ _ q3)).trans q3
            have y4 := (hbx.cell (p := ⟨p5, 1, none⟩) (World.block_lt_of_cell? _ _ q4)).trans q4
            have y5 := (hbx.cell (World.block_lt_of_cell? _ _ q5)).trans q5
            have y6 := (hbx.cell (World.block_lt_of_cell? _ _ q6)).trans q6
            have HW9 := KH.hid (HW6.out.below hbx)
            have hl2 : Bl2.length = n := by rw [HH.out.2.1, List.length_set]; exact HG.out.bl
            have hgi : Bl2[i]? = some hd := by rw [HH.out.2.1, List.getElem?_set_self (by rw [HG.out.bl]; exact hin)]
            have yb : wc.cell? ⟨b, i, none⟩ = some (.string hd) := by
              obtain ⟨ad, u, e1, _, e2, e3⟩ := hR.at_ hin
              injection e1 with e1
              subst e1
              rw [List.getElem?_map, hgi] at e2
              injection e2 with e2
              subst e2
              rw [addr_at] at e3
              exact e3
            have hx12 : hd.extract 0 12 = bn := by rw [HH.out.1]; exact hdV_head hbs
            have hs12 : 12 ≤ hd.size ∧ hd.size ≤ 200 := by rw [HH.out.1, hdV_size _ _ _ _ hbs]; omega
            obtain ⟨hs12, hs200⟩ := hs12
            have z0 : wc.cell? ⟨g15, 0, none⟩ = some (.slice (some ⟨b, 0, none⟩) n c) := k15.cell 0
            have z1 : wc.cell? ⟨g15, 1, none⟩ = some (.string rv2) := k15.cell 1
            have HK15 := KH.hid (And.intro k15 (And.intro hR hbl))
            have HB9 := KH.hid hbx
            have d64 : decide ((tx.size : Int) ≤ 64) = true := by rw [decide_eq_true_iff]; omega
            have d12 : decide ((hd.size : Int) < 12) = false := by rw [decide_eq_false_iff_not]; omega
            clear hbx k15 hR hbl q0 q1 q2 q3 q4 q5 q6 HWr hgi hl2
            go_wp2
            go_quiet (fail)
            have hdq : Below wc.heap.size wc (wc.drewN nq) := below_drewN (Below.refl wc.heap.size wc) nq
            have HW10 := KH.hid (HW9.out.below hdq)
            have HK16 := KH.hid (And.intro (HK15.out.1.below hdq HK15.out.1.lt) (And.intro ((HK15.out.2.1.below hdq).more hdq.size) HK15.out.2.2))
            obtain ⟨wy, hwy⟩ : ∃ W, W = wc.drewN nq := ⟨_, rfl⟩
            rw [← hwy] at HW10 HK16
            rw [← hwy]
            have HBy : Hid (Below w8.heap.size w8 wy) := KH.hid (by rw [hwy]; exact below_drewN HB9.out nq)
            clear hwy hdq HW9 HK15 HB9 y3 y4 y5 y6 yb z0 z1 d12
            have hrow : RowN wy (HQ h lo hi4 x2.A6) (some ⟨b, 0, none⟩) n Bl2 := RowN.of_reads HK16.out.2.1 fun ad e _ => by
              injection e with e
              subst e
              have r0 := HK16.out.2.2
              exact ⟨by show b ≠ h; have := HW6.out.hl; have := HW6.out.k4.lt; omega, fun ad e q => by have r1 := (HW6.out.H.d.lt ad.block (by rw [e]; rfl)).2; have r2 : ad.block = b := q; omega, .inr (by show hi4 ≤ b; have := HW6.out.hz; omega)⟩
            have HW11 := KH.hid (HW10.out.setV (c4' := c) hrow)
            rw [← HH.out.2.2] at HW11
            have z0 : wy.cell? ⟨g15, 0, none⟩ = some (.slice (some ⟨b, 0, none⟩) n c) := HK16.out.1.cell 0
            have z1 : wy.cell? ⟨g15, 1, none⟩ = some (.string rv2) := HK16.out.1.cell 1
            have z2 := HW10.out.k4.cell 0
            have z3 := HW10.out.k4.cell 1
            have z4 := HW10.out.k4.frozen 0
            have z5 := HW10.out.k4.frozen 1
            simp only [List.getElem?_toArray, List.getElem?_cons_zero, List.getElem?_cons_succ] at z2 z3
            rw [← HRV'.out] at z3
            clear hrow
            go_upto_region 20 with fail
            obtain ⟨w10, hw10⟩ : ∃ W, W = (wy.setCell ⟨lo, 0, none⟩ (.slice (some ⟨b, 0, none⟩) n c)).setCell ⟨lo, 1, none⟩ (.string rv2) := ⟨_, rfl⟩
            rw [← hw10] at HW11
            rw [← hw10]
            clear hw10 z0 z1 z2 z3 z4 z5 HW10 HK16
            have kk5 : KH.Blk w10 p5 32 s.cells := by rw [HE.out.2.1, ← HE.out.1]; exact HW11.out.k5
            have z3 : w10.cell? ⟨p5, 0, none⟩ = some (.slice s.A1 s.n1 s.c1) := kk5.cell 0
            have z4 : w10.cell? ⟨p5, 1, none⟩ = some (.slice s.A2 s.n2 s.c2) := kk5.cell 1
            rw [HA.out.1] at z3
            rw [HA.out.2] at z4
            have z5 := (HW11.out.b.cell (p := ad1.add k) (by rw [KH.block_of_add]; exact had1)).trans ((HW6.out.b.cell (p := ad1.add k) (by rw [KH.block_of_add]; exact had1)).symm.trans HQ56.out.1)
            have z6 := (HW11.out.b.cell (p := ad2.add k) (by rw [KH.block_of_add]; exact had2)).trans ((HW6.out.b.cell (p := ad2.add k) (by rw [KH.block_of_add]; exact had2)).symm.trans HQ56.out.2)
            have z7 := (HW11.out.t.cellAt i (by omega)).trans (str_at (show i < T'.length by rw [HG.out.tl]; exact hin))
            have z8 := HW11.out.t.frozenAt i
            have HW12 := KH.hid (HW11.out.setT i tx)
            clear kk5 HW11
            generalize T'.getD i ⟨#[]⟩ = old at *
            go_big_region
            all_goals
              go_wp2
              go_roundw
              case rel =>
                obtain ⟨rN, j2, rfl, rA, rB, rC⟩ := HF.out
                have hd9 := HG.out.d.snoc
                rw [← Hbn.out, ← rN] at hd9
                have hg9 : WrG key n Bl2 (T'.set i tx) S' N1 j2 (dr' ++ [bn]) := by
                  rw [HH.out.2.1, HH.out.1]
                  exact wrG_put HG.out rA rB hd9 hbs ht64
                exact ⟨k + 1, by omega, by omega, by go_num, KH.hid ⟨_, _, _, _, _, _, _, _, _, HW12.out.below (Below.refl _ _).drew, hg9, by omega⟩⟩
              case measure => simp [intOf]; omega
        · have HWr : Hid (∀ W, Below w8.heap.size w8 W → Calls Tryz.prog 13 #[.agg #[.slice A4' n c4', .string rv'], .string key, .string bn, .int .i64 pI, .string tx] W fun e w' => ∃ kk : Int, kk ≠ 0 ∧ e = .returned (.tuple #[.agg #[.slice none 0 0, .string ⟨#[]⟩], .int .i64 kk]) ∧ Below W.heap.size W w') := fun W hb =>
            vwrite_no K (HV8.out.below hb) (by rw [HG.out.bl]; exact hn) HG.out.sz (by rw [HG.out.bl]; omega) (rounds_below HKT.out.1 hb hgl1)
          go_cut [15, 16] from 78 to 97 (fun p e wx => ∃ g15, ∃ kk : Int, p = .pointer (some ⟨g15, 0, none⟩) ∧ e = .int .i64 kk ∧ kk ≠ 0 ∧ Below w8.heap.size w8 wx)
          case first =>
            go_region_held3 (fun w' => w'.cell? ⟨lo, 0, none⟩ = some (.slice A4' n c4') ∧ w'.cell? ⟨lo, 1, none⟩ = some (.string rv') ∧ w'.cell? ⟨h, 7, none⟩ = some (.string key) ∧ w'.cell? ⟨p5, 0, none⟩ = some (.slice (some ad1) s.n1 s.c1) ∧ w'.cell? ⟨p5, 1, none⟩ = some (.slice (some ad2) s.n2 s.c2) ∧ w'.cell? (ad1.add k) = some (.int .i64 pI) ∧ w'.cell? (ad2.add k) = some (.string tx) ∧ Below w8.heap.size w8 w')
              (first | exact wvR_of q0 q1 q2 q3 q4 q5 q6 (Below.refl w8.heap.size w8).drew | (refine wvR_of q0 q1 q2 q3 q4 q5 q6 ?_; (repeat' first | exact (Below.refl w8.heap.size w8).drew | exact Below.refl w8.heap.size w8 | exact hB9 | (with_reducible refine Below.drew ?_) | (with_reducible refine Below.setCell ?_ ?_ _) | (with_reducible refine Below.alloc ?_ ?_ _) | exact Nat.le_refl _ | (show w8.heap.size ≤ _; omega) | (simp <;> omega)); done))
              (first | (go_at_call 13; refine (HWr.out _ (wvR_b (w0 := w8) (lo := lo) (h := h) (p5 := p5) (a1 := ad1.add k) (a2 := ad2.add k) (x := .slice A4' n c4') (y := .string rv') (z := .string key) (u := .slice (some ad1) s.n1 s.c1) (v := .slice (some ad2) s.n2 s.c2) (c := .int .i64 pI) (d := .string tx) (by assumption))).mono ?_; rintro e w9 ⟨kk, hkk, rfl, hb9⟩; have hB9 := (wvR_b (w0 := w8) (lo := lo) (h := h) (p5 := p5) (a1 := ad1.add k) (a2 := ad2.add k) (x := .slice A4' n c4') (y := .string rv') (z := .string key) (u := .slice (some ad1) s.n1 s.c1) (v := .slice (some ad2) s.n2 s.c2) (c := .int .i64 pI) (d := .string tx) (by assumption)).trans (hb9.mono (wvR_b (w0 := w8) (lo := lo) (h := h) (p5 := p5) (a1 := ad1.add k) (a2 := ad2.add k) (x := .slice A4' n c4') (y := .string rv') (z := .string key) (u := .slice (some ad1) s.n1 s.c1) (v := .slice (some ad2) s.n2 s.c2) (c := .int .i64 pI) (d := .string tx) (by assumption)).size); have hs9 := hB9.size; try (have kA := blk_newdrew hb9; have a0 := kA.cell 0; have a1 := kA.cell 1; have b0 := kA.frozen 0; have b1 := kA.frozen 1; simp only [List.getElem?_toArray, List.getElem?_cons_zero, List.getElem?_cons_succ] at a0 a1)))
            all_goals
              go_wp2_with fail
              go_meet
              first
                | (with_reducible exact ⟨_, kk, rfl, rfl, hkk, hB9.alloc hB9.size _⟩)
                | (with_reducible exact ⟨_, kk, rfl, rfl, hkk, (wv3 hB9 kA (by omega)).2⟩)
          case rest =>
            obtain ⟨g15, kk, rfl, rfl, hkk, hbx⟩ := hcut
            have y3 := (hbx.cell (p := ⟨p5, 0, none⟩) (World.block_lt_of_cell? _ _ q3)).trans q3
            have y4 := (hbx.cell (p := ⟨p5, 1, none⟩) (World.block_lt_of_cell? _ _ q4)).trans q4
            have y5 := (hbx.cell (World.block_lt_of_cell? _ _ q5)).trans q5
            have y6 := (hbx.cell (World.block_lt_of_cell? _ _ q6)).trans q6
            have HW9 := KH.hid (HW6.out.below hbx)
            have hk0 : (kk == 0) = false := by rw [beq_eq_false_iff_ne]; exact hkk
            have HKK := KH.hid hkk
            clear hkk
            clear hbx q0 q1 q2 q3 q4 q5 q6 HWr
            rcases (show pI < 0 ∨ (0 ≤ pI ∧ (n : Int) ≤ pI) ∨ (0 ≤ pI ∧ pI < (n : Int) ∧ 64 < tx.size) by omega) with m1 | ⟨m1, m2⟩ | ⟨m1, m2, m3⟩
            all_goals
              clear hmay
              go_wp2
              go_roundw
              case rel =>
                obtain ⟨rN, j2, rfl, rA, rB, rC⟩ := HF.out
                have hd9 := HG.out.d.snoc
                rw [← Hbn.out, ← rN] at hd9
                exact ⟨k + 1, by omega, by omega, by go_num, KH.hid ⟨_, _, _, _, _, _, _, _, _, HW9.out, ⟨rA, rB, hd9, HG.out.bl, HG.out.tl, HG.out.sz, HG.out.ok⟩, by omega⟩⟩
              case measure => simp [intOf]; omega
    · have e60 : wr.cell? ⟨p6, 0, none⟩ = some (.slice none 0 0) := kk6.cell 0
      have e61 : wr.cell? ⟨p6, 1, none⟩ = some (.string ⟨#[]⟩) := kk6.cell 1
      have e62 := kk6.frozen 0
      have e63 := kk6.frozen 1
      have he : ∃ b1 b2, decide (k < s.n1) = b1 ∧ decide (k < s.n2) = b2 ∧ (b1 && b2) = false := ⟨_, _, rfl, rfl, by rw [Bool.and_eq_false_iff, decide_eq_false_iff_not, decide_eq_false_iff_not]; omega⟩
      obtain ⟨b1, b2, d1, d2, d3⟩ := he
      clear hlt
      cases b1
      all_goals (try cases b2)
      all_goals (try (exact absurd d3 (by decide)))
      all_goals
        clear d3
        go_wp2_with fail
        refine ret_wr (p := 6) (u2 := 7) (u3 := 8) (b := .slice (some ⟨g9, 0, none⟩) n c9) (c := .bool true) kk6 rfl ?_ ?_ ?_ rfl ?_
        · rfl
        · rfl
        · rfl
        · rw [HRV'.out]
          have hp6 : p6 = lo + 2 := by rw [HE.out.2.2, ← HE.out.1]
          rw [hp6]
          obtain ⟨q1, q2, q3, q4, q5⟩ := wr_end HW.out (.slice A4' n c4') (.string (rootV K Bl'))
          exact ⟨_, _, _, _, _, _, _, _, _, _, _, rfl, q1, q2, q3, HG.out, by omega, q4, fun b hb => q5 b (by rw [HE.out.1]; exact hb)⟩
end Go.Proofs.YtlnilfcjcoclhaaGreatDoor
