import Derived.Test.YtlnilfcjcoclhaaGreatDoorNoE
/- Package nonce: Next. -/
namespace Go.Proofs.YtlnilfcjcoclhaaGreatDoor
open Go.RowKit

/-- what Next's last region keeps -/
abbrev NxS (h h2 h3 h4 : Nat) (x y a b c : Value) (w' : World) : Prop :=
  w'.cell? ⟨h, 0, none⟩ = some x ∧ w'.cell? ⟨h, 1, none⟩ = some y ∧ w'.cell? ⟨h4, 0, none⟩ = some a ∧ w'.cell? ⟨h4, 1, none⟩ = some b ∧ w'.cell? ⟨h4, 2, none⟩ = some c ∧
    w'.cell? ⟨h2, 0, none⟩ = some (valAt w' h2 0) ∧ w'.cell? ⟨h2, 1, none⟩ = some (valAt w' h2 1) ∧ w'.cell? ⟨h2, 2, none⟩ = some (valAt w' h2 2) ∧
    w'.cell? ⟨h3, 0, none⟩ = some (valAt w' h3 0) ∧ w'.cell? ⟨h3, 1, none⟩ = some (valAt w' h3 1) ∧
    (KH.Blk w' h 35 #[x, y] ∧ KH.Blk w' h4 68 #[a, b, c] ∧ (∃ p q r, KH.Blk w' h2 37 #[p, q, r]) ∧ ∃ p q, KH.Blk w' h3 35 #[p, q])
theorem valAt_of {w : World} {g i : Nat} {v : Value} (h : w.cell? ⟨g, i, none⟩ = some v) : w.cell? ⟨g, i, none⟩ = some (valAt w g i) := by
  unfold valAt; rw [h]; rfl
theorem nxS_of {h h2 h3 h4 : Nat} {x y a b c : Value} {w' : World} (k1 : KH.Blk w' h 35 #[x, y]) (k2 : KH.Blk w' h4 68 #[a, b, c]) (k3 : ∃ p q r, KH.Blk w' h2 37 #[p, q, r]) (k4 : ∃ p q, KH.Blk w' h3 35 #[p, q]) : NxS h h2 h3 h4 x y a b c w' := by
  have k3' := k3
  have k4' := k4
  obtain ⟨p, q, r, k3⟩ := k3
  obtain ⟨p2, q2, k4⟩ := k4
  exact ⟨k1.cell 0, k1.cell 1, k2.cell 0, k2.cell 1, k2.cell 2, valAt_of (k3.cell 0), valAt_of (k3.cell 1), valAt_of (k3.cell 2), valAt_of (k4.cell 0), valAt_of (k4.cell 1), k1, k2, k3', k4'⟩
theorem NxS_drew {h h2 h3 h4 : Nat} {x y a b c : Value} {w' : World} (hs : NxS h h2 h3 h4 x y a b c w') : NxS h h2 h3 h4 x y a b c w'.drew := hs
theorem nxS_src {h h2 h3 h4 : Nat} {x y a b c u0 u1 u2 : Value} {w' : World} (hs : NxS h h2 h3 h4 x y a b c w') (hn : h ≠ h2 ∧ h4 ≠ h2 ∧ h3 ≠ h2) : NxS h h2 h3 h4 x y a b c (((w'.setCell ⟨h2, 0, none⟩ u0).setCell ⟨h2, 1, none⟩ u1).setCell ⟨h2, 2, none⟩ u2) := by
  obtain ⟨n1, n2, n3⟩ := hn
  obtain ⟨_, _, _, _, _, _, _, _, _, _, k1, k2, ⟨p, q, r, k3⟩, ⟨p2, q2, k4⟩⟩ := hs
  exact nxS_of (((k1.far (p := ⟨h2, 0, none⟩) n1 u0).far (p := ⟨h2, 1, none⟩) n1 u1).far (p := ⟨h2, 2, none⟩) n1 u2) (((k2.far (p := ⟨h2, 0, none⟩) n2 u0).far (p := ⟨h2, 1, none⟩) n2 u1).far (p := ⟨h2, 2, none⟩) n2 u2)
    ⟨u0, u1, u2, ((k3.set_ 0 u0).set_ 1 u1).set_ 2 u2⟩ ⟨p2, q2, ((k4.far (p := ⟨h2, 0, none⟩) n3 u0).far (p := ⟨h2, 1, none⟩) n3 u1).far (p := ⟨h2, 2, none⟩) n3 u2⟩
theorem nxS_pl {h h2 h3 h4 : Nat} {x y a b c u0 u1 : Value} {w' : World} (hs : NxS h h2 h3 h4 x y a b c w') (hn : h ≠ h3 ∧ h4 ≠ h3 ∧ h2 ≠ h3) : NxS h h2 h3 h4 x y a b c ((w'.setCell ⟨h3, 0, none⟩ u0).setCell ⟨h3, 1, none⟩ u1) := by
  obtain ⟨n1, n2, n3⟩ := hn
  obtain ⟨_, _, _, _, _, _, _, _, _, _, k1, k2, ⟨p, q, r, k3⟩, ⟨p2, q2, k4⟩⟩ := hs
  exact nxS_of ((k1.far (p := ⟨h3, 0, none⟩) n1 u0).far (p := ⟨h3, 1, none⟩) n1 u1) ((k2.far (p := ⟨h3, 0, none⟩) n2 u0).far (p := ⟨h3, 1, none⟩) n2 u1)
    ⟨p, q, r, (k3.far (p := ⟨h3, 0, none⟩) n3 u0).far (p := ⟨h3, 1, none⟩) n3 u1⟩ ⟨u0, u1, (k4.set_ 0 u0).set_ 1 u1⟩
theorem below_drewN {B : Nat} {w w' : World} (h : Below B w w') (q : Nat) : Below B w (w'.drewN q) := by
  induction q with
  | zero => exact h
  | succ q ih => exact ih.drew
theorem alloc5 (w : World) (A1 : Option Addr) (n c1 : Nat) (A2 : Option Addr) (c2 : Nat) (N L : Nat) (W : World) (hW : W = (((((w.alloc (.cells #[.slice A1 n c1, .slice A2 0 c2] 35)).alloc (.cells #[.int .i64 0, .int .i64 N, .int .i64 L] 37)).alloc (.cells #[.int .i64 0, .int .i64 0, .int .i64 0] 37)).alloc (.cells #[.slice none 0 0, .slice none 0 0] 35)).alloc (.cells #[.int .i64 0, .int .i64 N, .int .i64 L] 68))) :
    KH.Blk W w.heap.size 35 #[.slice A1 n c1, .slice A2 0 c2] ∧ KH.Blk W (w.heap.size + 1 + 1) 37 #[.int .i64 0, .int .i64 0, .int .i64 0] ∧ KH.Blk W (w.heap.size + 1 + 1 + 1) 35 #[.slice none 0 0, .slice none 0 0] ∧ KH.Blk W (w.heap.size + 1 + 1 + 1 + 1) 68 #[.int .i64 0, .int .i64 N, .int .i64 L] ∧ Below w.heap.size w W ∧ W.heap.size = w.heap.size + 5 := by
  subst hW
  exact ⟨((((KH.Blk.new w _ _).alloc _).alloc _).alloc _).alloc _, ((blk2 w _ _ _ _).alloc _).alloc _, (blk3 w _ _ _ _ _).alloc _, blk4 w _ _ _ _ _ _, ((((((Below.refl w.heap.size w).alloc (Nat.le_refl _) _).alloc (by simp) _).alloc (by simp; omega) _).alloc (by simp; omega) _).alloc (by simp; omega) _), by simp⟩

theorem ret_next {a : Act} {w w0 : World} {h2 h3 lo hi : Nat} {s : ByteArray} {p0 p1 p2 q0 q1 u0 u1 u2 x y : Value} {S : List ByteArray} {C : List (Int × ByteArray)}
    (ht : a.tmps.getD 6 undef = .string s ∧ a.tmps.getD 7 undef = .pointer (some ⟨h2, 0, none⟩) ∧ a.tmps.getD 8 undef = .pointer (some ⟨h3, 0, none⟩) ∧ a.tmps.getD 9 undef = .int .i64 0) (hd : a.defers = [])
    (z2 : KH.Blk w h2 37 #[p0, p1, p2]) (z3 : KH.Blk w h3 35 #[q0, q1]) (hn : h2 ≠ h3) (hP : PlB w lo hi (.agg #[x, y]) S C) (l2 : h2 < lo) (l3 : h3 < lo) (hhi : hi ≤ w.heap.size) (hlo : w0.heap.size ≤ lo) (hB : Below w0.heap.size w0 w) (b2 : w0.heap.size ≤ h2) (b3 : w0.heap.size ≤ h3) :
    bodyPost Tryz.prog Tryz.f35 (fun e w' => ∃ v', e = .returned (.tuple #[.string s, .agg #[u0, u1, u2], v', .int .i64 0]) ∧ PlIn w' w0.heap.size v' S C ∧ Below w0.heap.size w0 w') .ret a
      (((((w.setCell ⟨h2, 0, none⟩ u0).setCell ⟨h2, 1, none⟩ u1).setCell ⟨h2, 2, none⟩ u2).setCell ⟨h3, 0, none⟩ x).setCell ⟨h3, 1, none⟩ y).drew := by
  have k2 := ((((z2.set_ 0 u0).set_ 1 u1).set_ 2 u2).far (p := ⟨h3, 0, none⟩) hn x).far (p := ⟨h3, 1, none⟩) hn y
  have k3 := ((((z3.far (p := ⟨h2, 0, none⟩) hn.symm u0).far (p := ⟨h2, 1, none⟩) hn.symm u1).far (p := ⟨h2, 2, none⟩) hn.symm u2).set_ 0 x).set_ 1 y
  have hP' := ((((hP.off (p := ⟨h2, 0, none⟩) (.inl l2) u0).off (p := ⟨h2, 1, none⟩) (.inl l2) u1).off (p := ⟨h2, 2, none⟩) (.inl l2) u2).off (p := ⟨h3, 0, none⟩) (.inl l3) x).off (p := ⟨h3, 1, none⟩) (.inl l3) y
  have hB' := ((((hB.setCell (p := ⟨h2, 0, none⟩) b2 u0).setCell (p := ⟨h2, 1, none⟩) b2 u1).setCell (p := ⟨h2, 2, none⟩) b2 u2).setCell (p := ⟨h3, 0, none⟩) b3 x).setCell (p := ⟨h3, 1, none⟩) b3 y
  have hz : (((((w.setCell ⟨h2, 0, none⟩ u0).setCell ⟨h2, 1, none⟩ u1).setCell ⟨h2, 2, none⟩ u2).setCell ⟨h3, 0, none⟩ x).setCell ⟨h3, 1, none⟩ y).heap.size = w.heap.size := by simp
  generalize (((((w.setCell ⟨h2, 0, none⟩ u0).setCell ⟨h2, 1, none⟩ u1).setCell ⟨h2, 2, none⟩ u2).setCell ⟨h3, 0, none⟩ x).setCell ⟨h3, 1, none⟩ y) = W at *
  have c0 : W.cell? ⟨h2, 0, none⟩ = some u0 := by simpa using k2.cell 0
  have c1 : W.cell? ⟨h2, 1, none⟩ = some u1 := by simpa using k2.cell 1
  have c2 : W.cell? ⟨h2, 2, none⟩ = some u2 := by simpa using k2.cell 2
  have c3 : W.cell? ⟨h3, 0, none⟩ = some x := by simpa using k3.cell 0
  have c4 : W.cell? ⟨h3, 1, none⟩ = some y := by simpa using k3.cell 1
  obtain ⟨t6, t7, t8, t9⟩ := ht
  rw [Array.getD_eq_getD_getElem?] at t6 t7 t8 t9
  refine bodyPost_ret (v := .tuple #[.string s, .agg #[u0, u1, u2], .agg #[x, y], .int .i64 0]) (by simp [results, Tryz.results35, t6, t7, t8, t9, go_sem, c0, c1, c2, c3, c4]) hd ⟨_, rfl, ?_, hB'.drew⟩
  have := hP'.inn hlo (by omega)
  exact this
set_option maxHeartbeats 1000000 in
set_option maxRecDepth 100000 in
theorem next_have {v : Value} {S : List ByteArray} {w : World} {lo N L : Nat} (most : Int) (h : PlIn w lo v S []) (hp : pOk S []) (hN : N < L) (hL : L ≤ 1000000000) :
    Calls Tryz.prog 35 #[v, .agg #[.int .i64 0, .int .i64 N, .int .i64 L], .int .i64 most] w fun e w' => ∃ v', e = .returned (.tuple #[.string (nonV N), .agg #[.int .i64 0, .int .i64 (N + 1 : Nat), .int .i64 L], v', .int .i64 0]) ∧ PlIn w' w.heap.size v' S [] ∧ Below w.heap.size w w' := by
  have h0 := h
  obtain ⟨A1, c1, A2, c2, rfl, -, -, -, -⟩ := h
  obtain ⟨b0, b2, b3, b4, hB, hz⟩ := alloc5 w A1 S.length c1 A2 c2 N L _ rfl
  have h1 := h0.below hB
  have HH := KH.hid (And.intro h1 hp)
  have dN : decide ((N : Int) < (L : Int)) = true := by rw [decide_eq_true_iff]; omega
  have dN' : decide (N < L) = true := by rw [decide_eq_true_iff]; omega
  clear h0 h1 hp
  go_enter Tryz.func35, Tryz.ntmps35
  go_wp2_with fail
  generalize (((((w.alloc (.cells #[.slice A1 S.length c1, .slice A2 0 c2] 35)).alloc (.cells #[.int .i64 0, .int .i64 N, .int .i64 L] 37)).alloc (.cells #[.int .i64 0, .int .i64 0, .int .i64 0] 37)).alloc (.cells #[.slice none 0 0, .slice none 0 0] 35)).alloc (.cells #[.int .i64 0, .int .i64 N, .int .i64 L] 68)) = w1 at *
  have hnn : w.heap.size + 1 + 1 + 1 + 1 < w1.heap.size ∧ w.heap.size + 1 + 1 + 1 < w.heap.size + 1 + 1 + 1 + 1 ∧ w.heap.size + 1 + 1 < w.heap.size + 1 + 1 + 1 ∧ w.heap.size < w.heap.size + 1 + 1 := by omega
  generalize w.heap.size + 1 + 1 + 1 + 1 = h4 at *
  generalize w.heap.size + 1 + 1 + 1 = h3 at *
  generalize w.heap.size + 1 + 1 = h2 at *
  obtain ⟨hn4, hn3, hn2, hn1⟩ := hnn
  refine (nright_any b4 (by omega) hL).mono ?_; rintro e w2 ⟨rfl, q2, rfl⟩
  have g0 := b0.drewN q2
  have g2 := b2.drewN q2
  have g3 := b3.drewN q2
  have g4 := b4.drewN q2
  have hP := HH.out.1.below (below_drewN (Below.refl w1.heap.size w1) q2)
  have hB2 := below_drewN hB q2
  have HHp := KH.hid HH.out.2
  have hz2 : h4 < (w1.drewN q2).heap.size := hn4
  clear b0 b2 b3 b4 hB hz HH
  generalize w1.drewN q2 = w2 at *
  have f0 : w2.cell? ⟨w.heap.size, 0, none⟩ = some (.slice A1 S.length c1) := g0.cell 0
  have f1 : w2.cell? ⟨w.heap.size, 1, none⟩ = some (.slice A2 0 c2) := g0.cell 1
  have f2 : w2.cell? ⟨h4, 1, none⟩ = some (.int .i64 N) := g4.cell 1
  have f3 : w2.cell? ⟨h4, 2, none⟩ = some (.int .i64 L) := g4.cell 2
  go_wp2_with fail
  refine (ncopied_any hP HHp.out).mono ?_; rintro e w3 ⟨v', rfl, hP3, hb3⟩
  have hs3 := hb3.size
  have j0 := g0.below hb3 g0.lt
  have j2 := g2.below hb3 g2.lt
  have j3 := g3.below hb3 g3.lt
  have j4 := g4.below hb3 g4.lt
  have hB3 := hB2.trans (hb3.mono (by omega))
  have hP4 := hP3
  obtain ⟨B1, b1, B2, b2, rfl, -, -, -, -⟩ := hP3
  simp only [List.length_nil] at hP4
  have x0 := (j0.set_ 0 (.slice B1 S.length b1)).set_ 1 (.slice B2 0 b2)
  have x2 := (j2.far (p := ⟨w.heap.size, 0, none⟩) (by show h2 ≠ w.heap.size; omega) (.slice B1 S.length b1)).far (p := ⟨w.heap.size, 1, none⟩) (by show h2 ≠ w.heap.size; omega) (.slice B2 0 b2)
  have x3 := (j3.far (p := ⟨w.heap.size, 0, none⟩) (by show h3 ≠ w.heap.size; omega) (.slice B1 S.length b1)).far (p := ⟨w.heap.size, 1, none⟩) (by show h3 ≠ w.heap.size; omega) (.slice B2 0 b2)
  have x4 := (j4.far (p := ⟨w.heap.size, 0, none⟩) (by show h4 ≠ w.heap.size; omega) (.slice B1 S.length b1)).far (p := ⟨w.heap.size, 1, none⟩) (by show h4 ≠ w.heap.size; omega) (.slice B2 0 b2)
  have hP5 := (hP4.plB.off (p := ⟨w.heap.size, 0, none⟩) (.inl (by show w.heap.size < w2.heap.size; omega)) (.slice B1 S.length b1)).off (p := ⟨w.heap.size, 1, none⟩) (.inl (by show w.heap.size < w2.heap.size; omega)) (.slice B2 0 b2)
  have hB5 := (hB3.setCell (p := ⟨w.heap.size, 0, none⟩) (Nat.le_refl _) (.slice B1 S.length b1)).setCell (p := ⟨w.heap.size, 1, none⟩) (Nat.le_refl _) (.slice B2 0 b2)
  have hz5 : ((w3.setCell ⟨w.heap.size, 0, none⟩ (.slice B1 S.length b1)).setCell ⟨w.heap.size, 1, none⟩ (.slice B2 0 b2)).heap.size = w3.heap.size := by simp
  have f4 : w3.cell? ⟨w.heap.size, 0, none⟩ = some (.slice A1 S.length c1) := j0.cell 0
  have f5 : w3.cell? ⟨w.heap.size, 1, none⟩ = some (.slice A2 0 c2) := j0.cell 1
  have f6 : w3.frozen? ⟨w.heap.size, 0, none⟩ = false := j0.frozen 0
  have f7 : w3.frozen? ⟨w.heap.size, 1, none⟩ = false := j0.frozen 1
  have f8 : ((w3.setCell ⟨w.heap.size, 0, none⟩ (.slice B1 S.length b1)).setCell ⟨w.heap.size, 1, none⟩ (.slice B2 0 b2)).cell? ⟨h4, 1, none⟩ = some (.int .i64 N) := by simpa using x4.cell 1
  clear g0 g2 g3 g4 hP hB2 hb3 hP4 hB3 f0 f1 f2 f3
  go_wp2_with fail
  generalize ((w3.setCell ⟨w.heap.size, 0, none⟩ (.slice B1 S.length b1)).setCell ⟨w.heap.size, 1, none⟩ (.slice B2 0 b2)) = w5 at *
  refine (bytes_yes N (by omega) _).mono ?_; rintro e w6 ⟨rfl, hb6⟩
  have hs6 := hb6.size
  have y0 := x0.below hb6 x0.lt
  have y2 := x2.below hb6 x2.lt
  have y3 := x3.below hb6 x3.lt
  have y4 := x4.below hb6 x4.lt
  have f9 : w6.cell? ⟨h4, 1, none⟩ = some (.int .i64 N) := y4.cell 1
  have fa : w6.frozen? ⟨h4, 1, none⟩ = false := y4.frozen 1
  have hP6 := (hP5.below (hb6.mono (by omega))).off (p := ⟨h4, 1, none⟩) (.inl (by show h4 < _; omega)) (.int .i64 ((N : Int) + 1))
  have hB6 := (hB5.trans (hb6.mono (by omega))).setCell (p := ⟨h4, 1, none⟩) (by show w.heap.size ≤ h4; omega) (.int .i64 ((N : Int) + 1))
  have z4 := y4.set_ 1 (.int .i64 ((N : Int) + 1))
  have z0 := y0.far (p := ⟨h4, 1, none⟩) (by show w.heap.size ≠ h4; omega) (.int .i64 ((N : Int) + 1))
  have z2 := y2.far (p := ⟨h4, 1, none⟩) (by show h2 ≠ h4; omega) (.int .i64 ((N : Int) + 1))
  have z3 := y3.far (p := ⟨h4, 1, none⟩) (by show h3 ≠ h4; omega) (.int .i64 ((N : Int) + 1))
  have hz6 : (w6.setCell ⟨h4, 1, none⟩ (.int .i64 ((N : Int) + 1))).heap.size = w6.heap.size := by simp
  clear x0 x2 x3 x4 y0 y2 y3 y4 hb6 hP5 hB5 f4 f5 f6 f7 f8 j0 j2 j3 j4
  go_wp2_with fail
  generalize w6.setCell ⟨h4, 1, none⟩ (.int .i64 ((N : Int) + 1)) = w7 at *
  have t0 : w7.cell? ⟨w.heap.size, 0, none⟩ = some (.slice B1 S.length b1) := z0.cell 0
  have t1 : w7.cell? ⟨w.heap.size, 1, none⟩ = some (.slice B2 0 b2) := z0.cell 1
  have t2 : w7.cell? ⟨h4, 0, none⟩ = some (.int .i64 0) := z4.cell 0
  have t3 : w7.cell? ⟨h4, 1, none⟩ = some (.int .i64 ((N : Int) + 1)) := z4.cell 1
  have t4 : w7.cell? ⟨h4, 2, none⟩ = some (.int .i64 (L : Int)) := z4.cell 2
  have t5 : w7.cell? ⟨h2, 0, none⟩ = some (.int .i64 0) := z2.cell 0
  have t6 : w7.cell? ⟨h2, 1, none⟩ = some (.int .i64 0) := z2.cell 1
  have t7 : w7.cell? ⟨h2, 2, none⟩ = some (.int .i64 0) := z2.cell 2
  have t8 : w7.cell? ⟨h3, 0, none⟩ = some (.slice none 0 0) := z3.cell 0
  have t9 : w7.cell? ⟨h3, 1, none⟩ = some (.slice none 0 0) := z3.cell 1
  have u5 : w7.frozen? ⟨h2, 0, none⟩ = false := z2.frozen 0
  have u6 : w7.frozen? ⟨h2, 1, none⟩ = false := z2.frozen 1
  have u7 : w7.frozen? ⟨h2, 2, none⟩ = false := z2.frozen 2
  have u8 : w7.frozen? ⟨h3, 0, none⟩ = false := z3.frozen 0
  have u9 : w7.frozen? ⟨h3, 1, none⟩ = false := z3.frozen 1
  have hS := nxS_of (w' := w7) (h := w.heap.size) (h2 := h2) (h3 := h3) (h4 := h4) (x := .slice B1 S.length b1) (y := .slice B2 0 b2) (a := .int .i64 0) (b := .int .i64 ((N : Int) + 1)) (c := .int .i64 (L : Int)) z0 z4 ⟨_, _, _, z2⟩ ⟨_, _, z3⟩
  have HZ := KH.hid (And.intro hS (And.intro hP6 (And.intro hB6 (And.intro z2 z3))))
  have HS : Hid (NxS w.heap.size h2 h3 h4 (.slice B1 S.length b1) (.slice B2 0 b2) (.int .i64 0) (.int .i64 ((N : Int) + 1)) (.int .i64 (L : Int)) w7.drew ∧
      (∀ u0 u1 u2, NxS w.heap.size h2 h3 h4 (.slice B1 S.length b1) (.slice B2 0 b2) (.int .i64 0) (.int .i64 ((N : Int) + 1)) (.int .i64 (L : Int)) (((w7.setCell ⟨h2, 0, none⟩ u0).setCell ⟨h2, 1, none⟩ u1).setCell ⟨h2, 2, none⟩ u2).drew) ∧
      (∀ u0 u1 u2 u3 u4, NxS w.heap.size h2 h3 h4 (.slice B1 S.length b1) (.slice B2 0 b2) (.int .i64 0) (.int .i64 ((N : Int) + 1)) (.int .i64 (L : Int)) (((((w7.setCell ⟨h2, 0, none⟩ u0).setCell ⟨h2, 1, none⟩ u1).setCell ⟨h2, 2, none⟩ u2).setCell ⟨h3, 0, none⟩ u3).setCell ⟨h3, 1, none⟩ u4).drew)) :=
    KH.hid ⟨NxS_drew hS, fun _ _ _ => NxS_drew (nxS_src hS (by omega)), fun _ _ _ _ _ => NxS_drew (nxS_pl (nxS_src hS (by omega)) (by omega))⟩
  clear z0 z2 z3 z4 hP6 hB6 hS
  go_region_held3 (fun w' => w'.cell? ⟨w.heap.size, 0, none⟩ = some (.slice B1 S.length b1) ∧ w'.cell? ⟨w.heap.size, 1, none⟩ = some (.slice B2 0 b2) ∧ w'.cell? ⟨h4, 0, none⟩ = some (.int .i64 0) ∧ w'.cell? ⟨h4, 1, none⟩ = some (.int .i64 ((N : Int) + 1)) ∧ w'.cell? ⟨h4, 2, none⟩ = some (.int .i64 (L : Int)) ∧ w'.cell? ⟨h2, 0, none⟩ = some (valAt w' (h2) 0) ∧ w'.cell? ⟨h2, 1, none⟩ = some (valAt w' (h2) 1) ∧ w'.cell? ⟨h2, 2, none⟩ = some (valAt w' (h2) 2) ∧ w'.cell? ⟨h3, 0, none⟩ = some (valAt w' (h3) 0) ∧ w'.cell? ⟨h3, 1, none⟩ = some (valAt w' (h3) 1) ∧ (KH.Blk w' w.heap.size 35 #[.slice B1 S.length b1, .slice B2 0 b2] ∧ KH.Blk w' (h4) 68 #[.int .i64 0, .int .i64 ((N : Int) + 1), .int .i64 (L : Int)] ∧ (∃ p q r, KH.Blk w' (h2) 37 #[p, q, r]) ∧ ∃ p q, KH.Blk w' (h3) 35 #[p, q])) (first | with_reducible exact HS.out.1 | with_reducible exact HS.out.2.1 _ _ _ | with_reducible exact HS.out.2.2 _ _ _ _ _) (fail)
  go_wp2
  exact ret_next ⟨rfl, rfl, rfl, rfl⟩ rfl HZ.out.2.2.2.1 HZ.out.2.2.2.2 (by omega) HZ.out.2.1 (by omega) (by omega) (by omega) (by omega) HZ.out.2.2.1 (by omega) (by omega)

/-- what the region that puts keeps -/
abbrev MoS (w2 : World) (h h4 : Nat) (x y a b c : Value) (w' : World) : Prop :=
  w'.cell? ⟨h, 0, none⟩ = some x ∧ w'.cell? ⟨h, 1, none⟩ = some y ∧ w'.cell? ⟨h4, 0, none⟩ = some a ∧ (KH.Blk w' h 35 #[x, y] ∧ KH.Blk w' h4 68 #[a, b, c] ∧ Below w2.heap.size w2 w')
theorem moS_of {w2 : World} {h h4 : Nat} {x y a b c : Value} {w' : World} (k1 : KH.Blk w2 h 35 #[x, y]) (k2 : KH.Blk w2 h4 68 #[a, b, c]) (hb : Below w2.heap.size w2 w') : MoS w2 h h4 x y a b c w' := by
  have j1 := k1.below hb k1.lt
  have j2 := k2.below hb k2.lt
  exact ⟨j1.cell 0, j1.cell 1, j2.cell 0, j1, j2, hb⟩
theorem moS_blk {w2 : World} {h h4 : Nat} {x y a b c : Value} {w' : World} (hs : MoS w2 h h4 x y a b c w') : KH.Blk w' h4 68 #[a, b, c] := hs.2.2.2.2.1
theorem moS_b {w2 : World} {h h4 : Nat} {x y a b c : Value} {w' : World} (hs : MoS w2 h h4 x y a b c w') : Below w2.heap.size w2 w' := hs.2.2.2.2.2
theorem moS_alloc {w2 : World} {h h4 : Nat} {x y a b c : Value} {w' : World} (hs : MoS w2 h h4 x y a b c w') (k1 : KH.Blk w2 h 35 #[x, y]) (k2 : KH.Blk w2 h4 68 #[a, b, c]) (o : Obj) : MoS w2 h h4 x y a b c (w'.alloc o) :=
  moS_of k1 k2 ((moS_b hs).alloc (moS_b hs).size o)
theorem moS_alloc_drew {w2 : World} {h h4 : Nat} {x y a b c : Value} {w' : World} (hs : MoS w2 h h4 x y a b c w'.drew) (k1 : KH.Blk w2 h 35 #[x, y]) (k2 : KH.Blk w2 h4 68 #[a, b, c]) (o : Obj) : MoS w2 h h4 x y a b c (w'.alloc o).drew :=
  moS_of k1 k2 (Below.drew ((show Below w2.heap.size w2 w' from ⟨(moS_b hs).os, (moS_b hs).tape, (moS_b hs).output, (moS_b hs).size, (moS_b hs).block⟩).alloc (moS_b hs).size o))
theorem moS_call {w2 : World} {h h4 : Nat} {x y a b c : Value} {w' w'' : World} (hs : MoS w2 h h4 x y a b c w') (k1 : KH.Blk w2 h 35 #[x, y]) (k2 : KH.Blk w2 h4 68 #[a, b, c]) (hb : Below w'.heap.size w' w'') : MoS w2 h h4 x y a b c w'' :=
  moS_of k1 k2 ((moS_b hs).trans (hb.mono (moS_b hs).size))

theorem PlB.lower {w : World} {lo lo' hi : Nat} {v : Value} {S : List ByteArray} {C : List (Int × ByteArray)} (h : PlB w lo hi v S C) (hl : lo' ≤ lo) : PlB w lo' hi v S C := by
  obtain ⟨A1, c1, A2, c2, rfl, l1, l2, h1, h2⟩ := h
  exact ⟨A1, c1, A2, c2, rfl, fun a ha => Nat.le_trans hl (l1 a ha), fun a ha => Nat.le_trans hl (l2 a ha), h1, h2⟩
theorem moS_set {w2 : World} {h h4 g : Nat} {x y a b c u u' : Value} {w' : World} (hs : MoS w2 h h4 x y a b c w') (k1 : KH.Blk w2 h 35 #[x, y]) (k2 : KH.Blk w2 h4 68 #[a, b, c]) (hg : w2.heap.size ≤ g) : MoS w2 h h4 x y a b c ((w'.setCell ⟨g, 0, none⟩ u).setCell ⟨g, 1, none⟩ u') :=
  moS_of k1 k2 (((moS_b hs).setCell (p := ⟨g, 0, none⟩) hg u).setCell (p := ⟨g, 1, none⟩) hg u')
theorem blk_newdrew {w2 w3 : World} {t : TypeId} {cs : Array Value} (hb : Below (w2.alloc (.cells cs t)).drew.heap.size (w2.alloc (.cells cs t)).drew w3) : KH.Blk w3 w2.heap.size t cs :=
  KH.Blk.below (w := (w2.alloc (.cells cs t)).drew) (KH.Blk.new w2 t cs) hb (KH.Blk.new w2 t cs).lt
theorem blk_newcall {w2 w3 : World} {t : TypeId} {cs : Array Value} (hb : Below (w2.alloc (.cells cs t)).heap.size (w2.alloc (.cells cs t)) w3) : KH.Blk w3 w2.heap.size t cs :=
  KH.Blk.below (KH.Blk.new w2 t cs) hb (KH.Blk.new w2 t cs).lt
set_option maxHeartbeats 1000000 in
set_option maxRecDepth 100000 in
theorem next_more {v : Value} {S : List ByteArray} {w : World} {lo L : Nat} (R : ByteArray → List ByteArray) (h : PlIn w lo v S []) (hL : L ≤ 999999900) (hsz : (itoV (L + 16)).size ≤ 128) (hPw : PowAt w) (hgw : 2 < w.heap.size)
    (hput : ∀ (v' : Value) (w' : World) (lo' : Nat) (s : ByteArray), PlIn w' lo' v' S [] → s.size ≤ 128 → Calls Tryz.prog 21 #[v', .int .i64 0, .string s, .int .i64 (-1)] w' fun e w'' => ∃ v2, e = .returned (.tuple #[v2, .bool true, .int .i64 0]) ∧ PlIn w'' w'.heap.size v2 (R s) [] ∧ Below w'.heap.size w' w'') :
    Calls Tryz.prog 35 #[v, .agg #[.int .i64 0, .int .i64 L, .int .i64 L], .int .i64 (-1)] w fun e w' => ∃ v', e = .returned (.tuple #[.string (nonV L), .agg #[.int .i64 0, .int .i64 (L + 1 : Nat), .int .i64 (L + 16 : Nat)], v', .int .i64 0]) ∧ PlIn w' w.heap.size v' (R (itoV (L + 16))) [] ∧ Below w.heap.size w w' := by
  have h0 := h
  obtain ⟨A1, c1, A2, c2, rfl, -, -, -, -⟩ := h
  obtain ⟨b0, b2, b3, b4, hB, hz⟩ := alloc5 w A1 S.length c1 A2 c2 L L _ rfl
  have h1 := h0.below hB
  have HH := KH.hid (And.intro h1 (And.intro hput (And.intro hsz (hPw.below hB hgw))))
  have dN : decide ((L : Int) < (L : Int)) = false := by rw [decide_eq_false_iff_not]; omega
  have dL : decide ((1000000000 : Int) < (L : Int) + 16) = false := by rw [decide_eq_false_iff_not]; omega
  clear h0 h1 hput hsz hPw
  go_enter Tryz.func35, Tryz.ntmps35
  go_wp2_with fail
  generalize (((((w.alloc (.cells #[.slice A1 S.length c1, .slice A2 0 c2] 35)).alloc (.cells #[.int .i64 0, .int .i64 L, .int .i64 L] 37)).alloc (.cells #[.int .i64 0, .int .i64 0, .int .i64 0] 37)).alloc (.cells #[.slice none 0 0, .slice none 0 0] 35)).alloc (.cells #[.int .i64 0, .int .i64 L, .int .i64 L] 68)) = w1 at *
  have hnn : w.heap.size + 1 + 1 + 1 + 1 < w1.heap.size ∧ w.heap.size + 1 + 1 + 1 < w.heap.size + 1 + 1 + 1 + 1 ∧ w.heap.size + 1 + 1 < w.heap.size + 1 + 1 + 1 ∧ w.heap.size < w.heap.size + 1 + 1 := by omega
  generalize w.heap.size + 1 + 1 + 1 + 1 = h4 at *
  generalize w.heap.size + 1 + 1 + 1 = h3 at *
  generalize w.heap.size + 1 + 1 = h2 at *
  obtain ⟨hn4, hn3, hn2, hn1⟩ := hnn
  refine (nright_any b4 (Nat.le_refl _) (by omega)).mono ?_; rintro e w2 ⟨rfl, q2, rfl⟩
  have g0 := b0.drewN q2
  have g2 := b2.drewN q2
  have g3 := b3.drewN q2
  have g4 := b4.drewN q2
  have hP := HH.out.1.below (below_drewN (Below.refl w1.heap.size w1) q2)
  have hB2 := below_drewN hB q2
  have hPw2 := HH.out.2.2.2.below (below_drewN (Below.refl w1.heap.size w1) q2) (by omega)
  have HHp := KH.hid (And.intro HH.out.2.1 HH.out.2.2.1)
  have hz2 : h4 < (w1.drewN q2).heap.size := hn4
  have hgw2 : 2 < (w1.drewN q2).heap.size := by show _ < w1.heap.size; omega
  clear b0 b2 b3 b4 hB hz HH
  generalize w1.drewN q2 = w2 at *
  have f0 : w2.cell? ⟨w.heap.size, 0, none⟩ = some (.slice A1 S.length c1) := g0.cell 0
  have f1 : w2.cell? ⟨w.heap.size, 1, none⟩ = some (.slice A2 0 c2) := g0.cell 1
  have f2 : w2.cell? ⟨h4, 1, none⟩ = some (.int .i64 L) := g4.cell 1
  have f3 : w2.cell? ⟨h4, 2, none⟩ = some (.int .i64 L) := g4.cell 2
  have f4 : w2.cell? ⟨h4, 0, none⟩ = some (.int .i64 0) := g4.cell 0
  have HG := KH.hid (And.intro g0 (And.intro g4 (And.intro hP hPw2)))
  have HM := KH.hid (moS_of g0 g4 (Below.refl w2.heap.size w2).drew)
  clear hP hPw2 g0 g4
  go_wp2_with fail
  go_region_held3 (fun w' => w'.cell? ⟨w.heap.size, 0, none⟩ = some (.slice A1 S.length c1) ∧ w'.cell? ⟨w.heap.size, 1, none⟩ = some (.slice A2 0 c2) ∧ w'.cell? ⟨h4, 0, none⟩ = some (.int .i64 0) ∧ (KH.Blk w' w.heap.size 35 #[.slice A1 S.length c1, .slice A2 0 c2] ∧ KH.Blk w' h4 68 #[.int .i64 0, .int .i64 L, .int .i64 L] ∧ Below w2.heap.size w2 w'))
    (first | (with_reducible exact HM.out) | (with_reducible refine moS_call ?_ HG.out.1 HG.out.2.1 hb4 <;> assumption) | (with_reducible refine moS_call ?_ HG.out.1 HG.out.2.1 hb3 <;> assumption) | (with_reducible refine moS_alloc_drew ?_ HG.out.1 HG.out.2.1 _ <;> assumption) | (with_reducible refine moS_alloc ?_ HG.out.1 HG.out.2.1 _ <;> assumption) | (with_reducible exact moS_of HG.out.1 HG.out.2.1 (hB4.alloc hB4.size _)) | (with_reducible refine moS_set ?_ HG.out.1 HG.out.2.1 ?_ <;> first | assumption | exact Nat.le_refl _))
    (first
      | (go_at_call 60; refine (ntext_any (moS_blk (w2 := w2) (h := w.heap.size) (x := .slice A1 S.length c1) (y := .slice A2 0 c2) (by assumption)) (by omega) (HG.out.2.2.2.below (moS_b (w2 := w2) (h := w.heap.size) (h4 := h4) (x := .slice A1 S.length c1) (y := .slice A2 0 c2) (a := .int .i64 0) (b := .int .i64 L) (c := .int .i64 L) (by assumption)) hgw2)).mono ?_; rintro e w3 ⟨rfl, hb3⟩; have hs3 : w2.heap.size ≤ w3.heap.size := (moS_b (w2 := w2) (h := w.heap.size) (h4 := h4) (x := .slice A1 S.length c1) (y := .slice A2 0 c2) (a := .int .i64 0) (b := .int .i64 L) (c := .int .i64 L) (moS_call (by assumption) HG.out.1 HG.out.2.1 hb3)).size; try (have kC := blk_newdrew hb3))
      | (go_at_call 21; refine (HHp.out.1 _ _ _ (itoV (L + 16)) (HG.out.2.2.1.below (moS_b (w2 := w2) (h := w.heap.size) (h4 := h4) (x := .slice A1 S.length c1) (y := .slice A2 0 c2) (a := .int .i64 0) (b := .int .i64 L) (c := .int .i64 L) (by assumption))) HHp.out.2).mono ?_; rintro e w4 ⟨v', rfl, hP4, hb4⟩; have hB4 : Below w2.heap.size w2 w4 := moS_b (h := w.heap.size) (h4 := h4) (x := .slice A1 S.length c1) (y := .slice A2 0 c2) (a := .int .i64 0) (b := .int .i64 L) (c := .int .i64 L) (moS_call (by assumption) HG.out.1 HG.out.2.1 hb4); have hP5 := hP4; obtain ⟨B1, b1, B2, b2, rfl, -, -, -, -⟩ := hP4; first | (have kB := blk_newcall hb4; have e1 : w4.cell? ⟨w3.heap.size, 0, none⟩ = some (.slice none 0 0) := kB.cell 0; have e2 : w4.cell? ⟨w3.heap.size, 1, none⟩ = some (.slice none 0 0) := kB.cell 1; have e3 : w4.frozen? ⟨w3.heap.size, 0, none⟩ = false := kB.frozen 0; have e4 : w4.frozen? ⟨w3.heap.size, 1, none⟩ = false := kB.frozen 1) | (have kB := KH.Blk.below kC hb4 kC.lt; have e1 : w4.cell? ⟨w2.heap.size, 0, none⟩ = some (.slice none 0 0) := kB.cell 0; have e2 : w4.cell? ⟨w2.heap.size, 1, none⟩ = some (.slice none 0 0) := kB.cell 1; have e3 : w4.frozen? ⟨w2.heap.size, 0, none⟩ = false := kB.frozen 0; have e4 : w4.frozen? ⟨w2.heap.size, 1, none⟩ = false := kB.frozen 1) | skip))
  · have hs4' := hB4.size
    obtain ⟨W, hW⟩ : ∃ W, W = w4.alloc (.cells #[.slice B1 (R (itoV (L + 16))).length b1, .slice B2 0 b2] 35) := ⟨_, rfl⟩
    obtain ⟨gT, hgT⟩ : ∃ g, g = w4.heap.size := ⟨_, rfl⟩
    have hBW : Below w2.heap.size w2 W := by rw [hW]; exact hB4.alloc hB4.size _
    have kT : KH.Blk W gT 35 #[.slice B1 (R (itoV (L + 16))).length b1, .slice B2 0 b2] := by rw [hW, hgT]; exact KH.Blk.new _ _ _
    have hPB : PlB W w3.heap.size w4.heap.size (.agg #[.slice B1 (R (itoV (L + 16))).length b1, .slice B2 0 b2]) (R (itoV (L + 16))) [] := by rw [hW]; exact (PlIn.plB hP5).below ((Below.refl _ _).alloc (Nat.le_refl _) _)
    have hz5 : w4.heap.size ≤ W.heap.size := by rw [hW]; simp
    rw [← hW, ← hgT]
    have hs4 := hB4.size
    have hB5 := hB2.trans (hBW.mono (show w.heap.size ≤ w2.heap.size by omega))
    have j0 := HG.out.1.below hBW HG.out.1.lt
    have j2 := g2.below hBW g2.lt
    have j3 := g3.below hBW g3.lt
    have j4 := HG.out.2.1.below hBW HG.out.2.1.lt
    clear hW hgT hP5 hb3 hb4 hB4 g2 g3 hBW
    have v0 : W.cell? ⟨gT, 0, none⟩ = some (.slice B1 (R (itoV (L + 16))).length b1) := kT.cell 0
    have v1 : W.cell? ⟨gT, 1, none⟩ = some (.slice B2 0 b2) := kT.cell 1
    have v2 : W.cell? ⟨w.heap.size, 0, none⟩ = some (.slice A1 S.length c1) := j0.cell 0
    have v3 : W.cell? ⟨w.heap.size, 1, none⟩ = some (.slice A2 0 c2) := j0.cell 1
    have v4 : W.frozen? ⟨w.heap.size, 0, none⟩ = false := j0.frozen 0
    have v5 : W.frozen? ⟨w.heap.size, 1, none⟩ = false := j0.frozen 1
    have v6 : W.cell? ⟨h4, 2, none⟩ = some (.int .i64 L) := j4.cell 2
    have v7 : W.frozen? ⟨h4, 2, none⟩ = false := j4.frozen 2
    have v8 : W.cell? ⟨h4, 1, none⟩ = some (.int .i64 L) := j4.cell 1
    have n40 : h4 ≠ w.heap.size := by omega
    have n04 : w.heap.size ≠ h4 := by omega
    have x0 := ((j0.set_ 0 (.slice B1 (R (itoV (L + 16))).length b1)).set_ 1 (.slice B2 0 b2)).far (p := ⟨h4, 2, none⟩) n04 (.int .i64 ((L : Int) + 16))
    have x2 := ((j2.far (p := ⟨w.heap.size, 0, none⟩) (by show h2 ≠ w.heap.size; omega) (.slice B1 (R (itoV (L + 16))).length b1)).far (p := ⟨w.heap.size, 1, none⟩) (by show h2 ≠ w.heap.size; omega) (.slice B2 0 b2)).far (p := ⟨h4, 2, none⟩) (by show h2 ≠ h4; omega) (.int .i64 ((L : Int) + 16))
    have x3 := ((j3.far (p := ⟨w.heap.size, 0, none⟩) (by show h3 ≠ w.heap.size; omega) (.slice B1 (R (itoV (L + 16))).length b1)).far (p := ⟨w.heap.size, 1, none⟩) (by show h3 ≠ w.heap.size; omega) (.slice B2 0 b2)).far (p := ⟨h4, 2, none⟩) (by show h3 ≠ h4; omega) (.int .i64 ((L : Int) + 16))
    have x4 := ((j4.far (p := ⟨w.heap.size, 0, none⟩) n40 (.slice B1 (R (itoV (L + 16))).length b1)).far (p := ⟨w.heap.size, 1, none⟩) n40 (.slice B2 0 b2)).set_ 2 (.int .i64 ((L : Int) + 16))
    have hP5 := ((hPB.off (p := ⟨w.heap.size, 0, none⟩) (.inl (by show w.heap.size < w3.heap.size; omega)) (.slice B1 (R (itoV (L + 16))).length b1)).off (p := ⟨w.heap.size, 1, none⟩) (.inl (by show w.heap.size < w3.heap.size; omega)) (.slice B2 0 b2)).off (p := ⟨h4, 2, none⟩) (.inl (by show h4 < w3.heap.size; omega)) (.int .i64 ((L : Int) + 16))
    have hB6 := ((hB5.setCell (p := ⟨w.heap.size, 0, none⟩) (Nat.le_refl _) (.slice B1 (R (itoV (L + 16))).length b1)).setCell (p := ⟨w.heap.size, 1, none⟩) (Nat.le_refl _) (.slice B2 0 b2)).setCell (p := ⟨h4, 2, none⟩) (show w.heap.size ≤ h4 by omega) (.int .i64 ((L : Int) + 16))
    have hzW : (((W.setCell ⟨w.heap.size, 0, none⟩ (.slice B1 (R (itoV (L + 16))).length b1)).setCell ⟨w.heap.size, 1, none⟩ (.slice B2 0 b2)).setCell ⟨h4, 2, none⟩ (.int .i64 ((L : Int) + 16))).heap.size = W.heap.size := by simp
    clear kT hPB j0 j2 j3 j4 hB5
    have hB5 := hB6
    have hzz : w4.heap.size ≤ (((W.setCell ⟨w.heap.size, 0, none⟩ (.slice B1 (R (itoV (L + 16))).length b1)).setCell ⟨w.heap.size, 1, none⟩ (.slice B2 0 b2)).setCell ⟨h4, 2, none⟩ (.int .i64 ((L : Int) + 16))).heap.size := by omega
    have hlw : w2.heap.size ≤ w3.heap.size := hs3
    clear hB6 hzW
    go_wp2_with fail
    generalize (((W.setCell ⟨w.heap.size, 0, none⟩ (.slice B1 (R (itoV (L + 16))).length b1)).setCell ⟨w.heap.size, 1, none⟩ (.slice B2 0 b2)).setCell ⟨h4, 2, none⟩ (.int .i64 ((L : Int) + 16))) = w5 at *
    refine (bytes_yes L (by omega) _).mono ?_; rintro e w6 ⟨rfl, hb6⟩
    have hs6 := hb6.size
    have y0 := x0.below hb6 x0.lt
    have y2 := x2.below hb6 x2.lt
    have y3 := x3.below hb6 x3.lt
    have y4 := x4.below hb6 x4.lt
    have f9 : w6.cell? ⟨h4, 1, none⟩ = some (.int .i64 L) := y4.cell 1
    have fa : w6.frozen? ⟨h4, 1, none⟩ = false := y4.frozen 1
    have hP6 := (hP5.below (hb6.mono (by omega))).off (p := ⟨h4, 1, none⟩) (.inl (by show h4 < _; omega)) (.int .i64 ((L : Int) + 1))
    have hB6 := (hB5.trans (hb6.mono (by omega))).setCell (p := ⟨h4, 1, none⟩) (by show w.heap.size ≤ h4; omega) (.int .i64 ((L : Int) + 1))
    have z4 := y4.set_ 1 (.int .i64 ((L : Int) + 1))
    have z0 := y0.far (p := ⟨h4, 1, none⟩) (by show w.heap.size ≠ h4; omega) (.int .i64 ((L : Int) + 1))
    have z2 := y2.far (p := ⟨h4, 1, none⟩) (by show h2 ≠ h4; omega) (.int .i64 ((L : Int) + 1))
    have z3 := y3.far (p := ⟨h4, 1, none⟩) (by show h3 ≠ h4; omega) (.int .i64 ((L : Int) + 1))
    have hz6 : (w6.setCell ⟨h4, 1, none⟩ (.int .i64 ((L : Int) + 1))).heap.size = w6.heap.size := by simp
    clear x0 x2 x3 x4 y0 y2 y3 y4 hb6 hP5 hB5 v0 v1 v2 v3 v4 v5 v6 v7 v8
    go_wp2_with fail
    generalize w6.setCell ⟨h4, 1, none⟩ (.int .i64 ((L : Int) + 1)) = w7 at *
    have t0 : w7.cell? ⟨w.heap.size, 0, none⟩ = some (.slice B1 (R (itoV (L + 16))).length b1) := z0.cell 0
    have t1 : w7.cell? ⟨w.heap.size, 1, none⟩ = some (.slice B2 0 b2) := z0.cell 1
    have t2 : w7.cell? ⟨h4, 0, none⟩ = some (.int .i64 0) := z4.cell 0
    have t3 : w7.cell? ⟨h4, 1, none⟩ = some (.int .i64 ((L : Int) + 1)) := z4.cell 1
    have t4 : w7.cell? ⟨h4, 2, none⟩ = some (.int .i64 ((L : Int) + 16)) := z4.cell 2
    have t5 : w7.cell? ⟨h2, 0, none⟩ = some (.int .i64 0) := z2.cell 0
    have t6 : w7.cell? ⟨h2, 1, none⟩ = some (.int .i64 0) := z2.cell 1
    have t7 : w7.cell? ⟨h2, 2, none⟩ = some (.int .i64 0) := z2.cell 2
    have t8 : w7.cell? ⟨h3, 0, none⟩ = some (.slice none 0 0) := z3.cell 0
    have t9 : w7.cell? ⟨h3, 1, none⟩ = some (.slice none 0 0) := z3.cell 1
    have u5 : w7.frozen? ⟨h2, 0, none⟩ = false := z2.frozen 0
    have u6 : w7.frozen? ⟨h2, 1, none⟩ = false := z2.frozen 1
    have u7 : w7.frozen? ⟨h2, 2, none⟩ = false := z2.frozen 2
    have u8 : w7.frozen? ⟨h3, 0, none⟩ = false := z3.frozen 0
    have u9 : w7.frozen? ⟨h3, 1, none⟩ = false := z3.frozen 1
    have hS := nxS_of (w' := w7) (h := w.heap.size) (h2 := h2) (h3 := h3) (h4 := h4) (x := .slice B1 (R (itoV (L + 16))).length b1) (y := .slice B2 0 b2) (a := .int .i64 0) (b := .int .i64 ((L : Int) + 1)) (c := .int .i64 ((L : Int) + 16)) z0 z4 ⟨_, _, _, z2⟩ ⟨_, _, z3⟩
    have HZ := KH.hid (And.intro hS (And.intro hP6 (And.intro hB6 (And.intro z2 z3))))
    have HS : Hid (NxS w.heap.size h2 h3 h4 (.slice B1 (R (itoV (L + 16))).length b1) (.slice B2 0 b2) (.int .i64 0) (.int .i64 ((L : Int) + 1)) (.int .i64 ((L : Int) + 16)) w7.drew ∧
        (∀ u0 u1 u2, NxS w.heap.size h2 h3 h4 (.slice B1 (R (itoV (L + 16))).length b1) (.slice B2 0 b2) (.int .i64 0) (.int .i64 ((L : Int) + 1)) (.int .i64 ((L : Int) + 16)) (((w7.setCell ⟨h2, 0, none⟩ u0).setCell ⟨h2, 1, none⟩ u1).setCell ⟨h2, 2, none⟩ u2).drew) ∧
        (∀ u0 u1 u2 u3 u4, NxS w.heap.size h2 h3 h4 (.slice B1 (R (itoV (L + 16))).length b1) (.slice B2 0 b2) (.int .i64 0) (.int .i64 ((L : Int) + 1)) (.int .i64 ((L : Int) + 16)) (((((w7.setCell ⟨h2, 0, none⟩ u0).setCell ⟨h2, 1, none⟩ u1).setCell ⟨h2, 2, none⟩ u2).setCell ⟨h3, 0, none⟩ u3).setCell ⟨h3, 1, none⟩ u4).drew)) :=
      KH.hid ⟨NxS_drew hS, fun _ _ _ => NxS_drew (nxS_src hS (by omega)), fun _ _ _ _ _ => NxS_drew (nxS_pl (nxS_src hS (by omega)) (by omega))⟩
    clear z0 z2 z3 z4 hP6 hB6 hS
    go_region_held3 (fun w' => w'.cell? ⟨w.heap.size, 0, none⟩ = some (.slice B1 (R (itoV (L + 16))).length b1) ∧ w'.cell? ⟨w.heap.size, 1, none⟩ = some (.slice B2 0 b2) ∧ w'.cell? ⟨h4, 0, none⟩ = some (.int .i64 0) ∧ w'.cell? ⟨h4, 1, none⟩ = some (.int .i64 ((L : Int) + 1)) ∧ w'.cell? ⟨h4, 2, none⟩ = some (.int .i64 ((L : Int) + 16)) ∧ w'.cell? ⟨h2, 0, none⟩ = some (valAt w' (h2) 0) ∧ w'.cell? ⟨h2, 1, none⟩ = some (valAt w' (h2) 1) ∧ w'.cell? ⟨h2, 2, none⟩ = some (valAt w' (h2) 2) ∧ w'.cell? ⟨h3, 0, none⟩ = some (valAt w' (h3) 0) ∧ w'.cell? ⟨h3, 1, none⟩ = some (valAt w' (h3) 1) ∧ (KH.Blk w' w.heap.size 35 #[.slice B1 (R (itoV (L + 16))).length b1, .slice B2 0 b2] ∧ KH.Blk w' (h4) 68 #[.int .i64 0, .int .i64 ((L : Int) + 1), .int .i64 ((L : Int) + 16)] ∧ (∃ p q r, KH.Blk w' (h2) 37 #[p, q, r]) ∧ ∃ p q, KH.Blk w' (h3) 35 #[p, q])) (first | with_reducible exact HS.out.1 | with_reducible exact HS.out.2.1 _ _ _ | with_reducible exact HS.out.2.2 _ _ _ _ _) (fail)
    go_wp2
    exact ret_next ⟨rfl, rfl, rfl, rfl⟩ rfl HZ.out.2.2.2.1 HZ.out.2.2.2.2 (by omega) HZ.out.2.1 (by omega) (by omega) (by omega) (by omega) HZ.out.2.2.1 (by omega) (by omega)
  · have hs4' := hB4.size
    obtain ⟨W, hW⟩ : ∃ W, W = (w4.setCell ⟨w3.heap.size, 0, none⟩ (.slice B1 (R (itoV (L + 16))).length b1)).setCell ⟨w3.heap.size, 1, none⟩ (.slice B2 0 b2) := ⟨_, rfl⟩
    obtain ⟨gT, hgT⟩ : ∃ g, g = w3.heap.size := ⟨_, rfl⟩
    have hBW : Below w2.heap.size w2 W := by rw [hW]; exact (hB4.setCell (p := ⟨w3.heap.size, 0, none⟩) (by show w2.heap.size ≤ w3.heap.size; omega) _).setCell (p := ⟨w3.heap.size, 1, none⟩) (by show w2.heap.size ≤ w3.heap.size; omega) _
    have kT : KH.Blk W gT 35 #[.slice B1 (R (itoV (L + 16))).length b1, .slice B2 0 b2] := by rw [hW, hgT]; exact (kB.set_ 0 _).set_ 1 _
    have hPB : PlB W w3.heap.size w4.heap.size (.agg #[.slice B1 (R (itoV (L + 16))).length b1, .slice B2 0 b2]) (R (itoV (L + 16))) [] := by rw [hW]; exact ((((PlIn.plB hP5).off (p := ⟨w3.heap.size, 0, none⟩) (.inl (by show w3.heap.size < _; simp)) _).off (p := ⟨w3.heap.size, 1, none⟩) (.inl (by show w3.heap.size < _; simp)) _)).lower (by simp)
    have hz5 : w4.heap.size ≤ W.heap.size := by rw [hW]; simp
    rw [← hW, ← hgT]
    have hs4 := hB4.size
    have hB5 := hB2.trans (hBW.mono (show w.heap.size ≤ w2.heap.size by omega))
    have j0 := HG.out.1.below hBW HG.out.1.lt
    have j2 := g2.below hBW g2.lt
    have j3 := g3.below hBW g3.lt
    have j4 := HG.out.2.1.below hBW HG.out.2.1.lt
    clear hW hgT e1 e2 e3 e4 kB hP5 hb3 hb4 hB4 g2 g3 hBW
    have v0 : W.cell? ⟨gT, 0, none⟩ = some (.slice B1 (R (itoV (L + 16))).length b1) := kT.cell 0
    have v1 : W.cell? ⟨gT, 1, none⟩ = some (.slice B2 0 b2) := kT.cell 1
    have v2 : W.cell? ⟨w.heap.size, 0, none⟩ = some (.slice A1 S.length c1) := j0.cell 0
    have v3 : W.cell? ⟨w.heap.size, 1, none⟩ = some (.slice A2 0 c2) := j0.cell 1
    have v4 : W.frozen? ⟨w.heap.size, 0, none⟩ = false := j0.frozen 0
    have v5 : W.frozen? ⟨w.heap.size, 1, none⟩ = false := j0.frozen 1
    have v6 : W.cell? ⟨h4, 2, none⟩ = some (.int .i64 L) := j4.cell 2
    have v7 : W.frozen? ⟨h4, 2, none⟩ = false := j4.frozen 2
    have v8 : W.cell? ⟨h4, 1, none⟩ = some (.int .i64 L) := j4.cell 1
    have n40 : h4 ≠ w.heap.size := by omega
    have n04 : w.heap.size ≠ h4 := by omega
    have x0 := ((j0.set_ 0 (.slice B1 (R (itoV (L + 16))).length b1)).set_ 1 (.slice B2 0 b2)).far (p := ⟨h4, 2, none⟩) n04 (.int .i64 ((L : Int) + 16))
    have x2 := ((j2.far (p := ⟨w.heap.size, 0, none⟩) (by show h2 ≠ w.heap.size; omega) (.slice B1 (R (itoV (L + 16))).length b1)).far (p := ⟨w.heap.size, 1, none⟩) (by show h2 ≠ w.heap.size; omega) (.slice B2 0 b2)).far (p := ⟨h4, 2, none⟩) (by show h2 ≠ h4; omega) (.int .i64 ((L : Int) + 16))
    have x3 := ((j3.far (p := ⟨w.heap.size, 0, none⟩) (by show h3 ≠ w.heap.size; omega) (.slice B1 (R (itoV (L + 16))).length b1)).far (p := ⟨w.heap.size, 1, none⟩) (by show h3 ≠ w.heap.size; omega) (.slice B2 0 b2)).far (p := ⟨h4, 2, none⟩) (by show h3 ≠ h4; omega) (.int .i64 ((L : Int) + 16))
    have x4 := ((j4.far (p := ⟨w.heap.size, 0, none⟩) n40 (.slice B1 (R (itoV (L + 16))).length b1)).far (p := ⟨w.heap.size, 1, none⟩) n40 (.slice B2 0 b2)).set_ 2 (.int .i64 ((L : Int) + 16))
    have hP5 := ((hPB.off (p := ⟨w.heap.size, 0, none⟩) (.inl (by show w.heap.size < w3.heap.size; omega)) (.slice B1 (R (itoV (L + 16))).length b1)).off (p := ⟨w.heap.size, 1, none⟩) (.inl (by show w.heap.size < w3.heap.size; omega)) (.slice B2 0 b2)).off (p := ⟨h4, 2, none⟩) (.inl (by show h4 < w3.heap.size; omega)) (.int .i64 ((L : Int) + 16))
    have hB6 := ((hB5.setCell (p := ⟨w.heap.size, 0, none⟩) (Nat.le_refl _) (.slice B1 (R (itoV (L + 16))).length b1)).setCell (p := ⟨w.heap.size, 1, none⟩) (Nat.le_refl _) (.slice B2 0 b2)).setCell (p := ⟨h4, 2, none⟩) (show w.heap.size ≤ h4 by omega) (.int .i64 ((L : Int) + 16))
    have hzW : (((W.setCell ⟨w.heap.size, 0, none⟩ (.slice B1 (R (itoV (L + 16))).length b1)).setCell ⟨w.heap.size, 1, none⟩ (.slice B2 0 b2)).setCell ⟨h4, 2, none⟩ (.int .i64 ((L : Int) + 16))).heap.size = W.heap.size := by simp
    clear kT hPB j0 j2 j3 j4 hB5
    have hB5 := hB6
    have hzz : w4.heap.size ≤ (((W.setCell ⟨w.heap.size, 0, none⟩ (.slice B1 (R (itoV (L + 16))).length b1)).setCell ⟨w.heap.size, 1, none⟩ (.slice B2 0 b2)).setCell ⟨h4, 2, none⟩ (.int .i64 ((L : Int) + 16))).heap.size := by omega
    have hlw : w2.heap.size ≤ w3.heap.size := hs3
    clear hB6 hzW
    go_wp2_with fail
    generalize (((W.setCell ⟨w.heap.size, 0, none⟩ (.slice B1 (R (itoV (L + 16))).length b1)).setCell ⟨w.heap.size, 1, none⟩ (.slice B2 0 b2)).setCell ⟨h4, 2, none⟩ (.int .i64 ((L : Int) + 16))) = w5 at *
    refine (bytes_yes L (by omega) _).mono ?_; rintro e w6 ⟨rfl, hb6⟩
    have hs6 := hb6.size
    have y0 := x0.below hb6 x0.lt
    have y2 := x2.below hb6 x2.lt
    have y3 := x3.below hb6 x3.lt
    have y4 := x4.below hb6 x4.lt
    have f9 : w6.cell? ⟨h4, 1, none⟩ = some (.int .i64 L) := y4.cell 1
    have fa : w6.frozen? ⟨h4, 1, none⟩ = false := y4.frozen 1
    have hP6 := (hP5.below (hb6.mono (by omega))).off (p := ⟨h4, 1, none⟩) (.inl (by show h4 < _; omega)) (.int .i64 ((L : Int) + 1))
    have hB6 := (hB5.trans (hb6.mono (by omega))).setCell (p := ⟨h4, 1, none⟩) (by show w.heap.size ≤ h4; omega) (.int .i64 ((L : Int) + 1))
    have z4 := y4.set_ 1 (.int .i64 ((L : Int) + 1))
    have z0 := y0.far (p := ⟨h4, 1, none⟩) (by show w.heap.size ≠ h4; omega) (.int .i64 ((L : Int) + 1))
    have z2 := y2.far (p := ⟨h4, 1, none⟩) (by show h2 ≠ h4; omega) (.int .i64 ((L : Int) + 1))
    have z3 := y3.far (p := ⟨h4, 1, none⟩) (by show h3 ≠ h4; omega) (.int .i64 ((L : Int) + 1))
    have hz6 : (w6.setCell ⟨h4, 1, none⟩ (.int .i64 ((L : Int) + 1))).heap.size = w6.heap.size := by simp
    clear x0 x2 x3 x4 y0 y2 y3 y4 hb6 hP5 hB5 v0 v1 v2 v3 v4 v5 v6 v7 v8
    go_wp2_with fail
    generalize w6.setCell ⟨h4, 1, none⟩ (.int .i64 ((L : Int) + 1)) = w7 at *
    have t0 : w7.cell? ⟨w.heap.size, 0, none⟩ = some (.slice B1 (R (itoV (L + 16))).length b1) := z0.cell 0
    have t1 : w7.cell? ⟨w.heap.size, 1, none⟩ = some (.slice B2 0 b2) := z0.cell 1
    have t2 : w7.cell? ⟨h4, 0, none⟩ = some (.int .i64 0) := z4.cell 0
    have t3 : w7.cell? ⟨h4, 1, none⟩ = some (.int .i64 ((L : Int) + 1)) := z4.cell 1
    have t4 : w7.cell? ⟨h4, 2, none⟩ = some (.int .i64 ((L : Int) + 16)) := z4.cell 2
    have t5 : w7.cell? ⟨h2, 0, none⟩ = some (.int .i64 0) := z2.cell 0
    have t6 : w7.cell? ⟨h2, 1, none⟩ = some (.int .i64 0) := z2.cell 1
    have t7 : w7.cell? ⟨h2, 2, none⟩ = some (.int .i64 0) := z2.cell 2
    have t8 : w7.cell? ⟨h3, 0, none⟩ = some (.slice none 0 0) := z3.cell 0
    have t9 : w7.cell? ⟨h3, 1, none⟩ = some (.slice none 0 0) := z3.cell 1
    have u5 : w7.frozen? ⟨h2, 0, none⟩ = false := z2.frozen 0
    have u6 : w7.frozen? ⟨h2, 1, none⟩ = false := z2.frozen 1
    have u7 : w7.frozen? ⟨h2, 2, none⟩ = false := z2.frozen 2
    have u8 : w7.frozen? ⟨h3, 0, none⟩ = false := z3.frozen 0
    have u9 : w7.frozen? ⟨h3, 1, none⟩ = false := z3.frozen 1
    have hS := nxS_of (w' := w7) (h := w.heap.size) (h2 := h2) (h3 := h3) (h4 := h4) (x := .slice B1 (R (itoV (L + 16))).length b1) (y := .slice B2 0 b2) (a := .int .i64 0) (b := .int .i64 ((L : Int) + 1)) (c := .int .i64 ((L : Int) + 16)) z0 z4 ⟨_, _, _, z2⟩ ⟨_, _, z3⟩
    have HZ := KH.hid (And.intro hS (And.intro hP6 (And.intro hB6 (And.intro z2 z3))))
    have HS : Hid (NxS w.heap.size h2 h3 h4 (.slice B1 (R (itoV (L + 16))).length b1) (.slice B2 0 b2) (.int .i64 0) (.int .i64 ((L : Int) + 1)) (.int .i64 ((L : Int) + 16)) w7.drew ∧
        (∀ u0 u1 u2, NxS w.heap.size h2 h3 h4 (.slice B1 (R (itoV (L + 16))).length b1) (.slice B2 0 b2) (.int .i64 0) (.int .i64 ((L : Int) + 1)) (.int .i64 ((L : Int) + 16)) (((w7.setCell ⟨h2, 0, none⟩ u0).setCell ⟨h2, 1, none⟩ u1).setCell ⟨h2, 2, none⟩ u2).drew) ∧
        (∀ u0 u1 u2 u3 u4, NxS w.heap.size h2 h3 h4 (.slice B1 (R (itoV (L + 16))).length b1) (.slice B2 0 b2) (.int .i64 0) (.int .i64 ((L : Int) + 1)) (.int .i64 ((L : Int) + 16)) (((((w7.setCell ⟨h2, 0, none⟩ u0).setCell ⟨h2, 1, none⟩ u1).setCell ⟨h2, 2, none⟩ u2).setCell ⟨h3, 0, none⟩ u3).setCell ⟨h3, 1, none⟩ u4).drew)) :=
      KH.hid ⟨NxS_drew hS, fun _ _ _ => NxS_drew (nxS_src hS (by omega)), fun _ _ _ _ _ => NxS_drew (nxS_pl (nxS_src hS (by omega)) (by omega))⟩
    clear z0 z2 z3 z4 hP6 hB6 hS
    go_region_held3 (fun w' => w'.cell? ⟨w.heap.size, 0, none⟩ = some (.slice B1 (R (itoV (L + 16))).length b1) ∧ w'.cell? ⟨w.heap.size, 1, none⟩ = some (.slice B2 0 b2) ∧ w'.cell? ⟨h4, 0, none⟩ = some (.int .i64 0) ∧ w'.cell? ⟨h4, 1, none⟩ = some (.int .i64 ((L : Int) + 1)) ∧ w'.cell? ⟨h4, 2, none⟩ = some (.int .i64 ((L : Int) + 16)) ∧ w'.cell? ⟨h2, 0, none⟩ = some (valAt w' (h2) 0) ∧ w'.cell? ⟨h2, 1, none⟩ = some (valAt w' (h2) 1) ∧ w'.cell? ⟨h2, 2, none⟩ = some (valAt w' (h2) 2) ∧ w'.cell? ⟨h3, 0, none⟩ = some (valAt w' (h3) 0) ∧ w'.cell? ⟨h3, 1, none⟩ = some (valAt w' (h3) 1) ∧ (KH.Blk w' w.heap.size 35 #[.slice B1 (R (itoV (L + 16))).length b1, .slice B2 0 b2] ∧ KH.Blk w' (h4) 68 #[.int .i64 0, .int .i64 ((L : Int) + 1), .int .i64 ((L : Int) + 16)] ∧ (∃ p q r, KH.Blk w' (h2) 37 #[p, q, r]) ∧ ∃ p q, KH.Blk w' (h3) 35 #[p, q])) (first | with_reducible exact HS.out.1 | with_reducible exact HS.out.2.1 _ _ _ | with_reducible exact HS.out.2.2 _ _ _ _ _) (fail)
    go_wp2
    exact ret_next ⟨rfl, rfl, rfl, rfl⟩ rfl HZ.out.2.2.2.1 HZ.out.2.2.2.2 (by omega) HZ.out.2.1 (by omega) (by omega) (by omega) (by omega) HZ.out.2.2.1 (by omega) (by omega)
  · have hs4' := hB4.size
    have hlt3 := kC.lt
    obtain ⟨W, hW⟩ : ∃ W, W = (w4.setCell ⟨w2.heap.size, 0, none⟩ (.slice B1 (R (itoV (L + 16))).length b1)).setCell ⟨w2.heap.size, 1, none⟩ (.slice B2 0 b2) := ⟨_, rfl⟩
    obtain ⟨gT, hgT⟩ : ∃ g, g = w2.heap.size := ⟨_, rfl⟩
    have hBW : Below w2.heap.size w2 W := by rw [hW]; exact (hB4.setCell (p := ⟨w2.heap.size, 0, none⟩) (by show w2.heap.size ≤ w2.heap.size; omega) _).setCell (p := ⟨w2.heap.size, 1, none⟩) (by show w2.heap.size ≤ w2.heap.size; omega) _
    have kT : KH.Blk W gT 35 #[.slice B1 (R (itoV (L + 16))).length b1, .slice B2 0 b2] := by rw [hW, hgT]; exact (kB.set_ 0 _).set_ 1 _
    have hPB : PlB W w3.heap.size w4.heap.size (.agg #[.slice B1 (R (itoV (L + 16))).length b1, .slice B2 0 b2]) (R (itoV (L + 16))) [] := by rw [hW]; exact ((((PlIn.plB hP5).off (p := ⟨w2.heap.size, 0, none⟩) (.inl (hlt3)) _).off (p := ⟨w2.heap.size, 1, none⟩) (.inl (hlt3)) _)).lower (Nat.le_refl _)
    have hz5 : w4.heap.size ≤ W.heap.size := by rw [hW]; simp
    rw [← hW, ← hgT]
    have hs4 := hB4.size
    have hB5 := hB2.trans (hBW.mono (show w.heap.size ≤ w2.heap.size by omega))
    have j0 := HG.out.1.below hBW HG.out.1.lt
    have j2 := g2.below hBW g2.lt
    have j3 := g3.below hBW g3.lt
    have j4 := HG.out.2.1.below hBW HG.out.2.1.lt
    clear hW hgT e1 e2 e3 e4 kB kC hP5 hb3 hb4 hB4 g2 g3 hBW
    have v0 : W.cell? ⟨gT, 0, none⟩ = some (.slice B1 (R (itoV (L + 16))).length b1) := kT.cell 0
    have v1 : W.cell? ⟨gT, 1, none⟩ = some (.slice B2 0 b2) := kT.cell 1
    have v2 : W.cell? ⟨w.heap.size, 0, none⟩ = some (.slice A1 S.length c1) := j0.cell 0
    have v3 : W.cell? ⟨w.heap.size, 1, none⟩ = some (.slice A2 0 c2) := j0.cell 1
    have v4 : W.frozen? ⟨w.heap.size, 0, none⟩ = false := j0.frozen 0
    have v5 : W.frozen? ⟨w.heap.size, 1, none⟩ = false := j0.frozen 1
    have v6 : W.cell? ⟨h4, 2, none⟩ = some (.int .i64 L) := j4.cell 2
    have v7 : W.frozen? ⟨h4, 2, none⟩ = false := j4.frozen 2
    have v8 : W.cell? ⟨h4, 1, none⟩ = some (.int .i64 L) := j4.cell 1
    have n40 : h4 ≠ w.heap.size := by omega
    have n04 : w.heap.size ≠ h4 := by omega
    have x0 := ((j0.set_ 0 (.slice B1 (R (itoV (L + 16))).length b1)).set_ 1 (.slice B2 0 b2)).far (p := ⟨h4, 2, none⟩) n04 (.int .i64 ((L : Int) + 16))
    have x2 := ((j2.far (p := ⟨w.heap.size, 0, none⟩) (by show h2 ≠ w.heap.size; omega) (.slice B1 (R (itoV (L + 16))).length b1)).far (p := ⟨w.heap.size, 1, none⟩) (by show h2 ≠ w.heap.size; omega) (.slice B2 0 b2)).far (p := ⟨h4, 2, none⟩) (by show h2 ≠ h4; omega) (.int .i64 ((L : Int) + 16))
    have x3 := ((j3.far (p := ⟨w.heap.size, 0, none⟩) (by show h3 ≠ w.heap.size; omega) (.slice B1 (R (itoV (L + 16))).length b1)).far (p := ⟨w.heap.size, 1, none⟩) (by show h3 ≠ w.heap.size; omega) (.slice B2 0 b2)).far (p := ⟨h4, 2, none⟩) (by show h3 ≠ h4; omega) (.int .i64 ((L : Int) + 16))
    have x4 := ((j4.far (p := ⟨w.heap.size, 0, none⟩) n40 (.slice B1 (R (itoV (L + 16))).length b1)).far (p := ⟨w.heap.size, 1, none⟩) n40 (.slice B2 0 b2)).set_ 2 (.int .i64 ((L : Int) + 16))
    have hP5 := ((hPB.off (p := ⟨w.heap.size, 0, none⟩) (.inl (by show w.heap.size < w3.heap.size; omega)) (.slice B1 (R (itoV (L + 16))).length b1)).off (p := ⟨w.heap.size, 1, none⟩) (.inl (by show w.heap.size < w3.heap.size; omega)) (.slice B2 0 b2)).off (p := ⟨h4, 2, none⟩) (.inl (by show h4 < w3.heap.size; omega)) (.int .i64 ((L : Int) + 16))
    have hB6 := ((hB5.setCell (p := ⟨w.heap.size, 0, none⟩) (Nat.le_refl _) (.slice B1 (R (itoV (L + 16))).length b1)).setCell (p := ⟨w.heap.size, 1, none⟩) (Nat.le_refl _) (.slice B2 0 b2)).setCell (p := ⟨h4, 2, none⟩) (show w.heap.size ≤ h4 by omega) (.int .i64 ((L : Int) + 16))
    have hzW : (((W.setCell ⟨w.heap.size, 0, none⟩ (.slice B1 (R (itoV (L + 16))).length b1)).setCell ⟨w.heap.size, 1, none⟩ (.slice B2 0 b2)).setCell ⟨h4, 2, none⟩ (.int .i64 ((L : Int) + 16))).heap.size = W.heap.size := by simp
    clear kT hPB j0 j2 j3 j4 hB5
    have hB5 := hB6
    have hzz : w4.heap.size ≤ (((W.setCell ⟨w.heap.size, 0, none⟩ (.slice B1 (R (itoV (L + 16))).length b1)).setCell ⟨w.heap.size, 1, none⟩ (.slice B2 0 b2)).setCell ⟨h4, 2, none⟩ (.int .i64 ((L : Int) + 16))).heap.size := by omega
    have hlw : w2.heap.size ≤ w3.heap.size := hs3
    clear hB6 hzW
    go_wp2_with fail
    generalize (((W.setCell ⟨w.heap.size, 0, none⟩ (.slice B1 (R (itoV (L + 16))).length b1)).setCell ⟨w.heap.size, 1, none⟩ (.slice B2 0 b2)).setCell ⟨h4, 2, none⟩ (.int .i64 ((L : Int) + 16))) = w5 at *
    refine (bytes_yes L (by omega) _).mono ?_; rintro e w6 ⟨rfl, hb6⟩
    have hs6 := hb6.size
    have y0 := x0.below hb6 x0.lt
    have y2 := x2.below hb6 x2.lt
    have y3 := x3.below hb6 x3.lt
    have y4 := x4.below hb6 x4.lt
    have f9 : w6.cell? ⟨h4, 1, none⟩ = some (.int .i64 L) := y4.cell 1
    have fa : w6.frozen? ⟨h4, 1, none⟩ = false := y4.frozen 1
    have hP6 := (hP5.below (hb6.mono (by omega))).off (p := ⟨h4, 1, none⟩) (.inl (by show h4 < _; omega)) (.int .i64 ((L : Int) + 1))
    have hB6 := (hB5.trans (hb6.mono (by omega))).setCell (p := ⟨h4, 1, none⟩) (by show w.heap.size ≤ h4; omega) (.int .i64 ((L : Int) + 1))
    have z4 := y4.set_ 1 (.int .i64 ((L : Int) + 1))
    have z0 := y0.far (p := ⟨h4, 1, none⟩) (by show w.heap.size ≠ h4; omega) (.int .i64 ((L : Int) + 1))
    have z2 := y2.far (p := ⟨h4, 1, none⟩) (by show h2 ≠ h4; omega) (.int .i64 ((L : Int) + 1))
    have z3 := y3.far (p := ⟨h4, 1, none⟩) (by show h3 ≠ h4; omega) (.int .i64 ((L : Int) + 1))
    have hz6 : (w6.setCell ⟨h4, 1, none⟩ (.int .i64 ((L : Int) + 1))).heap.size = w6.heap.size := by simp
    clear x0 x2 x3 x4 y0 y2 y3 y4 hb6 hP5 hB5 v0 v1 v2 v3 v4 v5 v6 v7 v8
    go_wp2_with fail
    generalize w6.setCell ⟨h4, 1, none⟩ (.int .i64 ((L : Int) + 1)) = w7 at *
    have t0 : w7.cell? ⟨w.heap.size, 0, none⟩ = some (.slice B1 (R (itoV (L + 16))).length b1) := z0.cell 0
    have t1 : w7.cell? ⟨w.heap.size, 1, none⟩ = some (.slice B2 0 b2) := z0.cell 1
    have t2 : w7.cell? ⟨h4, 0, none⟩ = some (.int .i64 0) := z4.cell 0
    have t3 : w7.cell? ⟨h4, 1, none⟩ = some (.int .i64 ((L : Int) + 1)) := z4.cell 1
    have t4 : w7.cell? ⟨h4, 2, none⟩ = some (.int .i64 ((L : Int) + 16)) := z4.cell 2
    have t5 : w7.cell? ⟨h2, 0, none⟩ = some (.int .i64 0) := z2.cell 0
    have t6 : w7.cell? ⟨h2, 1, none⟩ = some (.int .i64 0) := z2.cell 1
    have t7 : w7.cell? ⟨h2, 2, none⟩ = some (.int .i64 0) := z2.cell 2
    have t8 : w7.cell? ⟨h3, 0, none⟩ = some (.slice none 0 0) := z3.cell 0
    have t9 : w7.cell? ⟨h3, 1, none⟩ = some (.slice none 0 0) := z3.cell 1
    have u5 : w7.frozen? ⟨h2, 0, none⟩ = false := z2.frozen 0
    have u6 : w7.frozen? ⟨h2, 1, none⟩ = false := z2.frozen 1
    have u7 : w7.frozen? ⟨h2, 2, none⟩ = false := z2.frozen 2
    have u8 : w7.frozen? ⟨h3, 0, none⟩ = false := z3.frozen 0
    have u9 : w7.frozen? ⟨h3, 1, none⟩ = false := z3.frozen 1
    have hS := nxS_of (w' := w7) (h := w.heap.size) (h2 := h2) (h3 := h3) (h4 := h4) (x := .slice B1 (R (itoV (L + 16))).length b1) (y := .slice B2 0 b2) (a := .int .i64 0) (b := .int .i64 ((L : Int) + 1)) (c := .int .i64 ((L : Int) + 16)) z0 z4 ⟨_, _, _, z2⟩ ⟨_, _, z3⟩
    have HZ := KH.hid (And.intro hS (And.intro hP6 (And.intro hB6 (And.intro z2 z3))))
    have HS : Hid (NxS w.heap.size h2 h3 h4 (.slice B1 (R (itoV (L + 16))).length b1) (.slice B2 0 b2) (.int .i64 0) (.int .i64 ((L : Int) + 1)) (.int .i64 ((L : Int) + 16)) w7.drew ∧
        (∀ u0 u1 u2, NxS w.heap.size h2 h3 h4 (.slice B1 (R (itoV (L + 16))).length b1) (.slice B2 0 b2) (.int .i64 0) (.int .i64 ((L : Int) + 1)) (.int .i64 ((L : Int) + 16)) (((w7.setCell ⟨h2, 0, none⟩ u0).setCell ⟨h2, 1, none⟩ u1).setCell ⟨h2, 2, none⟩ u2).drew) ∧
        (∀ u0 u1 u2 u3 u4, NxS w.heap.size h2 h3 h4 (.slice B1 (R (itoV (L + 16))).length b1) (.slice B2 0 b2) (.int .i64 0) (.int .i64 ((L : Int) + 1)) (.int .i64 ((L : Int) + 16)) (((((w7.setCell ⟨h2, 0, none⟩ u0).setCell ⟨h2, 1, none⟩ u1).setCell ⟨h2, 2, none⟩ u2).setCell ⟨h3, 0, none⟩ u3).setCell ⟨h3, 1, none⟩ u4).drew)) :=
      KH.hid ⟨NxS_drew hS, fun _ _ _ => NxS_drew (nxS_src hS (by omega)), fun _ _ _ _ _ => NxS_drew (nxS_pl (nxS_src hS (by omega)) (by omega))⟩
    clear z0 z2 z3 z4 hP6 hB6 hS
    go_region_held3 (fun w' => w'.cell? ⟨w.heap.size, 0, none⟩ = some (.slice B1 (R (itoV (L + 16))).length b1) ∧ w'.cell? ⟨w.heap.size, 1, none⟩ = some (.slice B2 0 b2) ∧ w'.cell? ⟨h4, 0, none⟩ = some (.int .i64 0) ∧ w'.cell? ⟨h4, 1, none⟩ = some (.int .i64 ((L : Int) + 1)) ∧ w'.cell? ⟨h4, 2, none⟩ = some (.int .i64 ((L : Int) + 16)) ∧ w'.cell? ⟨h2, 0, none⟩ = some (valAt w' (h2) 0) ∧ w'.cell? ⟨h2, 1, none⟩ = some (valAt w' (h2) 1) ∧ w'.cell? ⟨h2, 2, none⟩ = some (valAt w' (h2) 2) ∧ w'.cell? ⟨h3, 0, none⟩ = some (valAt w' (h3) 0) ∧ w'.cell? ⟨h3, 1, none⟩ = some (valAt w' (h3) 1) ∧ (KH.Blk w' w.heap.size 35 #[.slice B1 (R (itoV (L + 16))).length b1, .slice B2 0 b2] ∧ KH.Blk w' (h4) 68 #[.int .i64 0, .int .i64 ((L : Int) + 1), .int .i64 ((L : Int) + 16)] ∧ (∃ p q r, KH.Blk w' (h2) 37 #[p, q, r]) ∧ ∃ p q, KH.Blk w' (h3) 35 #[p, q])) (first | with_reducible exact HS.out.1 | with_reducible exact HS.out.2.1 _ _ _ | with_reducible exact HS.out.2.2 _ _ _ _ _) (fail)
    go_wp2
    exact ret_next ⟨rfl, rfl, rfl, rfl⟩ rfl HZ.out.2.2.2.1 HZ.out.2.2.2.2 (by omega) HZ.out.2.1 (by omega) (by omega) (by omega) (by omega) HZ.out.2.2.1 (by omega) (by omega)
end Go.Proofs.YtlnilfcjcoclhaaGreatDoor
