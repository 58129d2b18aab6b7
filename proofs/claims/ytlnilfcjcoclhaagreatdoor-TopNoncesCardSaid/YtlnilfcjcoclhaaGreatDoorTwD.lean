import Derived.Test.YtlnilfcjcoclhaaGreatDoorTwC
/- Package twin: do. -/
namespace Go.Proofs.YtlnilfcjcoclhaaGreatDoor
open Go.RowKit

abbrev Dsk := List ByteArray × List (Int × ByteArray)
def stepsD (D : Dsk) (fs : List (Dsk → Dsk)) (k : Nat) : Dsk := (fs.take k).foldl (fun D f => f D) D
theorem stepsD_succ {D : Dsk} {fs : List (Dsk → Dsk)} {k : Nat} {f : Dsk → Dsk} (h : fs[k]? = some f) : stepsD D fs (k + 1) = f (stepsD D fs k) := by
  unfold stepsD
  rw [List.take_add_one, h, List.foldl_append]; rfl
theorem KH.Reads.setOff {w : World} {B size n : Nat} {A : Option Addr} {xs : List Value} (h : KH.Reads w B size A n xs) {p : Addr} (hp : ∀ ad, A = some ad → ad.block < B → ad.block ≠ p.block) (u : Value) : KH.Reads (w.setCell p u) B size A n xs :=
  ⟨h.1, fun hn => by
    obtain ⟨ad, hA, hb, hc⟩ := h.2 hn
    refine ⟨ad, hA, hb, fun j v hv => ?_⟩
    rw [World.cell?_setCell_other _ _ _ _ (fun e => hp ad hA hb (by rw [← KH.block_of_add ad j, e]))]
    exact hc j v hv⟩
/-- a disk's value whose rows lie from lo on and below hi -/
def PlB (w : World) (lo hi : Nat) (v : Value) (S : List ByteArray) (C : List (Int × ByteArray)) : Prop :=
  ∃ A1 c1 A2 c2, v = .agg #[.slice A1 S.length c1, .slice A2 C.length c2] ∧ (∀ ad, A1 = some ad → lo ≤ ad.block) ∧ (∀ ad, A2 = some ad → lo ≤ ad.block) ∧
    KH.Reads w hi 1 A1 S.length (S.map .string) ∧ ShIn w hi A2 C.length C
theorem PlB.off {w : World} {lo hi : Nat} {v : Value} {S : List ByteArray} {C : List (Int × ByteArray)} (h : PlB w lo hi v S C) {p : Addr} (hp : p.block < lo ∨ hi ≤ p.block) (u : Value) : PlB (w.setCell p u) lo hi v S C := by
  obtain ⟨A1, c1, A2, c2, rfl, l1, l2, h1, h2⟩ := h
  exact ⟨A1, c1, A2, c2, rfl, l1, l2, KH.Reads.setOff h1 (fun a ha hb => by have := l1 a ha; omega) u, KH.Reads.setOff h2 (fun a ha hb => by have := l2 a ha; omega) u⟩
theorem PlB.below {w w' : World} {lo hi : Nat} {v : Value} {S : List ByteArray} {C : List (Int × ByteArray)} (h : PlB w lo hi v S C) (hb : Below hi w w') : PlB w' lo hi v S C := by
  obtain ⟨A1, c1, A2, c2, rfl, l1, l2, h1, h2⟩ := h
  exact ⟨A1, c1, A2, c2, rfl, l1, l2, h1.below hb, KH.Reads.below h2 hb⟩
theorem PlB.inn {w : World} {lo lo' hi : Nat} {v : Value} {S : List ByteArray} {C : List (Int × ByteArray)} (h : PlB w lo hi v S C) (hl : lo' ≤ lo) (hh : hi ≤ w.heap.size) : PlIn w lo' v S C := by
  obtain ⟨A1, c1, A2, c2, rfl, l1, l2, h1, h2⟩ := h
  exact ⟨A1, c1, A2, c2, rfl, fun a ha => Nat.le_trans hl (l1 a ha), fun a ha => Nat.le_trans hl (l2 a ha), h1.more hh, KH.Reads.more h2 hh⟩
theorem PlIn.plB {w : World} {lo : Nat} {v : Value} {S : List ByteArray} {C : List (Int × ByteArray)} (h : PlIn w lo v S C) : PlB w lo w.heap.size v S C := h

/-- a deed -/
def IsDeed (w0 : World) (fv : Value) (f : Dsk → Dsk) (ok : Dsk → Prop) : Prop :=
  ∃ fn caps, fv = .func (.func fn) #[] caps ∧ (∀ (args : Array Value) (w : World), (callFunc fn args).run Tryz.prog w = .ok (.enter fn args) w) ∧
    ∀ (w : World) (v : Value) (D : Dsk) (lo : Nat), Below w0.heap.size w0 w → PlIn w lo v D.1 D.2 → ok D →
      Calls Tryz.prog fn (#[v] ++ caps) w fun e w' => ∃ v', e = .returned (.tuple #[v', .int .i64 0]) ∧ PlIn w' w.heap.size v' (f D).1 (f D).2 ∧ Below w.heap.size w w'
/-- what the loop keeps -/
def DoI (w : World) (lo : Nat) (D : Dsk) (fs : List (Dsk → Dsk)) (k : Nat) (wr : World) : Prop :=
  ∃ x y lo' hi, PlB wr lo' hi (.agg #[x, y]) (stepsD D fs k).1 (stepsD D fs k).2 ∧ hi ≤ wr.heap.size ∧ lo ≤ lo' ∧ (w.heap.size + 2 ≤ lo' ∨ hi ≤ w.heap.size) ∧
    KH.Blk wr w.heap.size 35 #[x, y] ∧ KH.Blk wr (w.heap.size + 1) 35 #[.slice none 0 0, .slice none 0 0] ∧ Below w.heap.size w wr

theorem DoI.step {w wr w2 : World} {lo k b1 b2 : Nat} {D : Dsk} {fs : List (Dsk → Dsk)} {x y : Value} {B1 B2 : Option Addr} (hlw : lo ≤ w.heap.size)
    (j1 : KH.Blk wr w.heap.size 35 #[x, y]) (j2 : KH.Blk wr (w.heap.size + 1) 35 #[.slice none 0 0, .slice none 0 0]) (hB : Below w.heap.size w wr) (hb2 : Below wr.heap.size wr w2)
    (hP : PlIn w2 wr.heap.size (.agg #[.slice B1 (stepsD D fs (k + 1)).1.length b1, .slice B2 (stepsD D fs (k + 1)).2.length b2]) (stepsD D fs (k + 1)).1 (stepsD D fs (k + 1)).2) (o : Obj) :
    DoI w lo D fs (k + 1) (((w2.alloc o).setCell ⟨w.heap.size, 0, none⟩ (.slice B1 (stepsD D fs (k + 1)).1.length b1)).setCell ⟨w.heap.size, 1, none⟩ (.slice B2 (stepsD D fs (k + 1)).2.length b2)) := by
  have h1 := j1.lt
  have h2 := j2.lt
  have hs := hB.size
  have hs2 := hb2.size
  have q1 := (((j1.below hb2 h1).alloc o).set_ 0 (.slice B1 (stepsD D fs (k + 1)).1.length b1)).set_ 1 (.slice B2 (stepsD D fs (k + 1)).2.length b2)
  have q2 := (((j2.below hb2 h2).alloc o).far (p := ⟨w.heap.size, 0, none⟩) (by show w.heap.size + 1 ≠ w.heap.size; omega) (.slice B1 (stepsD D fs (k + 1)).1.length b1)).far (p := ⟨w.heap.size, 1, none⟩) (by show w.heap.size + 1 ≠ w.heap.size; omega) (.slice B2 (stepsD D fs (k + 1)).2.length b2)
  refine ⟨_, _, wr.heap.size, w2.heap.size, ((hP.plB.below ((Below.refl _ _).alloc (Nat.le_refl _) o)).off (p := ⟨w.heap.size, 0, none⟩) (.inl h1) _).off (p := ⟨w.heap.size, 1, none⟩) (.inl h1) _, by simp, by omega, .inl (by omega), q1, q2, ?_⟩
  exact ((((hB.trans (hb2.mono hs))).alloc (by omega) o).setCell (p := ⟨w.heap.size, 0, none⟩) (Nat.le_refl _) _).setCell (p := ⟨w.heap.size, 1, none⟩) (Nat.le_refl _) _
theorem nat_beq (k m : Nat) : ((k : Int) == (m : Int)) = decide (k = m) := by
  rw [Bool.eq_iff_iff, beq_iff_eq, decide_eq_true_iff]; omega
theorem load_pl3 {fn : Func} {p u u2 : Nat} {tmps : Array Value} {w : World} {h : Nat} {x y : Value} {b : Bool} {k : Int}
    (hr : fn.results = #[.cell p 35, .tmp u, .tmp u2]) (hp : tmps.getD p undef = .pointer (some ⟨h, 0, none⟩)) (hu : tmps.getD u undef = .bool b) (hu2 : tmps.getD u2 undef = .int .i64 k)
    (h0 : w.cell? ⟨h, 0, none⟩ = some x) (h1 : w.cell? ⟨h, 1, none⟩ = some y) : (results fn tmps).run Tryz.prog w = .ok (.tuple #[.agg #[x, y], .bool b, .int .i64 k]) w := by
  rw [Array.getD_eq_getD_getElem?] at hp hu hu2
  simp [results, hr, hp, hu, hu2, go_sem, h0, h1]
theorem ret_pl3 {fn : Func} {p u u2 : Nat} {a : Act} {w w0 : World} {h : Nat} {x0 y0 x y : Value} {S : List ByteArray} {C : List (Int × ByteArray)} {lo lo' hi : Nat} {k : Int} {b b' : Bool}
    (hr : fn.results = #[.cell p 35, .tmp u, .tmp u2]) (hp : a.tmps.getD p undef = .pointer (some ⟨h, 0, none⟩)) (hu : a.tmps.getD u undef = .bool b) (hu2 : a.tmps.getD u2 undef = .int .i64 k) (hd : a.defers = []) (hbb : b = b')
    (hk : KH.Blk w h 35 #[x0, y0]) (hP : PlB w lo hi (.agg #[x, y]) S C) (hl : h < lo ∨ hi ≤ h) (hh2 : hi ≤ w.heap.size) (hlo : lo' ≤ lo) (hB : Below w0.heap.size w0 w) (hh : w0.heap.size ≤ h) :
    bodyPost Tryz.prog fn (fun e w' => ∃ v', e = .returned (.tuple #[v', .bool b', .int .i64 k]) ∧ PlIn w' lo' v' S C ∧ Below w0.heap.size w0 w') .ret a ((w.setCell ⟨h, 0, none⟩ x).setCell ⟨h, 1, none⟩ y) := by
  subst hbb
  have h2 := (hk.set_ 0 x).set_ 1 y
  refine bodyPost_ret (v := .tuple #[.agg #[x, y], .bool b, .int .i64 k]) (load_pl3 hr hp hu hu2 ?_ ?_) hd ⟨_, rfl, ((hP.off (p := ⟨h, 0, none⟩) hl x).off (p := ⟨h, 1, none⟩) hl y).inn hlo (by simpa using hh2), (hB.setCell (p := ⟨h, 0, none⟩) hh x).setCell (p := ⟨h, 1, none⟩) hh y⟩
  · have := h2.cell 0; simpa using this
  · have := h2.cell 1; simpa using this

set_option maxRecDepth 100000 in
theorem do_any {v : Value} {D : Dsk} {w : World} {lo m c t : Nat} {A : Option Addr} {fvs : List Value} {fs : List (Dsk → Dsk)} (most : Int) (h : PlIn w lo v D.1 D.2) (hlw : lo ≤ w.heap.size) (hR : KH.Reads w w.heap.size 1 A m fvs) (hm : m ≤ 100) (hc : m ≤ c) (hcc : c ≤ maxLen)
    (hds : ∀ k, k < m → ∃ fv f, fvs[k]? = some fv ∧ fs[k]? = some f ∧ IsDeed w fv f (fun X => X = stepsD D fs k)) (ht : most < 0 ∧ t = m ∨ most = t ∧ t ≤ m) :
    Calls Tryz.prog 44 #[v, .int .i64 most, .slice A m c] w fun e w' => ∃ v', e = .returned (.tuple #[v', .bool (decide (t = m)), .int .i64 0]) ∧ PlIn w' lo v' (stepsD D fs t).1 (stepsD D fs t).2 ∧ Below w.heap.size w w' := by
  have h0 := h
  obtain ⟨A1, c1, A2, c2, rfl, -, -, -, -⟩ := h
  have hb1 := ((Below.refl w.heap.size w).alloc (Nat.le_refl _) (.cells #[.slice A1 D.1.length c1, .slice A2 D.2.length c2] 35)).alloc (by simp) (.cells #[.slice none 0 0, .slice none 0 0] 35)
  have hk1 := (KH.Blk.new w 35 #[.slice A1 D.1.length c1, .slice A2 D.2.length c2]).alloc (.cells #[.slice none 0 0, .slice none 0 0] 35)
  have hk2 := blk1 w (.cells #[.slice A1 D.1.length c1, .slice A2 D.2.length c2] 35) 35 #[.slice none 0 0, .slice none 0 0]
  have hI0 : DoI w lo D fs 0 ((w.alloc (.cells #[.slice A1 D.1.length c1, .slice A2 D.2.length c2] 35)).alloc (.cells #[.slice none 0 0, .slice none 0 0] 35)) :=
    ⟨_, _, lo, w.heap.size, h0.plB.below hb1, hb1.size, Nat.le_refl _, .inr (Nat.le_refl _), hk1, hk2, hb1⟩
  have hm' : m ≤ 9223372036854775807 := by omega
  have hc' : c ≤ 9223372036854775807 := by unfold maxLen at hcc; omega
  have HH := KH.hid (And.intro hI0 (And.intro hds hR))
  clear h0 hb1 hk1 hk2 hI0 hds hR
  rcases ht with ⟨h1, rfl⟩ | ⟨rfl, h1⟩
  · have d1 : decide (most < 0) = true := by rw [decide_eq_true_iff]; exact h1
    go_enter Tryz.func44, Tryz.ntmps44
    go_wp2_with fail
    generalize ((w.alloc (.cells #[.slice A1 D.1.length c1, .slice A2 D.2.length c2] 35)).alloc (.cells #[.slice none 0 0, .slice none 0 0] 35)) = w1 at *
    go_loopw [10, 11, 12, 27] (fun _ _ _ i wr => ∃ k : Nat, k ≤ t ∧ i = .int .i64 k ∧ Hid (DoI w lo D fs k wr)) (fun _ _ _ i _ => t - (intOf i).toNat)
    case atStart => exact ⟨0, Nat.zero_le _, rfl, HH.out.1⟩
    case round =>
      obtain ⟨k, hk, rfl, hI⟩ := hrel
      obtain ⟨x, y, lo', hi, hP, hhi, hlo, hoff, j1, j2, hB⟩ := hI.out
      have hsz := hB.size
      have f1 : wr.cell? ⟨w.heap.size, 0, none⟩ = some x := j1.cell 0
      have f2 : wr.cell? ⟨w.heap.size, 1, none⟩ = some y := j1.cell 1
      by_cases hlt : k < t
      · obtain ⟨fv, f, e1, e2, fn, caps, rfl, hcf, hF⟩ := HH.out.2.1 k (by omega)
        obtain ⟨ad, u, rfl, hab, hx, hc1⟩ := (HH.out.2.2.below hB).at_ (show k < t by omega)
        rw [e1] at hx; injection hx with hx; subst hx
        have HC := KH.hid (And.intro (hF wr (.agg #[x, y]) (stepsD D fs k) lo' hB (hP.inn (Nat.le_refl _) hhi) rfl) (stepsD_succ (D := D) e2))
        have HJ := KH.hid (And.intro j1 (And.intro j2 hB))
        have k0 : (0 : Int) ≤ (k : Int) := by omega
        have k1 : (k : Int) < (t : Int) := by omega
        clear hF e1 e2 hP j1 j2 hI hB
        go_wp2_with fail
        refine HC.out.1.mono ?_; rintro e w2 ⟨v', rfl, hP2, hb2⟩
        have hs2 := hb2.size
        have q1 := HJ.out.1.below hb2 HJ.out.1.lt
        have q2 := HJ.out.2.1.below hb2 HJ.out.2.1.lt
        have hP3 := hP2
        obtain ⟨B1, b1, B2, b2, rfl, -, -, -, -⟩ := hP2
        rw [← HC.out.2] at hP3 ⊢
        have g1 : ∀ o, (w2.alloc o).cell? ⟨w.heap.size, 0, none⟩ = some x := fun o => (q1.alloc o).cell 0
        have g2 : ∀ o, (w2.alloc o).cell? ⟨w.heap.size, 1, none⟩ = some y := fun o => (q1.alloc o).cell 1
        have g3 : ∀ o, (w2.alloc o).frozen? ⟨w.heap.size, 0, none⟩ = false := fun o => (q1.alloc o).frozen 0
        have g4 : ∀ o, (w2.alloc o).frozen? ⟨w.heap.size, 1, none⟩ = false := fun o => (q1.alloc o).frozen 1
        clear f1 f2 k0 k1
        have hI' := DoI.step (D := D) (fs := fs) (k := k) (lo := lo) hlw HJ.out.1 HJ.out.2.1 HJ.out.2.2 hb2 hP3
        have HI' := KH.hid hI'
        clear hI' hP3 q1 q2
        go_wp2_with fail
        exact ⟨⟨k + 1, by omega, by go_num, HI'.out _⟩, by simp [intOf]; omega⟩
      · obtain rfl : k = t := by omega
        have hP9 := hP
        obtain ⟨B1, b1, B2, b2, hv, -, -, -, -⟩ := hP
        simp only [Value.agg.injEq, Array.mk.injEq, List.cons.injEq, and_true] at hv
        obtain ⟨rfl, rfl⟩ := hv
        have g1 : wr.cell? ⟨w.heap.size + 1, 0, none⟩ = some (.slice none 0 0) := j2.cell 0
        have g2 : wr.cell? ⟨w.heap.size + 1, 1, none⟩ = some (.slice none 0 0) := j2.cell 1
        have g3 : wr.frozen? ⟨w.heap.size + 1, 0, none⟩ = false := j2.frozen 0
        have g4 : wr.frozen? ⟨w.heap.size + 1, 1, none⟩ = false := j2.frozen 1
        have HF := KH.hid (And.intro hP9 (And.intro hhi (And.intro hlo (And.intro hoff (And.intro j2 hB)))))
        clear hP9 hI hlo hoff j1 j2 hB
        go_wp2_with fail
        exact ret_pl3 Tryz.results44 rfl rfl rfl rfl (by first | rfl | exact nat_beq _ _) HF.out.2.2.2.2.1 HF.out.1 (by rcases HF.out.2.2.2.1 with h | h <;> omega) HF.out.2.1 HF.out.2.2.1 HF.out.2.2.2.2.2 (by omega)
  · have d1 : decide ((t : Int) < 0) = false := by rw [decide_eq_false_iff_not]; omega
    have d2 : decide ((m : Int) < (t : Int)) = false := by rw [decide_eq_false_iff_not]; omega
    have d3 : decide (m < t) = false := by rw [decide_eq_false_iff_not]; omega
    have k2 : (t : Int) ≤ (c : Int) := by omega
    have k3 : (0 : Int) ≤ (t : Int) := by omega
    go_enter Tryz.func44, Tryz.ntmps44
    go_wp2_with fail
    generalize ((w.alloc (.cells #[.slice A1 D.1.length c1, .slice A2 D.2.length c2] 35)).alloc (.cells #[.slice none 0 0, .slice none 0 0] 35)) = w1 at *
    go_loopw [10, 11, 12, 27] (fun _ _ _ i wr => ∃ k : Nat, k ≤ t ∧ i = .int .i64 k ∧ Hid (DoI w lo D fs k wr)) (fun _ _ _ i _ => t - (intOf i).toNat)
    case atStart => exact ⟨0, Nat.zero_le _, rfl, HH.out.1⟩
    case round =>
      obtain ⟨k, hk, rfl, hI⟩ := hrel
      obtain ⟨x, y, lo', hi, hP, hhi, hlo, hoff, j1, j2, hB⟩ := hI.out
      have hsz := hB.size
      have f1 : wr.cell? ⟨w.heap.size, 0, none⟩ = some x := j1.cell 0
      have f2 : wr.cell? ⟨w.heap.size, 1, none⟩ = some y := j1.cell 1
      by_cases hlt : k < t
      · obtain ⟨fv, f, e1, e2, fn, caps, rfl, hcf, hF⟩ := HH.out.2.1 k (by omega)
        obtain ⟨ad, u, rfl, hab, hx, hc1⟩ := (HH.out.2.2.below hB).at_ (show k < m by omega)
        rw [e1] at hx; injection hx with hx; subst hx
        have HC := KH.hid (And.intro (hF wr (.agg #[x, y]) (stepsD D fs k) lo' hB (hP.inn (Nat.le_refl _) hhi) rfl) (stepsD_succ (D := D) e2))
        have HJ := KH.hid (And.intro j1 (And.intro j2 hB))
        have k0 : (0 : Int) ≤ (k : Int) := by omega
        have k1 : (k : Int) < (t : Int) := by omega
        clear hF e1 e2 hP j1 j2 hI hB
        go_wp2_with fail
        refine HC.out.1.mono ?_; rintro e w2 ⟨v', rfl, hP2, hb2⟩
        have hs2 := hb2.size
        have q1 := HJ.out.1.below hb2 HJ.out.1.lt
        have q2 := HJ.out.2.1.below hb2 HJ.out.2.1.lt
        have hP3 := hP2
        obtain ⟨B1, b1, B2, b2, rfl, -, -, -, -⟩ := hP2
        rw [← HC.out.2] at hP3 ⊢
        have g1 : ∀ o, (w2.alloc o).cell? ⟨w.heap.size, 0, none⟩ = some x := fun o => (q1.alloc o).cell 0
        have g2 : ∀ o, (w2.alloc o).cell? ⟨w.heap.size, 1, none⟩ = some y := fun o => (q1.alloc o).cell 1
        have g3 : ∀ o, (w2.alloc o).frozen? ⟨w.heap.size, 0, none⟩ = false := fun o => (q1.alloc o).frozen 0
        have g4 : ∀ o, (w2.alloc o).frozen? ⟨w.heap.size, 1, none⟩ = false := fun o => (q1.alloc o).frozen 1
        clear f1 f2 k0 k1
        have hI' := DoI.step (D := D) (fs := fs) (k := k) (lo := lo) hlw HJ.out.1 HJ.out.2.1 HJ.out.2.2 hb2 hP3
        have HI' := KH.hid hI'
        clear hI' hP3 q1 q2
        go_wp2_with fail
        exact ⟨⟨k + 1, by omega, by go_num, HI'.out _⟩, by simp [intOf]; omega⟩
      · obtain rfl : k = t := by omega
        have hP9 := hP
        obtain ⟨B1, b1, B2, b2, hv, -, -, -, -⟩ := hP
        simp only [Value.agg.injEq, Array.mk.injEq, List.cons.injEq, and_true] at hv
        obtain ⟨rfl, rfl⟩ := hv
        have g1 : wr.cell? ⟨w.heap.size + 1, 0, none⟩ = some (.slice none 0 0) := j2.cell 0
        have g2 : wr.cell? ⟨w.heap.size + 1, 1, none⟩ = some (.slice none 0 0) := j2.cell 1
        have g3 : wr.frozen? ⟨w.heap.size + 1, 0, none⟩ = false := j2.frozen 0
        have g4 : wr.frozen? ⟨w.heap.size + 1, 1, none⟩ = false := j2.frozen 1
        have HF := KH.hid (And.intro hP9 (And.intro hhi (And.intro hlo (And.intro hoff (And.intro j2 hB)))))
        clear hP9 hI hlo hoff j1 j2 hB
        go_wp2_with fail
        exact ret_pl3 Tryz.results44 rfl rfl rfl rfl (by first | rfl | exact nat_beq _ _) HF.out.2.2.2.2.1 HF.out.1 (by rcases HF.out.2.2.2.1 with h | h <;> omega) HF.out.2.1 HF.out.2.2.1 HF.out.2.2.2.2.2 (by omega)
end Go.Proofs.YtlnilfcjcoclhaaGreatDoor
