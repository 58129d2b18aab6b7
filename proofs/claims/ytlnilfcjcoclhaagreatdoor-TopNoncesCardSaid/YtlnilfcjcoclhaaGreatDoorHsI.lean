import Derived.Test.YtlnilfcjcoclhaaGreatDoorHsG
/- Package keyholetop: what stands in step behind writes. -/
namespace Go.Proofs.YtlnilfcjcoclhaaGreatDoor
open Go.RowKit

/-- behind writes: the House, the texts that are said, the step's own block -/
structure StS (w wr : World) (base h p3 : Nat) (s : Stp) (S Sn : List ByteArray) (N L : Nat) (key : ByteArray) (said dr : List ByteArray) (x : HsV) (n : Nat) (A9 : Option Addr) (T : List ByteArray) : Prop where
  H : House wr base h 0 0 S Sn N L key said dr x
  t : RowN wr (HQ h 0 0 x.A6) A9 n T
  k : KH.Blk wr p3 32 s.cells
  b : Below base w wr
section
variable {w wr w' : World} {base h p3 : Nat} {s : Stp} {S Sn : List ByteArray} {N L : Nat} {key : ByteArray} {said dr : List ByteArray} {x : HsV} {n : Nat} {A9 : Option Addr} {T : List ByteArray}
theorem StS.bs (W : StS w wr base h p3 s S Sn N L key said dr x n A9 T) : base ≤ wr.heap.size := by have := W.H.hb; have := W.H.blk.lt; omega
theorem StS.ne (W : StS w wr base h p3 s S Sn N L key said dr x n A9 T) : p3 ≠ h := W.k.ne_ W.H.blk (by decide)
theorem StS.below (W : StS w wr base h p3 s S Sn N L key said dr x n A9 T) (hb : Below wr.heap.size wr w') : StS w w' base h p3 s S Sn N L key said dr x n A9 T :=
  ⟨W.H.below hb, W.t.below hb, W.k.below hb W.k.lt, W.b.trans (hb.mono W.bs)⟩
theorem StS.newq (W : StS w wr base h p3 s S Sn N L key said dr x n A9 T) {b : Nat} (hb : wr.heap.size ≤ b) : HQ h 0 0 x.A6 b :=
  ⟨by have := W.H.blk.lt; omega, fun ad e q => by have := (W.H.d.lt ad.block (by rw [e]; rfl)).2; omega, .inr (Nat.zero_le _)⟩
theorem StS.setP (W : StS w wr base h p3 s S Sn N L key said dr x n A9 T) {A1 A2 : Option Addr} {c1 c2 : Nat} {S' : List ByteArray} (hr : RowN wr (HQ h 0 0 x.A6) A1 S'.length S') :
    StS w ((wr.setCell ⟨h, 0, none⟩ (.slice A1 S'.length c1)).setCell ⟨h, 1, none⟩ (.slice A2 0 c2)) base h p3 s S' Sn N L key said dr { x with A1 := A1, c1 := c1, A2 := A2, c2 := c2 } n A9 T := by
  have hq : ∀ i, ¬ HQ h 0 0 x.A6 (⟨h, i, none⟩ : Addr).block := fun i q => q.1 rfl
  exact ⟨W.H.setP hr, (W.t.set (hq 0) _).set (hq 1) _, (W.k.far (p := ⟨h, 0, none⟩) W.ne _).far (p := ⟨h, 1, none⟩) W.ne _, (W.b.setCell (p := ⟨h, 0, none⟩) W.H.hb _).setCell (p := ⟨h, 1, none⟩) W.H.hb _⟩
theorem StS.setN (W : StS w wr base h p3 s S Sn N L key said dr x n A9 T) {A3 A4 : Option Addr} {c3 c4 : Nat} {S' : List ByteArray} (hr : RowN wr (HQ h 0 0 x.A6) A3 S'.length S') :
    StS w ((wr.setCell ⟨h, 2, none⟩ (.slice A3 S'.length c3)).setCell ⟨h, 3, none⟩ (.slice A4 0 c4)) base h p3 s S S' N L key said dr { x with A3 := A3, c3 := c3, A4 := A4, c4 := c4 } n A9 T := by
  have hq : ∀ i, ¬ HQ h 0 0 x.A6 (⟨h, i, none⟩ : Addr).block := fun i q => q.1 rfl
  exact ⟨W.H.setN hr, (W.t.set (hq 2) _).set (hq 3) _, (W.k.far (p := ⟨h, 2, none⟩) W.ne _).far (p := ⟨h, 3, none⟩) W.ne _, (W.b.setCell (p := ⟨h, 2, none⟩) W.H.hb _).setCell (p := ⟨h, 3, none⟩) W.H.hb _⟩
theorem StS.setS (W : StS w wr base h p3 s S Sn N L key said dr x n A9 T) (N' L' : Nat) :
    StS w (((wr.setCell ⟨h, 4, none⟩ (.int .i64 0)).setCell ⟨h, 5, none⟩ (.int .i64 N')).setCell ⟨h, 6, none⟩ (.int .i64 L')) base h p3 s S Sn N' L' key said dr x n A9 T := by
  have hq : ∀ i, ¬ HQ h 0 0 x.A6 (⟨h, i, none⟩ : Addr).block := fun i q => q.1 rfl
  exact ⟨W.H.setS N' L', ((W.t.set (hq 4) _).set (hq 5) _).set (hq 6) _, ((W.k.far (p := ⟨h, 4, none⟩) W.ne _).far (p := ⟨h, 5, none⟩) W.ne _).far (p := ⟨h, 6, none⟩) W.ne _, ((W.b.setCell (p := ⟨h, 4, none⟩) W.H.hb _).setCell (p := ⟨h, 5, none⟩) W.H.hb _).setCell (p := ⟨h, 6, none⟩) W.H.hb _⟩
end
/-- the deeds that are done -/
def deedsT (n : Nat) (d : Int) : Nat := if d < 0 ∨ ((n + 5 : Nat) : Int) < d then n + 5 else d.toNat
theorem deedsT_ok (n : Nat) (d : Int) : (d < 0 ∨ ((n + 5 : Nat) : Int) < d) ∧ deedsT n d = n + 5 ∨ (d = (deedsT n d : Int) ∧ deedsT n d ≤ n + 5) := by
  unfold deedsT
  by_cases h : d < 0 ∨ ((n + 5 : Nat) : Int) < d
  · rw [if_pos h]; exact .inl ⟨h, rfl⟩
  · rw [if_neg h]; exact .inr ⟨by omega, by omega⟩
theorem deedsT_le (n : Nat) (d : Int) : deedsT n d ≤ n + 5 := by
  rcases deedsT_ok n d with ⟨_, h⟩ | ⟨_, h⟩ <;> omega
theorem settle_none (S : List ByteArray) (F : Nat → Int) : settleS S [] F 0 = S := rfl
theorem fateL_le {l : List Int} (h : IntR l) : ∀ x ∈ l, x ≤ 9223372036854775807 := fun x hx => (h x hx).2
/-- the disk behind a store and a crash -/
def crS (K : Nat → Nat) (S : List ByteArray) (n a g : Nat) (Bl : List ByteArray) (t : Nat) (l : List Int) : List ByteArray := settleS (stoD K S n a g Bl t).1 (stoD K S n a g Bl t).2 (fateL l) (stoD K S n a g Bl t).2.length
end Go.Proofs.YtlnilfcjcoclhaaGreatDoor
/- Package keyholetop: step. -/
namespace Go.Proofs.YtlnilfcjcoclhaaGreatDoor
open Go.RowKit Go.Shelf
attribute [local go_sem] Oper.semAt_some

/-- what a region keeps: five cells -/
abbrev Sf5 (w0 : World) (a1 a2 a3 a4 a5 : Addr) (v1 v2 v3 v4 v5 : Value) (w' : World) : Prop := w'.cell? a1 = some v1 ∧ w'.cell? a2 = some v2 ∧ w'.cell? a3 = some v3 ∧ w'.cell? a4 = some v4 ∧ w'.cell? a5 = some v5 ∧ Below w0.heap.size w0 w'
theorem sf5_of {w0 w' : World} {a1 a2 a3 a4 a5 : Addr} {v1 v2 v3 v4 v5 : Value} (k1 : w0.cell? a1 = some v1) (k2 : w0.cell? a2 = some v2) (k3 : w0.cell? a3 = some v3) (k4 : w0.cell? a4 = some v4) (k5 : w0.cell? a5 = some v5) (hb : Below w0.heap.size w0 w') : Sf5 w0 a1 a2 a3 a4 a5 v1 v2 v3 v4 v5 w' :=
  ⟨(hb.cell (World.block_lt_of_cell? _ _ k1)).trans k1, (hb.cell (World.block_lt_of_cell? _ _ k2)).trans k2, (hb.cell (World.block_lt_of_cell? _ _ k3)).trans k3, (hb.cell (World.block_lt_of_cell? _ _ k4)).trans k4, (hb.cell (World.block_lt_of_cell? _ _ k5)).trans k5, hb⟩
theorem sf5_b {w0 w' : World} {a1 a2 a3 a4 a5 : Addr} {v1 v2 v3 v4 v5 : Value} (hs : Sf5 w0 a1 a2 a3 a4 a5 v1 v2 v3 v4 v5 w') : Below w0.heap.size w0 w' := hs.2.2.2.2.2
abbrev Sf3 (w0 : World) (a1 a2 a3 : Addr) (v1 v2 v3 : Value) (w' : World) : Prop := w'.cell? a1 = some v1 ∧ w'.cell? a2 = some v2 ∧ w'.cell? a3 = some v3 ∧ Below w0.heap.size w0 w'
theorem sf3_of {w0 w' : World} {a1 a2 a3 : Addr} {v1 v2 v3 : Value} (k1 : w0.cell? a1 = some v1) (k2 : w0.cell? a2 = some v2) (k3 : w0.cell? a3 = some v3) (hb : Below w0.heap.size w0 w') : Sf3 w0 a1 a2 a3 v1 v2 v3 w' :=
  ⟨(hb.cell (World.block_lt_of_cell? _ _ k1)).trans k1, (hb.cell (World.block_lt_of_cell? _ _ k2)).trans k2, (hb.cell (World.block_lt_of_cell? _ _ k3)).trans k3, hb⟩
theorem sf3_b {w0 w' : World} {a1 a2 a3 : Addr} {v1 v2 v3 : Value} (hs : Sf3 w0 a1 a2 a3 v1 v2 v3 w') : Below w0.heap.size w0 w' := hs.2.2.2
theorem ws1 {w5 w9 : World} {lo' : Nat} {v1 v2 : Value} {S : List ByteArray} {C : List (Int × ByteArray)} (hP : PlIn w9 lo' (.agg #[v1, v2]) S C) (hlo : w5.heap.size ≤ lo') (hB : Below w5.heap.size w5 w9) :
    KH.Blk (w9.alloc (.cells #[v1, v2] 35)) w9.heap.size 35 #[v1, v2] ∧ PlIn (w9.alloc (.cells #[v1, v2] 35)) w5.heap.size (.agg #[v1, v2]) S C ∧ Below w5.heap.size w5 (w9.alloc (.cells #[v1, v2] 35)) :=
  ⟨KH.Blk.new _ _ _, (hP.below ((Below.refl _ _).alloc (Nat.le_refl _) _)).mono hlo, hB.alloc hB.size _⟩
theorem ws2 {w5 w9 : World} {g lo' : Nat} {v1 v2 x y : Value} {S : List ByteArray} {C : List (Int × ByteArray)} (hP : PlIn w9 lo' (.agg #[v1, v2]) S C) (hlo : w5.heap.size ≤ lo') (hB : Below w5.heap.size w5 w9) (kA : KH.Blk w9 g 35 #[x, y]) (hg : w5.heap.size ≤ g) (hl : g < lo') :
    KH.Blk ((w9.setCell ⟨g, 0, none⟩ v1).setCell ⟨g, 1, none⟩ v2) g 35 #[v1, v2] ∧ PlIn ((w9.setCell ⟨g, 0, none⟩ v1).setCell ⟨g, 1, none⟩ v2) w5.heap.size (.agg #[v1, v2]) S C ∧ Below w5.heap.size w5 ((w9.setCell ⟨g, 0, none⟩ v1).setCell ⟨g, 1, none⟩ v2) := by
  refine ⟨?_, ((hP.setLow (p := ⟨g, 0, none⟩) hl v1).setLow (p := ⟨g, 1, none⟩) hl v2).mono hlo, (hB.setCell (p := ⟨g, 0, none⟩) hg _).setCell (p := ⟨g, 1, none⟩) hg _⟩
  have := (kA.set_ 0 v1).set_ 1 v2
  simpa using this
set_option maxHeartbeats 4000000 in
set_option maxRecDepth 100000 in
theorem step_any (K : Nat → Nat) {w : World} {base h : Nat} {S Sn : List ByteArray} {N j : Nat} {key : ByteArray} {said dr : List ByteArray} {x : HsV} (H : House w base h 0 0 S Sn N (16 * j) key said dr x) {n g a : Nat} {Bl : List ByteArray} (hV : VaS K S n g a Bl) (hg : g < 150)
    (hG : WrG key n Bl said Sn N j dr) (hkey : key.size = 32) (hj : j + 6 < 60) {s : Stp} (hs : s.Ok w base) (h1 : s.n1 ≤ 6) (h2 : s.n2 ≤ 6)
    (hK : RoundsAt K w) (hT : TurnsAt w) (hP : PowAt w) (g0 : 0 < base) (g1 : 1 < base) (g2 : 2 < base) :
    Calls Tryz.prog 7 #[.pointer (some ⟨h, 0, none⟩), .agg s.cells] w fun e w' => e = .returned (.bool true) ∧ ∃ S' Sn' N' j' g' a' Bl' said' dr' x', House w' base h 0 0 S' Sn' N' (16 * j') key said' dr' x' ∧ VaS K S' n g' a' Bl' ∧ g' ≤ g + 1 ∧
      WrG key n Bl' said' Sn' N' j' dr' ∧ j' ≤ j + 6 ∧ Below base w w' := by
  have hn := hV.cnt
  have hbh := H.hb
  have hhw := H.blk.lt
  have hb1 := (Below.refl w.heap.size w).alloc (Nat.le_refl _) (.cells s.cells 32)
  have k3 := KH.Blk.new w 32 s.cells
  have H1 := H.below hb1
  have hz1 := hb1.size
  have f0 := H1.blk.cell 0
  have f1 := H1.blk.cell 1
  simp only [hsC, List.getElem?_toArray, List.getElem?_cons_zero, List.getElem?_cons_succ] at f0 f1
  have hw0 : w.heap.size < (w.alloc (.cells s.cells 32)).heap.size := by simp
  have HL := KH.hid (vload_any K H1.pl (hV.vaOk (by omega)) (rounds_below hK hb1 (by omega)))
  have HX := KH.hid (And.intro hV (And.intro hG (And.intro hs (And.intro hK (And.intro hT hP)))))
  have H0 := KH.hid H
  obtain ⟨p3, hp3⟩ : ∃ q, q = w.heap.size := ⟨_, rfl⟩
  clear hV hG hs hK hT hP H
  unfold Stp.cells at hb1 k3 H1 f0 f1 HL hw0 ⊢
  go_enter Tryz.func7, Tryz.ntmps7
  go_wp2_with fail
  obtain ⟨w1, hw1⟩ : ∃ W, W = w.alloc (.cells #[.slice s.A1 s.n1 s.c1, .slice s.A2 s.n2 s.c2, .int .i64 s.d, .slice s.A3 s.n3 s.c3, .slice s.A4 s.n4 s.c4] 32) := ⟨_, rfl⟩
  rw [← hw1] at hb1 k3 H1 f0 f1 HL hw0
  rw [← hp3] at k3 hw0
  rw [← hw1, ← hp3]
  have HE := KH.hid hp3
  have hpw : w.heap.size ≤ p3 := by omega
  clear hw1 hp3
  refine HL.out.mono ?_; rintro e w2 ⟨A7, c7, rfl, hV2, hl2, hb2⟩
  obtain ⟨rv, hrv⟩ : ∃ q, q = rootV K Bl := ⟨_, rfl⟩
  rw [← hrv] at hV2
  rw [← hrv]
  have HRV := KH.hid hrv
  clear hrv f0 f1 HL
  have hB2 := hb1.trans (hb2.mono hb1.size)
  have k32 := k3.below hb2 k3.lt
  have H2 := H1.below hb2
  have v3 := KH.Blk.new w2 48 #[.slice A7 n c7, .string rv]
  have hb23 : Below w2.heap.size w2 (w2.alloc (.cells #[.slice A7 n c7, .string rv] 48)) := (Below.refl w2.heap.size w2).alloc (Nat.le_refl _) _
  have k33 := k32.below hb23 k32.lt
  have H3 := H2.below hb23
  have hV3 := hV2.below hb23
  have hB3 := hB2.trans (hb23.mono hB2.size)
  clear k3 H1 k32 H2 hV2 hB2 hb1
  go_upto_region 2 with fail
  obtain ⟨g3, hg3⟩ : ∃ q, q = w2.heap.size := ⟨_, rfl⟩
  obtain ⟨w3, hw3⟩ : ∃ W, W = w2.alloc (.cells #[.slice A7 n c7, .string rv] 48) := ⟨_, rfl⟩
  rw [← hw3] at v3 k33 H3 hV3 hB3
  rw [← hg3] at v3
  rw [← hw3, ← hg3]
  clear hw3 hg3 hb23 hb2
  have e0 : w3.cell? ⟨g3, 0, none⟩ = some (.slice A7 n c7) := v3.cell 0
  have e1 : w3.cell? ⟨g3, 1, none⟩ = some (.string rv) := v3.cell 1
  have e2 : w3.cell? ⟨p3, 0, none⟩ = some (.slice s.A1 s.n1 s.c1) := k33.cell 0
  have e3 : w3.cell? ⟨p3, 1, none⟩ = some (.slice s.A2 s.n2 s.c2) := k33.cell 1
  have e4 : w3.cell? ⟨p3, 2, none⟩ = some (.int .i64 s.d) := k33.cell 2
  have e5 : w3.cell? ⟨p3, 3, none⟩ = some (.slice s.A3 s.n3 s.c3) := k33.cell 3
  have e6 : w3.cell? ⟨p3, 4, none⟩ = some (.slice s.A4 s.n4 s.c4) := k33.cell 4
  have hz3 := hB3.size
  have hzb : base ≤ w.heap.size := by omega
  have hrow : RowN w3 (HQ h 0 0 x.A6) A7 n Bl := by
    obtain ⟨A, c, q1, q2⟩ := hV3
    rw [HX.out.1.len] at q1 q2
    injection q1 with q1; injection q1 with q1; injection q1 with q1 _; injection q1 with q1 _ _
    subst q1
    exact RowN.of_reads q2 fun ad e _ => ⟨by have := hl2 ad e; omega, fun ad' e' q => by have r1 := (H0.out.d.lt ad'.block (by rw [e']; rfl)).2; have := hl2 ad e; omega, .inr (Nat.zero_le _)⟩
  have HWr := KH.hid (writes_any K (c4 := c7) H3 hrow hn HX.out.2.1 hkey hj (HX.out.2.2.1.below (hB3.mono hzb) (Nat.le_refl _)) h1 h2 (rounds_below HX.out.2.2.2.1 hB3 (by omega)) (turns_below HX.out.2.2.2.2.1 hB3 (by omega)) (HX.out.2.2.2.2.2.below hB3 (by omega)) g0 g1 g2)
  rw [← HRV.out] at HWr
  unfold Stp.cells at HWr
  clear hV3 hrow
  go_wp2_with fail
  refine HWr.out.mono ?_; rintro e w4 ⟨A4', c4', A9, c9, Bl', T', Sn', N', j', dr', x', rfl, H4, ht4, hv4, hG4, hj4, hb4, hfr⟩
  have k34 : KH.Blk w4 p3 32 s.cells := (hfr p3 k33.lt (by omega) (fun ad e q => by have r1 := (H0.out.d.lt ad.block (by rw [e]; rfl)).2; omega)).trans k33
  have hW4 : StS w w4 base h p3 s S Sn' N' (16 * j') key said dr' x' n A9 T' := ⟨H4, ht4, k34, (hB3.mono hzb).trans hb4⟩
  have hvl4 : VlIn w4 (.agg #[.slice A4' n c4', .string (rootV K Bl')]) Bl' (rootV K Bl') := by
    rw [← hG4.bl]
    refine ⟨A4', c4', rfl, ?_⟩
    have := hv4.reads
    rw [← hG4.bl] at this
    exact this
  obtain ⟨rv', hrv'⟩ : ∃ q, q = rootV K Bl' := ⟨_, rfl⟩
  rw [← hrv'] at hvl4
  rw [← hrv']
  have HRV' := KH.hid hrv'
  have HG4 := KH.hid hG4
  have hb45 : Below w4.heap.size w4 (w4.alloc (.cells #[.slice A4' n c4', .string rv'] 48)) := (Below.refl w4.heap.size w4).alloc (Nat.le_refl _) _
  have k8 := KH.Blk.new w4 48 #[.slice A4' n c4', .string rv']
  have hW5 := hW4.below hb45
  have hvl5 := hvl4.below hb45
  clear HWr e0 e1 e2 e3 e4 e5 e6 v3 k33 H3 hB3 hl2 hrv' k34 H4 ht4 hv4 hb4 hfr hG4 hW4 hvl4
  go_upto_region 3 with fail
  obtain ⟨g8, hg8⟩ : ∃ q, q = w4.heap.size := ⟨_, rfl⟩
  obtain ⟨w5, hw5⟩ : ∃ W, W = w4.alloc (.cells #[.slice A4' n c4', .string rv'] 48) := ⟨_, rfl⟩
  rw [← hw5] at k8 hW5 hvl5
  rw [← hg8] at k8
  rw [← hw5, ← hg8]
  clear hw5 hg8 hb45
  have q0 := hW5.H.blk.cell 0
  have q1 := hW5.H.blk.cell 1
  simp only [hsC, List.getElem?_toArray, List.getElem?_cons_zero, List.getElem?_cons_succ] at q0 q1
  have q2 : w5.cell? ⟨g8, 0, none⟩ = some (.slice A4' n c4') := k8.cell 0
  have q3 : w5.cell? ⟨g8, 1, none⟩ = some (.string rv') := k8.cell 1
  have q4 : w5.cell? ⟨p3, 2, none⟩ = some (.int .i64 s.d) := hW5.k.cell 2
  obtain ⟨t, ht⟩ : ∃ t, t = deedsT n s.d := ⟨_, rfl⟩
  have htl : t ≤ n + 5 := by rw [ht]; exact deedsT_le _ _
  obtain ⟨D1, hD1⟩ : ∃ D, D = (stoD K S n a g Bl' t).1 := ⟨_, rfl⟩
  obtain ⟨D2, hD2⟩ : ∃ D, D = (stoD K S n a g Bl' t).2 := ⟨_, rfl⟩
  obtain ⟨dn, hdn⟩ : ∃ d, d = decide (t = n + 5) := ⟨_, rfl⟩
  have hbs5 := hW5.bs
  have HSt : Hid (∀ W, Below w5.heap.size w5 W → Calls Tryz.prog 15 #[.agg #[.slice x'.A1 S.length x'.c1, .slice x'.A2 0 x'.c2], .agg #[.slice A4' n c4', .string rv'], .int .i64 s.d] W fun e w' => ∃ A1 c1 A2 c2, ∃ l1 l2 : Nat, e = .returned (.tuple #[.agg #[.slice A1 l1 c1, .slice A2 l2 c2], .bool dn, .int .i64 0]) ∧ PlIn w' W.heap.size (.agg #[.slice A1 l1 c1, .slice A2 l2 c2]) D1 D2 ∧ Below W.heap.size W w') := fun W hb => by
    have hu := hvl5.below hb
    rw [HRV'.out] at hu ⊢
    refine (store_any K (t := t) (hW5.H.pl.below hb) (HX.out.1.vaOk (by omega)) HX.out.1.head.mk hu HG4.out.bl HG4.out.sz (rounds_below HX.out.2.2.2.1 (hW5.b.trans (hb.mono hbs5)) g1) (by rw [ht]; exact deedsT_ok n s.d)).mono ?_
    rintro e w' ⟨v', rfl, r1, r2⟩
    rw [← hD1, ← hD2] at r1
    rw [← hdn]
    have r3 := r1
    obtain ⟨A1, c1, A2, c2, rfl, -, -, -, -⟩ := r1
    exact ⟨A1, c1, A2, c2, _, _, rfl, r3, r2⟩
  have HD := KH.hid (And.intro hD1 (And.intro hD2 (And.intro hdn htl)))
  have HW5 := KH.hid hW5
  clear hvl5 hW5 hD1 hD2 hdn htl ht k8
  go_cut [11, 12, 13] from 38 to 48 (fun p d e wx => ∃ g11 A1 c1 A2 c2, ∃ l1 l2 : Nat, p = .pointer (some ⟨g11, 0, none⟩) ∧ d = .bool dn ∧ e = .int .i64 0 ∧ KH.Blk wx g11 35 #[.slice A1 l1 c1, .slice A2 l2 c2] ∧ PlIn wx w5.heap.size (.agg #[.slice A1 l1 c1, .slice A2 l2 c2]) D1 D2 ∧ Below w5.heap.size w5 wx)
  case first =>
    go_region_held3 (fun w' => w'.cell? ⟨h, 0, none⟩ = some (.slice x'.A1 S.length x'.c1) ∧ w'.cell? ⟨h, 1, none⟩ = some (.slice x'.A2 0 x'.c2) ∧ w'.cell? ⟨g8, 0, none⟩ = some (.slice A4' n c4') ∧ w'.cell? ⟨g8, 1, none⟩ = some (.string rv') ∧ w'.cell? ⟨p3, 2, none⟩ = some (.int .i64 s.d) ∧ Below w5.heap.size w5 w')
      (first | exact sf5_of q0 q1 q2 q3 q4 (Below.refl w5.heap.size w5).drew | (refine sf5_of q0 q1 q2 q3 q4 ?_; (repeat' first | exact (Below.refl w5.heap.size w5).drew | exact Below.refl w5.heap.size w5 | exact hB9 | (with_reducible refine Below.drew ?_) | (with_reducible refine Below.setCell ?_ ?_ _) | (with_reducible refine Below.alloc ?_ ?_ _) | exact Nat.le_refl _ | (show w5.heap.size ≤ _; omega) | (simp <;> omega)); done))
      (first | (go_at_call 15; refine (HSt.out _ (sf5_b (w0 := w5) (a1 := ⟨h, 0, none⟩) (a2 := ⟨h, 1, none⟩) (a3 := ⟨g8, 0, none⟩) (a4 := ⟨g8, 1, none⟩) (a5 := ⟨p3, 2, none⟩) (v1 := .slice x'.A1 S.length x'.c1) (v2 := .slice x'.A2 0 x'.c2) (v3 := .slice A4' n c4') (v4 := .string rv') (v5 := .int .i64 s.d) (by assumption))).mono ?_; rintro e w9 ⟨A1, c1, A2, c2, l1, l2, rfl, hP9, hb9⟩; have hB9 := (sf5_b (w0 := w5) (a1 := ⟨h, 0, none⟩) (a2 := ⟨h, 1, none⟩) (a3 := ⟨g8, 0, none⟩) (a4 := ⟨g8, 1, none⟩) (a5 := ⟨p3, 2, none⟩) (v1 := .slice x'.A1 S.length x'.c1) (v2 := .slice x'.A2 0 x'.c2) (v3 := .slice A4' n c4') (v4 := .string rv') (v5 := .int .i64 s.d) (by assumption)).trans (hb9.mono (sf5_b (w0 := w5) (a1 := ⟨h, 0, none⟩) (a2 := ⟨h, 1, none⟩) (a3 := ⟨g8, 0, none⟩) (a4 := ⟨g8, 1, none⟩) (a5 := ⟨p3, 2, none⟩) (v1 := .slice x'.A1 S.length x'.c1) (v2 := .slice x'.A2 0 x'.c2) (v3 := .slice A4' n c4') (v4 := .string rv') (v5 := .int .i64 s.d) (by assumption)).size); have hs9 := hB9.size; try (have kA := blk_newdrew hb9; have a0 := kA.cell 0; have a1 := kA.cell 1; have b0 := kA.frozen 0; have b1 := kA.frozen 1; simp only [List.getElem?_toArray, List.getElem?_cons_zero, List.getElem?_cons_succ] at a0 a1)))
    all_goals
      go_wp2_with fail
      go_meet
      first
        | (obtain ⟨r1, r2, r3⟩ := ws1 (w5 := w5) hP9 (by simp) hB9; with_reducible exact ⟨_, A1, c1, A2, c2, l1, l2, rfl, rfl, rfl, r1, r2, r3⟩)
        | (obtain ⟨r1, r2, r3⟩ := ws2 (w5 := w5) hP9 (by simp) hB9 kA (by omega) (by simp); with_reducible exact ⟨_, A1, c1, A2, c2, l1, l2, rfl, rfl, rfl, r1, r2, r3⟩)
  case rest =>
    obtain ⟨g11, A1, c1, A2, c2, l1, l2, rfl, rfl, rfl, k11, hP6, hb56⟩ := hcut
    have hW6 := HW5.out.below hb56
    have y0 : wc.cell? ⟨g11, 0, none⟩ = some (.slice A1 l1 c1) := k11.cell 0
    have y1 : wc.cell? ⟨g11, 1, none⟩ = some (.slice A2 l2 c2) := k11.cell 1
    have y2 : wc.cell? ⟨p3, 3, none⟩ = some (.slice s.A3 s.n3 s.c3) := hW6.k.cell 3
    have hOk := HX.out.2.2.1.below hW6.b hW6.bs
    have hpk : pOk D1 D2 := by rw [HD.out.1, HD.out.2.1]; exact (sto_ok (K := K) HX.out.1 HG4.out.bl HG4.out.sz HD.out.2.2.2).1
    have HC1 := KH.hid (crash_any (c := s.c3) hP6 hpk hOk.h3 hOk.m3 (fateL_le hOk.r3))
    obtain ⟨Sq, hSq⟩ : ∃ q, q = settleS D1 D2 (fateL s.fa) D2.length := ⟨_, rfl⟩
    rw [← hSq] at HC1
    have HCr : Hid ((VaS K Sq n g a Bl ∧ t ≠ n + 5) ∨ VaS K Sq n (g + 1) (1 - a) Bl') := KH.hid (by
      rw [hSq, HD.out.1, HD.out.2.1]
      exact store_crash HX.out.1 HG4.out.bl HG4.out.sz HD.out.2.2.2 (fateL s.fa))
    have HW6 := KH.hid hW6
    clear hW6 hOk hpk hSq k11 hP6 hb56 HSt q0 q1 q2 q3 q4
    go_wp2_with fail
    refine HC1.out.mono ?_; rintro e w7 ⟨v7, rfl, hP7, hb7⟩
    have hP7' := hP7
    obtain ⟨B1, b1, B2, b2, rfl, hl7, hr7⟩ := hP7'.form
    have hb78 : Below w7.heap.size w7 (w7.alloc (.cells #[.slice B1 Sq.length b1, .slice B2 0 b2] 35)) := (Below.refl w7.heap.size w7).alloc (Nat.le_refl _) _
    have k14 := KH.Blk.new w7 35 #[.slice B1 Sq.length b1, .slice B2 0 b2]
    have hW8 := (HW6.out.below hb7).below hb78
    have hr8 : RowN (w7.alloc (.cells #[.slice B1 Sq.length b1, .slice B2 0 b2] 35)) (HQ h 0 0 x'.A6) B1 Sq.length Sq :=
      (RowN.of_reads hr7 fun ad e _ => HW6.out.newq (hl7 ad e)).below hb78
    clear HC1 y0 y1 y2 hP7 hP7' hb7
    go_upto_region 7 with fail
    obtain ⟨g14, hg14⟩ : ∃ q, q = w7.heap.size := ⟨_, rfl⟩
    obtain ⟨w8, hw8⟩ : ∃ W, W = w7.alloc (.cells #[.slice B1 Sq.length b1, .slice B2 0 b2] 35) := ⟨_, rfl⟩
    rw [← hw8] at k14 hW8 hr8
    rw [← hg14] at k14
    rw [← hw8, ← hg14]
    clear hw8 hg14 hb78 hr7 hl7
    have y0 : w8.cell? ⟨g14, 0, none⟩ = some (.slice B1 Sq.length b1) := k14.cell 0
    have y1 : w8.cell? ⟨g14, 1, none⟩ = some (.slice B2 0 b2) := k14.cell 1
    have y2 := hW8.H.blk.cell 0
    have y3 := hW8.H.blk.cell 1
    have y4 := hW8.H.blk.frozen 0
    have y5 := hW8.H.blk.frozen 1
    simp only [hsC, List.getElem?_toArray, List.getElem?_cons_zero, List.getElem?_cons_succ] at y2 y3
    have HW9 := KH.hid (hW8.setP (c1 := b1) (A2 := B2) (c2 := b2) hr8)
    clear hW8 hr8 k14 HW6 HW5
    go_upto_region 8 with fail
    obtain ⟨x2, HWa⟩ : ∃ x2, Hid (StS w ((w8.setCell ⟨h, 0, none⟩ (.slice B1 Sq.length b1)).setCell ⟨h, 1, none⟩ (.slice B2 0 b2)) base h p3 s Sq Sn' N' (16 * j') key said dr' x2 n A9 T') := ⟨_, HW9⟩
    obtain ⟨wa, hwa⟩ : ∃ W, W = (w8.setCell ⟨h, 0, none⟩ (.slice B1 Sq.length b1)).setCell ⟨h, 1, none⟩ (.slice B2 0 b2) := ⟨_, rfl⟩
    rw [← hwa] at HWa
    rw [← hwa]
    clear hwa HW9 y0 y1 y2 y3 y4 y5
    have q4 : wa.cell? ⟨p3, 4, none⟩ = some (.slice s.A4 s.n4 s.c4) := HWa.out.k.cell 4
    by_cases hn4 : 0 < s.n4
    · have dn4 : decide ((0 : Int) < (s.n4 : Int)) = true := by rw [decide_eq_true_iff]; omega
      have q2 := HWa.out.H.blk.cell 2
      have q3 := HWa.out.H.blk.cell 3
      simp only [hsC, List.getElem?_toArray, List.getElem?_cons_zero, List.getElem?_cons_succ] at q2 q3
      have hbsa := HWa.out.bs
      have HC2 : Hid (∀ W, Below wa.heap.size wa W → Calls Tryz.prog 18 #[.agg #[.slice x2.A3 Sn'.length x2.c3, .slice x2.A4 0 x2.c4], .slice s.A4 s.n4 s.c4] W fun e w' => ∃ B3 b3 B4 b4, e = .returned (.tuple #[.agg #[.slice B3 Sn'.length b3, .slice B4 0 b4], .int .i64 0]) ∧ PlIn w' W.heap.size (.agg #[.slice B3 Sn'.length b3, .slice B4 0 b4]) Sn' [] ∧ Below W.heap.size W w') := fun W hb => by
        have hOk := HX.out.2.2.1.below (HWa.out.b.trans (hb.mono hbsa)) (show base ≤ W.heap.size by have := hb.size; omega)
        refine (crash_any (c := s.c4) (HWa.out.H.pn.below hb) HG4.out.no.1 hOk.h4 hOk.m4 (fateL_le hOk.r4)).mono ?_
        rintro e w' ⟨v', rfl, r1, r2⟩
        have r1' : PlIn w' W.heap.size v' Sn' [] := r1
        obtain ⟨B3, b3, B4, b4, rfl, -, -⟩ := r1'.form
        exact ⟨B3, b3, B4, b4, rfl, r1', r2⟩
      go_upto_region 9 with fail
      go_cut [16, 17] from 74 to 83 (fun p e wx => ∃ g16 B3 b3 B4 b4, p = .pointer (some ⟨g16, 0, none⟩) ∧ e = .int .i64 0 ∧ KH.Blk wx g16 35 #[.slice B3 Sn'.length b3, .slice B4 0 b4] ∧ PlIn wx wa.heap.size (.agg #[.slice B3 Sn'.length b3, .slice B4 0 b4]) Sn' [] ∧ Below wa.heap.size wa wx)
      case first =>
        go_region_held3 (fun w' => w'.cell? ⟨h, 2, none⟩ = some (.slice x2.A3 Sn'.length x2.c3) ∧ w'.cell? ⟨h, 3, none⟩ = some (.slice x2.A4 0 x2.c4) ∧ w'.cell? ⟨p3, 4, none⟩ = some (.slice s.A4 s.n4 s.c4) ∧ Below wa.heap.size wa w')
          (first | exact sf3_of q2 q3 q4 (Below.refl wa.heap.size wa).drew | (refine sf3_of q2 q3 q4 ?_; (repeat' first | exact (Below.refl wa.heap.size wa).drew | exact Below.refl wa.heap.size wa | exact hB9 | (with_reducible refine Below.drew ?_) | (with_reducible refine Below.setCell ?_ ?_ _) | (with_reducible refine Below.alloc ?_ ?_ _) | exact Nat.le_refl _ | (show wa.heap.size ≤ _; omega) | (simp <;> omega)); done))
          (first | (go_at_call 18; refine (HC2.out _ (sf3_b (w0 := wa) (a1 := ⟨h, 2, none⟩) (a2 := ⟨h, 3, none⟩) (a3 := ⟨p3, 4, none⟩) (v1 := .slice x2.A3 Sn'.length x2.c3) (v2 := .slice x2.A4 0 x2.c4) (v3 := .slice s.A4 s.n4 s.c4) (by assumption))).mono ?_; rintro e w9 ⟨B3, b3, B4, b4, rfl, hP9, hb9⟩; have hB9 := (sf3_b (w0 := wa) (a1 := ⟨h, 2, none⟩) (a2 := ⟨h, 3, none⟩) (a3 := ⟨p3, 4, none⟩) (v1 := .slice x2.A3 Sn'.length x2.c3) (v2 := .slice x2.A4 0 x2.c4) (v3 := .slice s.A4 s.n4 s.c4) (by assumption)).trans (hb9.mono (sf3_b (w0 := wa) (a1 := ⟨h, 2, none⟩) (a2 := ⟨h, 3, none⟩) (a3 := ⟨p3, 4, none⟩) (v1 := .slice x2.A3 Sn'.length x2.c3) (v2 := .slice x2.A4 0 x2.c4) (v3 := .slice s.A4 s.n4 s.c4) (by assumption)).size); have hs9 := hB9.size; try (have kA := blk_newdrew hb9; have a0 := kA.cell 0; have a1 := kA.cell 1; have b0 := kA.frozen 0; have b1 := kA.frozen 1; simp only [List.getElem?_toArray, List.getElem?_cons_zero, List.getElem?_cons_succ] at a0 a1)))
        all_goals
          go_wp2_with fail
          go_meet
          first
            | (obtain ⟨r1, r2, r3⟩ := ws1 (w5 := wa) hP9 (by simp) hB9; with_reducible exact ⟨_, B3, b3, B4, b4, rfl, rfl, r1, r2, r3⟩)
            | (obtain ⟨r1, r2, r3⟩ := ws2 (w5 := wa) hP9 (by simp) hB9 kA (by omega) (by simp); with_reducible exact ⟨_, B3, b3, B4, b4, rfl, rfl, r1, r2, r3⟩)
      case rest =>
        obtain ⟨g16, B3, b3, B4, b4, rfl, rfl, k16, hP10, hb10⟩ := hcut
        have y0 : wc.cell? ⟨g16, 0, none⟩ = some (.slice B3 Sn'.length b3) := k16.cell 0
        have y1 : wc.cell? ⟨g16, 1, none⟩ = some (.slice B4 0 b4) := k16.cell 1
        have hW10 := HWa.out.below hb10
        have hr10 : RowN wc (HQ h 0 0 x2.A6) B3 Sn'.length Sn' := hP10.row fun b q _ => HWa.out.newq q
        have HNo := KH.hid (nopen_any hP10 HG4.out.no (by omega))
        obtain ⟨L2, hL2⟩ : ∃ q, q = 16 * j' := ⟨_, rfl⟩
        rw [← hL2] at HNo
        have HL2 := KH.hid hL2
        clear hL2 HC2 q2 q3 q4 hP10 hb10
        go_wp2_with fail
        refine HNo.out.mono ?_; rintro e w11 ⟨rfl, hb11⟩
        have hba : Below w11.heap.size w11 (w11.alloc (.cells #[.int .i64 0, .int .i64 L2, .int .i64 L2] 37)) := (Below.refl w11.heap.size w11).alloc (Nat.le_refl _) _
        have k18 := KH.Blk.new w11 37 #[.int .i64 0, .int .i64 L2, .int .i64 L2]
        have k17 := (k16.below hb11 k16.lt).below hba (k16.below hb11 k16.lt).lt
        have hW12 := (hW10.below hb11).below hba
        have hr12 := (hr10.below hb11).below hba
        clear HNo y0 y1 k16 hW10 hr10 hb11
        go_upto_region 13 with fail
        obtain ⟨g18, hg18⟩ : ∃ q, q = w11.heap.size := ⟨_, rfl⟩
        obtain ⟨w12, hw12⟩ : ∃ W, W = w11.alloc (.cells #[.int .i64 0, .int .i64 L2, .int .i64 L2] 37) := ⟨_, rfl⟩
        rw [← hw12] at k18 k17 hW12 hr12
        rw [← hg18] at k18
        rw [← hw12, ← hg18]
        clear hw12 hg18 hba
        have y0 : w12.cell? ⟨g16, 0, none⟩ = some (.slice B3 Sn'.length b3) := k17.cell 0
        have y1 : w12.cell? ⟨g16, 1, none⟩ = some (.slice B4 0 b4) := k17.cell 1
        have y2 := hW12.H.blk.cell 2
        have y3 := hW12.H.blk.cell 3
        have y4 := hW12.H.blk.frozen 2
        have y5 := hW12.H.blk.frozen 3
        simp only [hsC, List.getElem?_toArray, List.getElem?_cons_zero, List.getElem?_cons_succ] at y2 y3
        have n18 : h ≠ g18 := hW12.H.blk.ne_ k18 (by decide)
        have HWb := KH.hid (And.intro (hW12.setN (c3 := b3) (A4 := B4) (c4 := b4) hr12) ((k18.far (p := ⟨h, 2, none⟩) n18.symm (.slice B3 Sn'.length b3)).far (p := ⟨h, 3, none⟩) n18.symm (.slice B4 0 b4)))
        clear hW12 hr12 k17 k18
        go_upto_region 14 with fail
        obtain ⟨x3, HWc⟩ : ∃ x3, Hid (StS w ((w12.setCell ⟨h, 2, none⟩ (.slice B3 Sn'.length b3)).setCell ⟨h, 3, none⟩ (.slice B4 0 b4)) base h p3 s Sq Sn' N' (16 * j') key said dr' x3 n A9 T' ∧ KH.Blk ((w12.setCell ⟨h, 2, none⟩ (.slice B3 Sn'.length b3)).setCell ⟨h, 3, none⟩ (.slice B4 0 b4)) g18 37 #[.int .i64 0, .int .i64 L2, .int .i64 L2]) := ⟨_, HWb⟩
        obtain ⟨w13, hw13⟩ : ∃ W, W = (w12.setCell ⟨h, 2, none⟩ (.slice B3 Sn'.length b3)).setCell ⟨h, 3, none⟩ (.slice B4 0 b4) := ⟨_, rfl⟩
        rw [← hw13] at HWc
        rw [← hw13]
        clear hw13 HWb y0 y1 y2 y3 y4 y5
        have y0 : w13.cell? ⟨g18, 0, none⟩ = some (.int .i64 0) := HWc.out.2.cell 0
        have y1 : w13.cell? ⟨g18, 1, none⟩ = some (.int .i64 L2) := HWc.out.2.cell 1
        have y2 : w13.cell? ⟨g18, 2, none⟩ = some (.int .i64 L2) := HWc.out.2.cell 2
        have y4 := HWc.out.1.H.blk.cell 4
        have y5 := HWc.out.1.H.blk.cell 5
        have y6 := HWc.out.1.H.blk.cell 6
        have y7 := HWc.out.1.H.blk.frozen 4
        have y8 := HWc.out.1.H.blk.frozen 5
        have y9 := HWc.out.1.H.blk.frozen 6
        simp only [hsC, List.getElem?_toArray, List.getElem?_cons_zero, List.getElem?_cons_succ] at y4 y5 y6
        have HWd := KH.hid (HWc.out.1.setS L2 L2)
        clear HWc
        go_upto_region 15 with fail
        have HWe : Hid (StS w (((w13.setCell ⟨h, 4, none⟩ (.int .i64 0)).setCell ⟨h, 5, none⟩ (.int .i64 L2)).setCell ⟨h, 6, none⟩ (.int .i64 L2)) base h p3 s Sq Sn' L2 (16 * j') key said dr' x3 n A9 T') := by
          have := HWd.out
          rw [← HL2.out]
          exact this
        obtain ⟨wa', hwa⟩ : ∃ W, W = ((w13.setCell ⟨h, 4, none⟩ (.int .i64 0)).setCell ⟨h, 5, none⟩ (.int .i64 L2)).setCell ⟨h, 6, none⟩ (.int .i64 L2) := ⟨_, rfl⟩
        rw [← hwa] at HWe
        rw [← hwa]
        clear hwa HWd y0 y1 y2 y4 y5 y6 y7 y8 y9
        have hN2 : L2 ≤ 16 * j' := by rw [HL2.out]; exact Nat.le_refl _
        have hd2 : DrOk dr' L2 := HG4.out.d.mono (by rw [HL2.out]; exact HG4.out.le)
        have hW := HWe.out
        clear HWe HWa
        have HW := KH.hid hW
        clear hW
        have hKw : RoundsAt K wa' := rounds_below HX.out.2.2.2.1 HW.out.b g1
        have hTw : TurnsAt wa' := turns_below HX.out.2.2.2.2.1 HW.out.b g0
        have hbsw := HW.out.bs
        have hlT := HW.out.t.reads
        rcases HCr.out with ⟨hVo, htn⟩ | hVn
        · have hdf : dn = false := by rw [HD.out.2.2.1, decide_eq_false_iff_not]; exact htn
          have HR := KH.hid (reads_any K (c := c9) HW.out.H hVo (by omega) hkey HX.out.2.1.tl HX.out.2.1.ok hlT hKw hTw)
          have HVo := KH.hid hVo
          subst hdf
          clear hVo htn hlT hKw hTw
          go_wp2_with fail
          refine HR.out.mono ?_; rintro e w20 ⟨b, rfl, hbt, hbf, hb20⟩
          have HW2 := KH.hid (HW.out.below hb20)
          have HBB := KH.hid (And.intro hbt hbf)
          clear hbt hbf hb20 HR
          cases b
          · have hls := HW2.out.H.s.reads
            rw [HX.out.2.1.tl] at hls
            have y8 := HW2.out.H.blk.cell 8
            simp only [hsC, List.getElem?_toArray, List.getElem?_cons_zero, List.getElem?_cons_succ] at y8
            rw [HX.out.2.1.tl] at y8
            have HR2 := KH.hid (reads_any K (c := x3.c5) HW2.out.H HVo.out (by omega) hkey HX.out.2.1.tl HX.out.2.1.ok hls (rounds_below HX.out.2.2.2.1 HW2.out.b g1) (turns_below HX.out.2.2.2.2.1 HW2.out.b g0))
            clear hls
            go_wp2_with fail
            refine HR2.out.mono ?_; rintro e w21 ⟨b, rfl, hbt, hbf, hb21⟩
            cases b
            · exact absurd rfl (hbf rfl)
            · have HW3 := KH.hid (HW2.out.below hb21)
              clear hbt hbf hb21
              go_wp2
              go_ret
              exact ⟨rfl, _, _, _, _, _, _, _, _, _, _, HW3.out.H, HVo.out, by omega, ⟨HG4.out.no, hN2, hd2, HX.out.2.1.bl, HX.out.2.1.tl, HX.out.2.1.sz, HX.out.2.1.ok⟩, hj4, HW3.out.b⟩
          · have y8 := HW2.out.H.blk.cell 8
            simp only [hsC, List.getElem?_toArray, List.getElem?_cons_zero, List.getElem?_cons_succ] at y8
            have y9 := HW2.out.H.blk.frozen 8
            have hst : said = T' := HBB.out.1 rfl
            have hrT : RowN w20 (HQ h 0 0 x3.A6) A9 T'.length T' := by rw [HG4.out.tl]; exact HW2.out.t
            have hH9 := HW2.out.H.setSaid (c5 := c9) hrT
            rw [HG4.out.tl] at hH9
            have HH9 := KH.hid (And.intro hH9 (HW2.out.b.setCell (p := ⟨h, 8, none⟩) hbh (.slice A9 n c9)))
            have HST := KH.hid hst
            clear hst hrT hH9
            go_wp2
            go_ret
            exact ⟨rfl, _, _, _, _, _, _, _, _, _, _, HH9.out.1, HVo.out, by omega, ⟨HG4.out.no, hN2, hd2, HX.out.2.1.bl, HG4.out.tl, HX.out.2.1.sz, by rw [← HST.out]; exact HX.out.2.1.ok⟩, hj4, HH9.out.2⟩
        · have HR := KH.hid (reads_any K (c := c9) HW.out.H hVn (by omega) hkey HG4.out.tl HG4.out.ok hlT hKw hTw)
          have HVn := KH.hid hVn
          clear hVn hlT hKw hTw
          go_wp2_with fail
          refine HR.out.mono ?_; rintro e w20 ⟨b, rfl, hbt, hbf, hb20⟩
          cases b
          · exact absurd rfl (hbf rfl)
          · have HW2 := KH.hid (HW.out.below hb20)
            clear hbt hbf hb20 HR
            have y8 := HW2.out.H.blk.cell 8
            simp only [hsC, List.getElem?_toArray, List.getElem?_cons_zero, List.getElem?_cons_succ] at y8
            have y9 := HW2.out.H.blk.frozen 8
            have hrT : RowN w20 (HQ h 0 0 x3.A6) A9 T'.length T' := by rw [HG4.out.tl]; exact HW2.out.t
            have hH9 := HW2.out.H.setSaid (c5 := c9) hrT
            rw [HG4.out.tl] at hH9
            have HH9 := KH.hid (And.intro hH9 (HW2.out.b.setCell (p := ⟨h, 8, none⟩) hbh (.slice A9 n c9)))
            clear hrT hH9
            go_wp2
            go_ret
            exact ⟨rfl, _, _, _, _, _, _, _, _, _, _, HH9.out.1, HVn.out, by omega, ⟨HG4.out.no, hN2, hd2, HG4.out.bl, HG4.out.tl, HG4.out.sz, HG4.out.ok⟩, hj4, HH9.out.2⟩
    · have dn4 : decide ((0 : Int) < (s.n4 : Int)) = false := by rw [decide_eq_false_iff_not]; omega
      have hN2 := HG4.out.le
      have hd2 := HG4.out.d
      have hW := HWa.out
      clear HWa
      have HW := KH.hid hW
      clear hW
      have hKw : RoundsAt K wa := rounds_below HX.out.2.2.2.1 HW.out.b g1
      have hTw : TurnsAt wa := turns_below HX.out.2.2.2.2.1 HW.out.b g0
      have hbsw := HW.out.bs
      have hlT := HW.out.t.reads
      rcases HCr.out with ⟨hVo, htn⟩ | hVn
      · have hdf : dn = false := by rw [HD.out.2.2.1, decide_eq_false_iff_not]; exact htn
        have HR := KH.hid (reads_any K (c := c9) HW.out.H hVo (by omega) hkey HX.out.2.1.tl HX.out.2.1.ok hlT hKw hTw)
        have HVo := KH.hid hVo
        subst hdf
        clear hVo htn hlT hKw hTw
        go_wp2_with fail
        refine HR.out.mono ?_; rintro e w20 ⟨b, rfl, hbt, hbf, hb20⟩
        have HW2 := KH.hid (HW.out.below hb20)
        have HBB := KH.hid (And.intro hbt hbf)
        clear hbt hbf hb20 HR
        cases b
        · have hls := HW2.out.H.s.reads
          rw [HX.out.2.1.tl] at hls
          have y8 := HW2.out.H.blk.cell 8
          simp only [hsC, List.getElem?_toArray, List.getElem?_cons_zero, List.getElem?_cons_succ] at y8
          rw [HX.out.2.1.tl] at y8
          have HR2 := KH.hid (reads_any K (c := x2.c5) HW2.out.H HVo.out (by omega) hkey HX.out.2.1.tl HX.out.2.1.ok hls (rounds_below HX.out.2.2.2.1 HW2.out.b g1) (turns_below HX.out.2.2.2.2.1 HW2.out.b g0))
          clear hls
          go_wp2_with fail
          refine HR2.out.mono ?_; rintro e w21 ⟨b, rfl, hbt, hbf, hb21⟩
          cases b
          · exact absurd rfl (hbf rfl)
          · have HW3 := KH.hid (HW2.out.below hb21)
            clear hbt hbf hb21
            go_wp2
            go_ret
            exact ⟨rfl, _, _, _, _, _, _, _, _, _, _, HW3.out.H, HVo.out, by omega, ⟨HG4.out.no, hN2, hd2, HX.out.2.1.bl, HX.out.2.1.tl, HX.out.2.1.sz, HX.out.2.1.ok⟩, hj4, HW3.out.b⟩
        · have y8 := HW2.out.H.blk.cell 8
          simp only [hsC, List.getElem?_toArray, List.getElem?_cons_zero, List.getElem?_cons_succ] at y8
          have y9 := HW2.out.H.blk.frozen 8
          have hst : said = T' := HBB.out.1 rfl
          have hrT : RowN w20 (HQ h 0 0 x2.A6) A9 T'.length T' := by rw [HG4.out.tl]; exact HW2.out.t
          have hH9 := HW2.out.H.setSaid (c5 := c9) hrT
          rw [HG4.out.tl] at hH9
          have HH9 := KH.hid (And.intro hH9 (HW2.out.b.setCell (p := ⟨h, 8, none⟩) hbh (.slice A9 n c9)))
          have HST := KH.hid hst
          clear hst hrT hH9
          go_wp2
          go_ret
          exact ⟨rfl, _, _, _, _, _, _, _, _, _, _, HH9.out.1, HVo.out, by omega, ⟨HG4.out.no, hN2, hd2, HX.out.2.1.bl, HG4.out.tl, HX.out.2.1.sz, by rw [← HST.out]; exact HX.out.2.1.ok⟩, hj4, HH9.out.2⟩
      · have HR := KH.hid (reads_any K (c := c9) HW.out.H hVn (by omega) hkey HG4.out.tl HG4.out.ok hlT hKw hTw)
        have HVn := KH.hid hVn
        clear hVn hlT hKw hTw
        go_wp2_with fail
        refine HR.out.mono ?_; rintro e w20 ⟨b, rfl, hbt, hbf, hb20⟩
        cases b
        · exact absurd rfl (hbf rfl)
        · have HW2 := KH.hid (HW.out.below hb20)
          clear hbt hbf hb20 HR
          have y8 := HW2.out.H.blk.cell 8
          simp only [hsC, List.getElem?_toArray, List.getElem?_cons_zero, List.getElem?_cons_succ] at y8
          have y9 := HW2.out.H.blk.frozen 8
          have hrT : RowN w20 (HQ h 0 0 x2.A6) A9 T'.length T' := by rw [HG4.out.tl]; exact HW2.out.t
          have hH9 := HW2.out.H.setSaid (c5 := c9) hrT
          rw [HG4.out.tl] at hH9
          have HH9 := KH.hid (And.intro hH9 (HW2.out.b.setCell (p := ⟨h, 8, none⟩) hbh (.slice A9 n c9)))
          clear hrT hH9
          go_wp2
          go_ret
          exact ⟨rfl, _, _, _, _, _, _, _, _, _, _, HH9.out.1, HVn.out, by omega, ⟨HG4.out.no, hN2, hd2, HG4.out.bl, HG4.out.tl, HG4.out.sz, HG4.out.ok⟩, hj4, HH9.out.2⟩
end Go.Proofs.YtlnilfcjcoclhaaGreatDoor
