import Derived.Test.YtlnilfcjcoclhaaGreatDoorHsD
import Derived.Test.YtlnilfcjcoclhaaGreatDoorHoD
/- Package keyholetop: reads. -/
namespace Go.Proofs.YtlnilfcjcoclhaaGreatDoor
open Go.RowKit Go.Shelf
attribute [local go_sem] Oper.semAt_some

/-- what reads' region keeps -/
abbrev RdS (w0 : World) (g h : Nat) (x y z : Value) (w' : World) : Prop := w'.cell? ⟨g, 0, none⟩ = some x ∧ w'.cell? ⟨g, 1, none⟩ = some y ∧ w'.cell? ⟨h, 7, none⟩ = some z ∧ Below w0.heap.size w0 w'
theorem rdS_of {w0 w' : World} {g h : Nat} {x y z : Value} (k0 : w0.cell? ⟨g, 0, none⟩ = some x) (k1 : w0.cell? ⟨g, 1, none⟩ = some y) (k2 : w0.cell? ⟨h, 7, none⟩ = some z) (hb : Below w0.heap.size w0 w') : RdS w0 g h x y z w' :=
  ⟨(hb.cell (World.block_lt_of_cell? _ _ k0)).trans k0, (hb.cell (World.block_lt_of_cell? _ _ k1)).trans k1, (hb.cell (World.block_lt_of_cell? _ _ k2)).trans k2, hb⟩
theorem rdS_b {w0 w' : World} {g h : Nat} {x y z : Value} (hs : RdS w0 g h x y z w') : Below w0.heap.size w0 w' := hs.2.2.2
theorem rdS_call {w0 w' w'' : World} {g h : Nat} {x y z : Value} (hs : RdS w0 g h x y z w') (k0 : w0.cell? ⟨g, 0, none⟩ = some x) (k1 : w0.cell? ⟨g, 1, none⟩ = some y) (k2 : w0.cell? ⟨h, 7, none⟩ = some z) (hb : Below w'.heap.size w' w'') : RdS w0 g h x y z w'' :=
  rdS_of k0 k1 k2 ((rdS_b hs).trans (hb.mono (rdS_b hs).size))
set_option maxHeartbeats 1000000 in
set_option maxRecDepth 100000 in
theorem reads_any (K : Nat → Nat) {w : World} {base h lo hi : Nat} {S Sn : List ByteArray} {N L : Nat} {key : ByteArray} {said dr : List ByteArray} {x : HsV} (H : House w base h lo hi S Sn N L key said dr x) {n g a : Nat} {Bl T l : List ByteArray} (hV : VaS K S n g a Bl) (hg : g < 200) (hkey : key.size = 32)
    (hT : T.length = n) (hB : ∀ i, i < n → BlOk key i (Bl.getD i ⟨#[]⟩) (T.getD i ⟨#[]⟩)) {A : Option Addr} {c : Nat} (hl : KH.Reads w w.heap.size 1 A n (l.map .string)) (hK : RoundsAt K w) (hTu : TurnsAt w) :
    Calls Tryz.prog 19 #[.pointer (some ⟨h, 0, none⟩), .slice A n c] w fun e w' => ∃ b, e = .returned (.bool b) ∧ (b = true → T = l) ∧ (b = false → T ≠ l) ∧ Below w.heap.size w w' := by
  have hn := hV.cnt
  have hn' : 1 ≤ n ∧ n ≤ 64 := by obtain ⟨m, hm, h⟩ := cntB_nat hn; omega
  have hll : l.length = n := by have := hl.1; simpa using this
  have hg1 := hK.1
  have hg0 := hTu.1
  have hL := KH.hid (vload_any K H.pl (hV.vaOk hg) hK)
  have f0 : w.cell? ⟨h, 0, none⟩ = some (.slice x.A1 S.length x.c1) := H.blk.cell 0
  have f1 : w.cell? ⟨h, 1, none⟩ = some (.slice x.A2 0 x.c2) := H.blk.cell 1
  have HX := KH.hid (And.intro H (And.intro hV (And.intro hB (And.intro hl (And.intro hK hTu)))))
  have HLn := KH.hid (And.intro hT hll)
  have hbl := hV.len
  have HBl := KH.hid hbl
  clear H hV hB hl hK hTu hT hll hbl
  go_enter Tryz.func19, Tryz.ntmps19
  go_wp2_with fail
  refine hL.out.mono ?_; rintro e w1 ⟨A7, c7, rfl, hV1, -, hb1⟩
  obtain ⟨rv, hrv⟩ : ∃ q, q = rootV K Bl := ⟨_, rfl⟩
  rw [← hrv] at hV1 ⊢
  have HRV := KH.hid hrv
  have v2 := KH.Blk.new w1 48 #[.slice A7 n c7, .string rv]
  have hV2 := hV1.below ((Below.refl w1.heap.size w1).alloc (Nat.le_refl _) (.cells #[.slice A7 n c7, .string rv] 48))
  have hB2 := hb1.alloc hb1.size (.cells #[.slice A7 n c7, .string rv] 48)
  clear hL hV1 hb1 f0 f1 hrv
  go_wp2
  obtain ⟨w2, hw2⟩ : ∃ W, W = w1.alloc (.cells #[.slice A7 n c7, .string rv] 48) := ⟨_, rfl⟩
  obtain ⟨g2, hg2⟩ : ∃ q, q = w1.heap.size := ⟨_, rfl⟩
  rw [← hw2] at v2 hV2 hB2
  rw [← hg2] at v2
  rw [← hw2, ← hg2]
  clear hw2 hg2
  have HY := KH.hid (And.intro v2 (And.intro hV2 hB2))
  have hz2 := hB2.size
  clear v2 hV2 hB2
  go_loopw [8] (fun i wr => ∃ k : Nat, k ≤ n ∧ i = .int .i64 k ∧ Hid (∀ j, j < k → T.getD j ⟨#[]⟩ = l.getD j ⟨#[]⟩) ∧ Below w2.heap.size w2 wr) (fun i _ => n - (intOf i).toNat)
  case atStart => exact ⟨0, Nat.zero_le _, rfl, KH.hid (fun j hj => absurd hj (by omega)), Below.refl _ _⟩
  case round =>
    obtain ⟨k, hk, rfl, HS, hb⟩ := hrel
    have hB3 := HY.out.2.2.trans (hb.mono hz2)
    have H3 := HX.out.1.below hB3
    have v3 := HY.out.1.below hb HY.out.1.lt
    have hV3 := HY.out.2.1.below hb
    have hl3 := HX.out.2.2.2.1.below hB3
    have e0 : wr.cell? ⟨g2, 0, none⟩ = some (.slice A7 n c7) := v3.cell 0
    have e1 : wr.cell? ⟨g2, 1, none⟩ = some (.string rv) := v3.cell 1
    have e7 : wr.cell? ⟨h, 7, none⟩ = some (.string key) := H3.blk.cell 7
    by_cases hlt : k < n
    · have HRd : Hid (∀ W, Below wr.heap.size wr W → Calls Tryz.prog 16 #[.agg #[.slice A7 n c7, .string rv], .string key, .int .i64 k] W fun e w' => e = .returned (.tuple #[.string (T.getD k ⟨#[]⟩), .int .i64 0]) ∧ Below W.heap.size W w') := fun W hbW => by
        have hv := hV3.below hbW
        have hbw := hB3.trans (hbW.mono hB3.size)
        rw [HRV.out] at hv ⊢
        exact vread_yes K (i := k) hv (by rw [HBl.out]; exact hn) HX.out.2.1.small (by rw [HBl.out]; exact hlt) hkey (HX.out.2.2.1 k hlt) (rounds_below HX.out.2.2.2.2.1 hbw hg1) (turns_below HX.out.2.2.2.2.2 hbw hg0)
      obtain ⟨ad, u, rfl, hab, hx, hc1⟩ := hl3.at_ hlt
      obtain ⟨b, hbk, rfl⟩ : ∃ b, l.getD k ⟨#[]⟩ = b ∧ u = .string b := by
        rw [List.getElem?_map] at hx
        cases hq : l[k]? with
        | none => rw [hq] at hx; cases hx
        | some b => rw [hq] at hx; exact ⟨b, by rw [List.getD_eq_getElem?_getD, hq]; rfl, by simpa using hx.symm⟩
      clear hx
      obtain ⟨t, ht⟩ : ∃ t, t = T.getD k ⟨#[]⟩ := ⟨_, rfl⟩
      rw [← ht] at HRd
      have HT := KH.hid (And.intro ht hbk)
      have hszr := hb.size
      have HC := KH.hid (fun w' (hq : Below wr.heap.size wr w') => (hq.cell (p := ad.add k) (by rw [KH.block_of_add]; omega)).trans hc1)
      clear ht hbk H3 v3 hV3 hl3 hB3
      have HBr := KH.hid hb
      have hzr := hb.size
      clear hb
      go_wp2_with fail
      go_region_held3 (fun w' => w'.cell? ⟨g2, 0, none⟩ = some (.slice A7 n c7) ∧ w'.cell? ⟨g2, 1, none⟩ = some (.string rv) ∧ w'.cell? ⟨h, 7, none⟩ = some (.string key) ∧ Below wr.heap.size wr w')
        (first | exact rdS_of e0 e1 e7 (Below.refl wr.heap.size wr).drew | exact rdS_call (by assumption) e0 e1 e7 (by assumption))
        (first | (go_at_call 16; refine (HRd.out _ (rdS_b (x := .slice A7 n c7) (y := .string rv) (z := .string key) (g := g2) (h := h) (by assumption))).mono ?_; rintro e w4 ⟨rfl, hb4⟩; have hb34 : Below wr.heap.size wr w4 := (rdS_b (x := .slice A7 n c7) (y := .string rv) (z := .string key) (g := g2) (h := h) (w0 := wr) (by assumption)).trans (hb4.mono (rdS_b (x := .slice A7 n c7) (y := .string rv) (z := .string key) (g := g2) (h := h) (w0 := wr) (by assumption)).size)))
      have hc4 := HC.out w4 hb34
      have k0 : (0 : Int) ≤ (k : Int) := by omega
      have k1 : (k : Int) < (n : Int) := by omega
      clear e0 e1 e7 hc1 hab HRd
      have HB4 := KH.hid hb34
      have hz34 := hb34.size
      clear hb34 hb4
      by_cases htb : t = b
      · subst htb
        go_wp2
        go_roundw
        case rel =>
          refine ⟨k + 1, by omega, by go_num, KH.hid fun j hj => ?_, HBr.out.trans (HB4.out.mono hzr)⟩
          by_cases e : j = k
          · subst e; rw [HT.out.2, ← HT.out.1]
          · exact HS.out j (by omega)
        case measure => simp [intOf]; omega
      · have htf : (t.toList == b.toList) = false := bytes_ne htb
        go_wp2
        go_ret
        refine ⟨false, rfl, (fun h => by cases h), fun _ e => htb ?_, HY.out.2.2.trans ((HBr.out.trans (HB4.out.mono hzr)).mono hz2)⟩
        rw [HT.out.1, ← HT.out.2, e]
    · obtain rfl : k = n := by omega
      clear e0 e1 e7 H3 v3 hV3 hl3 hB3
      have HBr := KH.hid hb
      clear hb
      go_wp2
      go_ret
      refine ⟨true, rfl, fun _ => ?_, (fun h => by cases h), HY.out.2.2.trans (HBr.out.mono hz2)⟩
      refine List.ext_getElem (by rw [HLn.out.1, HLn.out.2]) fun j h1 h2 => ?_
      have := HS.out j (by rw [← HLn.out.1]; exact h1)
      rw [List.getD_eq_getElem?_getD, List.getD_eq_getElem?_getD, List.getElem?_eq_getElem h1, List.getElem?_eq_getElem h2] at this
      exact this
end Go.Proofs.YtlnilfcjcoclhaaGreatDoor
/- Package keyholetop: what stands in a round of writes. -/
namespace Go.Proofs.YtlnilfcjcoclhaaGreatDoor
open Go.RowKit

/-- the nonces drawn: rising, and all below N -/
def DrOk (dr : List ByteArray) (N : Nat) : Prop := dr.length ≤ N ∧ ∃ ns : List Nat, dr = ns.map nonV ∧ ns.Pairwise (· < ·) ∧ ∀ m ∈ ns, m < N
theorem DrOk.nil : DrOk [] 0 := ⟨Nat.le_refl _, [], rfl, List.Pairwise.nil, by simp⟩
theorem DrOk.mono {dr : List ByteArray} {N N' : Nat} (h : DrOk dr N) (hN : N ≤ N') : DrOk dr N' := by
  obtain ⟨h0, ns, h1, h2, h3⟩ := h
  exact ⟨by omega, ns, h1, h2, fun m hm => by have := h3 m hm; omega⟩
theorem DrOk.snoc {dr : List ByteArray} {N : Nat} (h : DrOk dr N) : DrOk (dr ++ [nonV N]) (N + 1) := by
  obtain ⟨h0, ns, rfl, h2, h3⟩ := h
  refine ⟨by simp at h0 ⊢; omega, ns ++ [N], by simp, ?_, fun m hm => ?_⟩
  · rw [List.pairwise_append]
    exact ⟨h2, List.pairwise_singleton _ _, fun a ha b hb => by simp at hb; subst hb; exact h3 a ha⟩
  · simp at hm
    rcases hm with hm | rfl
    · have := h3 m hm; omega
    · omega
section
variable {w w' : World} {base h lo hi : Nat} {S Sn : List ByteArray} {N L : Nat} {key : ByteArray} {said dr : List ByteArray} {x : HsV}
/-- a row beside the House, behind one more that is drawn -/
theorem House.rowDr (_H : House w base h lo hi S Sn N L key said dr x) {A6 : Option Addr} {c6 : Nat} (hg : w.grownBy w' (Value.slice x.A6 dr.length x.c6).ownBlock)
    (hl : (Value.slice A6 (dr.length + 1) c6).ownBlock = (Value.slice x.A6 dr.length x.c6).ownBlock ∨ (Value.slice A6 (dr.length + 1) c6).ownBlock = some w.heap.size) {A : Option Addr} {n : Nat} {l : List ByteArray} (r : RowN w (HQ h lo hi x.A6) A n l) (u : Value) :
    RowN (w'.setCell ⟨h, 9, none⟩ u) (HQ h lo hi A6) A n l := by
  have hq : ∀ b, b < w.heap.size → HQ h lo hi x.A6 b → HQ h lo hi A6 b := fun b hb q => ⟨q.1, fun ad e q' => by
    subst e
    rcases hl with e | e
    · cases hA : x.A6 with
      | none => rw [hA] at e; cases e
      | some a => rw [hA] at e; injection e with e; exact q.2.1 a hA (e.symm.trans q')
    · injection e with e; omega, q.2.2⟩
  have hr : ∀ g, (Value.slice x.A6 dr.length x.c6).ownBlock = some g → ¬ HQ h lo hi x.A6 g := fun g e q => by
    cases hA : x.A6 with
    | none => rw [hA] at e; cases e
    | some a => rw [hA] at e; injection e with e; exact q.2.1 a hA e
  have hh : ∀ i, ¬ HQ h lo hi A6 (⟨h, i, none⟩ : Addr).block := fun i q => q.1 rfl
  refine RowN.set ?_ (hh 9) _
  obtain ⟨r1, r2⟩ := r
  refine ⟨r1, fun hn => ?_⟩
  obtain ⟨ad, e1, e2, e3, e4⟩ := r2 hn
  have hs := hg.size
  exact ⟨ad, e1, by omega, hq _ e2 e3, fun j u hu => (World.cell?_of_block (hg.block _ (by rw [KH.block_of_add]; exact e2) (fun e => hr _ e.symm (by rw [KH.block_of_add]; exact e3)))).trans (e4 j u hu)⟩
end
def Stp.cells (s : Stp) : Array Value := #[.slice s.A1 s.n1 s.c1, .slice s.A2 s.n2 s.c2, .int .i64 s.d, .slice s.A3 s.n3 s.c3, .slice s.A4 s.n4 s.c4]
structure WrS (K : Nat → Nat) (A0 : Option Addr) (w wr : World) (base h lo hi g9 c9 : Nat) (s : Stp) (S Sn : List ByteArray) (N L : Nat) (key : ByteArray) (said dr : List ByteArray) (x : HsV) (n : Nat) (A4 : Option Addr) (c4 : Nat) (Bl T : List ByteArray) : Prop where
  H : House wr base h lo hi S Sn N L key said dr x
  k4 : KH.Blk wr lo 48 #[.slice A4 n c4, .string (rootV K Bl)]
  k5 : KH.Blk wr (lo + 1) 32 s.cells
  k6 : KH.Blk wr (lo + 2) 48 #[.slice none 0 0, .string ⟨#[]⟩]
  v : RowN wr (HQ h lo hi x.A6) A4 n Bl
  t : wr.ownsRow lo 9 1 (.slice (some ⟨g9, 0, none⟩) n c9) n (T.map .string)
  tg : lo + 2 < g9 ∧ g9 < hi
  hz : hi ≤ wr.heap.size
  hl : h < lo
  b : Below base w wr
  fr : ∀ b, b < lo → b ≠ h → (∀ ad, A0 = some ad → ad.block ≠ b) → wr.heap[b]? = w.heap[b]?
  fa : ∀ ad, x.A6 = some ad → lo ≤ ad.block ∨ ∃ ad0, A0 = some ad0 ∧ ad0.block = ad.block
section
variable {K : Nat → Nat} {A0 : Option Addr} {w wr w' : World} {base h lo hi g9 c9 : Nat} {s : Stp} {S Sn : List ByteArray} {N L : Nat} {key : ByteArray} {said dr : List ByteArray} {x : HsV} {n : Nat} {A4 : Option Addr} {c4 : Nat} {Bl T : List ByteArray}
theorem WrS.bl (W : WrS K A0 w wr base h lo hi g9 c9 s S Sn N L key said dr x n A4 c4 Bl T) : base ≤ lo := by have := W.H.hb; have := W.hl; omega
theorem WrS.below (W : WrS K A0 w wr base h lo hi g9 c9 s S Sn N L key said dr x n A4 c4 Bl T) (hb : Below wr.heap.size wr w') : WrS K A0 w w' base h lo hi g9 c9 s S Sn N L key said dr x n A4 c4 Bl T := by
  have h1 := W.bl
  have h2 := W.k4.lt
  exact ⟨W.H.below hb, W.k4.below hb W.k4.lt, W.k5.below hb W.k5.lt, W.k6.below hb W.k6.lt, W.v.below hb, KH.own_below W.t hb, W.tg, Nat.le_trans W.hz hb.size, W.hl, W.b.trans (hb.mono (by omega)), fun b q1 q2 q3 => (hb.block b (by omega)).trans (W.fr b q1 q2 q3), W.fa⟩
/-- stores into the House's own block -/
theorem WrS.atH (W : WrS K A0 w wr base h lo hi g9 c9 s S Sn N L key said dr x n A4 c4 Bl T) (hs : w'.heap.size = wr.heap.size) (hk : ∀ g, g ≠ h → w'.heap[g]? = wr.heap[g]?) (hb : Below base w w') {S' Sn' said' : List ByteArray} {N' L' : Nat} {x' : HsV}
    (H' : House w' base h lo hi S' Sn' N' L' key said' dr x') (hA : x'.A6 = x.A6) : WrS K A0 w w' base h lo hi g9 c9 s S' Sn' N' L' key said' dr x' n A4 c4 Bl T := by
  have h1 := W.hl
  have h2 := W.tg
  refine ⟨H', (hk _ (by omega)).trans W.k4, (hk _ (by omega)).trans W.k5, (hk _ (by omega)).trans W.k6, ?_, ?_, W.tg, by rw [hs]; exact W.hz, W.hl, hb, fun b q1 q2 q3 => (hk b q2).trans (W.fr b q1 q2 q3), by rw [hA]; exact W.fa⟩
  · rw [hA]
    exact W.v.keep (by omega) fun p _ hq => World.cell?_of_block (hk _ hq.1)
  · obtain ⟨t1, t2⟩ := W.t
    refine ⟨t1, ?_⟩
    rcases t2 with ⟨e, _⟩ | ⟨g, cap, cur, e1, e2, e3, e4⟩
    · cases e
    · injection e1 with e1 e5 e6
      injection e1 with e1; injection e1 with e1
      subst e1; subst e6
      exact .inr ⟨_, _, cur, rfl, e2, (hk _ (by omega)).trans e3, e4⟩
theorem heap2 (w : World) (h i j : Nat) (u v : Value) (g : Nat) (hg : g ≠ h) : ((w.setCell ⟨h, i, none⟩ u).setCell ⟨h, j, none⟩ v).heap[g]? = w.heap[g]? :=
  (Below.heap_setCell _ ⟨h, j, none⟩ v g hg).trans (Below.heap_setCell w ⟨h, i, none⟩ u g hg)
theorem WrS.setN (W : WrS K A0 w wr base h lo hi g9 c9 s S Sn N L key said dr x n A4 c4 Bl T) {A3 A5 : Option Addr} {c3 c5 : Nat} {S' : List ByteArray} (hr : RowN wr (HQ h lo hi x.A6) A3 S'.length S') :
    WrS K A0 w ((wr.setCell ⟨h, 2, none⟩ (.slice A3 S'.length c3)).setCell ⟨h, 3, none⟩ (.slice A5 0 c5)) base h lo hi g9 c9 s S S' N L key said dr { x with A3 := A3, c3 := c3, A4 := A5, c4 := c5 } n A4 c4 Bl T :=
  W.atH (by simp) (fun g hg => heap2 _ _ _ _ _ _ g hg) ((W.b.setCell (p := ⟨h, 2, none⟩) W.H.hb _).setCell (p := ⟨h, 3, none⟩) W.H.hb _) (W.H.setN hr) rfl
theorem WrS.setS (W : WrS K A0 w wr base h lo hi g9 c9 s S Sn N L key said dr x n A4 c4 Bl T) (N' L' : Nat) :
    WrS K A0 w (((wr.setCell ⟨h, 4, none⟩ (.int .i64 0)).setCell ⟨h, 5, none⟩ (.int .i64 N')).setCell ⟨h, 6, none⟩ (.int .i64 L')) base h lo hi g9 c9 s S Sn N' L' key said dr x n A4 c4 Bl T :=
  W.atH (by simp) (fun g hg => (Below.heap_setCell _ ⟨h, 6, none⟩ _ g hg).trans (heap2 _ _ _ _ _ _ g hg)) (((W.b.setCell (p := ⟨h, 4, none⟩) W.H.hb _).setCell (p := ⟨h, 5, none⟩) W.H.hb _).setCell (p := ⟨h, 6, none⟩) W.H.hb _) (W.H.setS N' L') rfl
theorem WrS.setDr (W : WrS K A0 w wr base h lo hi g9 c9 s S Sn N L key said dr x n A4 c4 Bl T) {A6 : Option Addr} {c6 : Nat} {b : ByteArray} (hg : wr.grownBy w' (Value.slice x.A6 dr.length x.c6).ownBlock)
    (ho : w'.ownsRow base 9 1 (.slice A6 (dr.length + 1) c6) (dr.length + 1) (dr.map .string ++ [.string b])) (hl : (Value.slice A6 (dr.length + 1) c6).ownBlock = (Value.slice x.A6 dr.length x.c6).ownBlock ∨ (Value.slice A6 (dr.length + 1) c6).ownBlock = some wr.heap.size) :
    WrS K A0 w (w'.setCell ⟨h, 9, none⟩ (.slice A6 (dr.length + 1) c6)) base h lo hi g9 c9 s S Sn N L key said (dr ++ [b]) { x with A6 := A6, c6 := c6 } n A4 c4 Bl T := by
  have h1 := W.hl
  have h2 := W.tg
  have h3 := W.hz
  have hbl := W.bl
  have hne : ∀ g, lo ≤ g → g < hi → some g ≠ (Value.slice x.A6 dr.length x.c6).ownBlock := fun g q1 q2 e => by
    cases hA : x.A6 with
    | none => rw [hA] at e; cases e
    | some ad => rw [hA] at e; injection e with e; have := W.H.dq ad hA; omega
  have hk : ∀ {g t cs}, lo ≤ g → g < hi → KH.Blk wr g t cs → KH.Blk (w'.setCell ⟨h, 9, none⟩ (.slice A6 (dr.length + 1) c6)) g t cs := fun q1 q2 k => (k.grown hg (hne _ q1 q2)).far (p := ⟨h, 9, none⟩) (by show _ ≠ h; omega) _
  refine ⟨W.H.setDr h3 hg ho hl, hk (by omega) (by omega) W.k4, hk (by omega) (by omega) W.k5, hk (by omega) (by omega) W.k6, W.H.rowDr hg hl W.v _, ?_, W.tg, ?_, W.hl, ?_, fun b q1 q2 q3 => ?_, fun ad e => ?_⟩
  · exact ownsRow_setCell_other (a := ⟨h, 9, none⟩) (W.t.kept hg (.inr (hne g9 (by omega) (by omega)))) (fun e => by injection e with e; have : g9 = h := e; omega) _
  · have := hg.size; simp; omega
  · exact (W.b.grown hg (by have := W.b.size; have := W.k4.lt; omega) fun k hk => (W.H.d.lt k hk).1).setCell (p := ⟨h, 9, none⟩) W.H.hb _
  · refine (Below.heap_setCell _ ⟨h, 9, none⟩ _ b q2).trans ((hg.block b (by omega) (fun e => ?_)).trans (W.fr b q1 q2 q3))
    cases hA : x.A6 with
    | none => rw [hA] at e; cases e
    | some ad =>
      rw [hA] at e; injection e with e
      rcases W.fa ad hA with q | ⟨ad0, q, q'⟩
      · omega
      · exact q3 ad0 q (by omega)
  · have e' : A6 = some ad := e
    subst e'
    rcases hl with e | e
    · cases hA : x.A6 with
      | none => rw [hA] at e; cases e
      | some a =>
        rw [hA] at e; injection e with e
        rcases W.fa a hA with q | ⟨ad0, q, q'⟩
        · exact .inl (by omega)
        · exact .inr ⟨ad0, q, by omega⟩
    · injection e with e; exact .inl (by have := W.k4.lt; omega)
theorem WrS.setV (W : WrS K A0 w wr base h lo hi g9 c9 s S Sn N L key said dr x n A4 c4 Bl T) {A4' : Option Addr} {c4' : Nat} {Bl' : List ByteArray} (hr : RowN wr (HQ h lo hi x.A6) A4' n Bl') :
    WrS K A0 w ((wr.setCell ⟨lo, 0, none⟩ (.slice A4' n c4')).setCell ⟨lo, 1, none⟩ (.string (rootV K Bl'))) base h lo hi g9 c9 s S Sn N L key said dr x n A4' c4' Bl' T := by
  have h1 := W.hl
  have h2 := W.tg
  have hbl := W.bl
  have hq : ∀ i, ¬ HQ h lo hi x.A6 (⟨lo, i, none⟩ : Addr).block := fun i q => by have := q.2.2; simp at this; omega
  have hn : ∀ i, (Value.slice (some ⟨g9, 0, none⟩) n c9).ownBlock ≠ some (⟨lo, i, none⟩ : Addr).block := fun i e => by injection e with e; have : g9 = lo := e; omega
  refine ⟨(W.H.off (p := ⟨lo, 0, none⟩) ⟨Nat.le_refl _, by show lo < hi; omega⟩ (by show h ≠ lo; omega) _).off (p := ⟨lo, 1, none⟩) ⟨Nat.le_refl _, by show lo < hi; omega⟩ (by show h ≠ lo; omega) _, ?_, (W.k5.far (p := ⟨lo, 0, none⟩) (by show lo + 1 ≠ lo; omega) _).far (p := ⟨lo, 1, none⟩) (by show lo + 1 ≠ lo; omega) _,
    (W.k6.far (p := ⟨lo, 0, none⟩) (by show lo + 2 ≠ lo; omega) _).far (p := ⟨lo, 1, none⟩) (by show lo + 2 ≠ lo; omega) _, (hr.set (hq 0) _).set (hq 1) _, ownsRow_setCell_other (ownsRow_setCell_other W.t (hn 0) _) (hn 1) _, W.tg, ?_, W.hl, (W.b.setCell (p := ⟨lo, 0, none⟩) hbl _).setCell (p := ⟨lo, 1, none⟩) hbl _, fun b q1 q2 q3 => (heap2 _ _ _ _ _ _ b (by omega)).trans (W.fr b q1 q2 q3), W.fa⟩
  · have := (W.k4.set_ 0 (.slice A4' n c4')).set_ 1 (.string (rootV K Bl'))
    simpa using this
  · simpa using W.hz
theorem WrS.setT (W : WrS K A0 w wr base h lo hi g9 c9 s S Sn N L key said dr x n A4 c4 Bl T) (i : Nat) (u : ByteArray) :
    WrS K A0 w (wr.setCell ⟨g9, i, none⟩ (.string u)) base h lo hi g9 c9 s S Sn N L key said dr x n A4 c4 Bl (T.set i u) := by
  have h1 := W.hl
  have h2 := W.tg
  have hbl := W.bl
  have hq : ¬ HQ h lo hi x.A6 (⟨g9, i, none⟩ : Addr).block := fun q => by have := q.2.2; simp at this; omega
  refine ⟨W.H.off (p := ⟨g9, i, none⟩) ⟨by show lo ≤ g9; omega, h2.2⟩ (by show h ≠ g9; omega) _, W.k4.far (p := ⟨g9, i, none⟩) (by show lo ≠ g9; omega) _, W.k5.far (p := ⟨g9, i, none⟩) (by show lo + 1 ≠ g9; omega) _, W.k6.far (p := ⟨g9, i, none⟩) (by show lo + 2 ≠ g9; omega) _, W.v.set hq _, ?_, W.tg, ?_, W.hl, W.b.setCell (p := ⟨g9, i, none⟩) (by show base ≤ g9; omega) _, fun b q1 q2 q3 => (Below.heap_setCell _ ⟨g9, i, none⟩ _ b (by show b ≠ g9; omega)).trans (W.fr b q1 q2 q3), W.fa⟩
  · have := (W.t.stored i (.string u)).1
    rw [show (T.map Value.string).set i (.string u) = (T.set i u).map .string by simp] at this
    exact this
  · simpa using W.hz
end
end Go.Proofs.YtlnilfcjcoclhaaGreatDoor
