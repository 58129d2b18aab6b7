import Derived.Test.YtlnilfcjcoclhaaGreatDoorPlF
import Derived.Maps.OwnSet
import Derived.Carry
/- Package twin: body. -/
namespace Go.Proofs.YtlnilfcjcoclhaaGreatDoor
open Go.RowKit Go.Maps

theorem wpList_insert_own {H : Type} {P : Program} (w : World) {ops : Array Oper} {rest : List Oper} {o : Oper} {a : Act} {Q : Exit → Act → World → Prop}
    (hg : o.guard = none) (m x v : Operand) (t : TypeId) (hop : o.op = Op.insert t m x v)
    (k e : TypeId) (K : Keyed P k) (ht : P.underlying t = some (.map k e)) (R : Value → Option (DataW H × List MemPlace)) (b n : Nat) (D : DataW H)
    (hm : a.eval m = .map (some b)) (hown : w.ownsMap P k R b n D) (hn : n < maxLen) (key val : Value) (kl : Lit) (hx : a.eval x = key) (hv : a.eval v = val) (hkey : keyOf P k key = some kl)
    (d : DataW H) (ps : List MemPlace) (hval : R val = some (d, ps))
    (hK : ∀ w', w'.ownsMap P k R b (n + 1) (D.put kl d) → w.grownBy w' (some b) → wpList P ops Q rest (a.put o.dst undef) w') :
    wpList P ops Q (o :: rest) a w := by
  refine wpList_plain hg fun K' hK' => ?_
  obtain ⟨w', hrun, r1, r2⟩ := hown.update K ht hn hkey hval
  unfold Oper.wp
  simp [execOp, hop, hm, hx, hv, hrun, Result.andThen]
  exact hK' _ _ (hK w' r1 r2)

theorem mkey (s : ByteArray) (hs : s.size ≤ maxLen) : keyOf Tryz.prog 9 (.string s) = some (.string s.data.toList) := by
  simp [keyOf, mapKey, Tryz.underlying9]
  try exact hs
/-- what the marks tell -/
def mD : DataW Unit := ((DataW.map []).put (.string [48]) (.lit (.int .i64 1))).put (.string [49]) (.lit (.int .i64 2))
theorem mD0 : mD.atKey (.string [48]) (.lit (.int .i64 0)) = .lit (.int .i64 1) ∧ Maps.has mD (.string [48]) = true := ⟨by kernel_rfl, by kernel_rfl⟩
theorem mD1 : mD.atKey (.string [49]) (.lit (.int .i64 0)) = .lit (.int .i64 2) ∧ Maps.has mD (.string [49]) = true := ⟨by kernel_rfl, by kernel_rfl⟩

theorem mD_at {l : List UInt8} {f c : Int} (h1 : mD.atKey (.string l) (.lit (.int .i64 0)) = .lit (.int .i64 f)) (h2 : mD.atKey (.string l) (.lit (.int .i64 0)) = .lit (.int .i64 c)) : f = c := by
  rw [h1] at h2
  injection h2 with h2
  injection h2
set_option maxRecDepth 100000 in
theorem body_at (s : ByteArray) (l : List UInt8) (f : Int) (w : World) (hk : keyOf Tryz.prog 9 (.string s) = some (.string l)) (h1 : mD.atKey (.string l) (.lit (.int .i64 0)) = .lit (.int .i64 f)) (h2 : Maps.has mD (.string l) = true) :
    Calls Tryz.prog 40 #[.string s] w fun e w' => e = .returned (.tuple #[.int .i64 f, .bool true]) ∧ Below w.heap.size w w' := by
  have hmm := @run_makeMap Tryz.prog
  have hm0 := World.ownsMap_made (H := Unit) w Tryz.prog 9 (plainElem Tryz.prog 3)
  have hb0 := (Below.refl w.heap.size w).alloc (Nat.le_refl _) (.map #[] 0)
  have HH := KH.hid (And.intro h1 h2)
  clear h1 h2
  go_enter Tryz.func40, Tryz.ntmps40
  go_wp2_with (first
    | (refine wpList_insert_own _ rfl (.tmp 7) (.const (.string ⟨#[48]⟩)) (.const (.int .i64 1)) 130 rfl 9 3 (string_keyed Tryz.underlying9) Tryz.underlying130 _ w.heap.size 0 _ rfl hm0 (by decide) (.string ⟨#[48]⟩) (.int .i64 1) (.string [48]) rfl rfl (mkey _ (by decide)) _ [] (plainElem_int Tryz.underlying3 (by decide)) ?_; intro w1 hown1 hgrow1)
    | (refine wpList_insert_own _ rfl (.tmp 7) (.const (.string ⟨#[49]⟩)) (.const (.int .i64 2)) 130 rfl 9 3 (string_keyed Tryz.underlying9) Tryz.underlying130 _ w.heap.size 1 _ rfl hown1 (by decide) (.string ⟨#[49]⟩) (.int .i64 2) (.string [49]) rfl rfl (mkey _ (by decide)) _ [] (plainElem_int Tryz.underlying3 (by decide)) ?_; intro w2 hown2 hgrow2)
    | (at_lookup; refine wpList_lookup_own_ok_int _ rfl _ _ 130 rfl 9 3 .i64 (string_keyed Tryz.underlying9) Tryz.underlying130 Tryz.underlying3 (by simp [zeroValue, go_sem]; rfl) w.heap.size _ _ rfl hown2 (.string s) (.string l) rfl hk ?_; intro c hat hwc; rw [show Maps.has (((DataW.map []).put (Lit.string [48]) (DataW.lit (H := Unit) (Lit.int IntKind.i64 1))).put (Lit.string [49]) (DataW.lit (Lit.int IntKind.i64 2))) (Lit.string l) = true from HH.out.2]; obtain rfl : f = c := mD_at HH.out.1 hat))
  go_ret2
  exact ⟨rfl, (hb0.grown hgrow1 (by simp) fun k e => by cases e; exact Nat.le_refl _).grown hgrow2 (by have := hgrow1.size; simp at this; omega) fun k e => by cases e; exact Nat.le_refl _⟩
theorem body_zero (w : World) : Calls Tryz.prog 40 #[.string ⟨#[48]⟩] w fun e w' => e = .returned (.tuple #[.int .i64 1, .bool true]) ∧ Below w.heap.size w w' :=
  body_at _ [48] 1 w (mkey _ (by decide)) mD0.1 mD0.2
theorem body_one (w : World) : Calls Tryz.prog 40 #[.string ⟨#[49]⟩] w fun e w' => e = .returned (.tuple #[.int .i64 2, .bool true]) ∧ Below w.heap.size w w' :=
  body_at _ [49] 2 w (mkey _ (by decide)) mD1.1 mD1.2
end Go.Proofs.YtlnilfcjcoclhaaGreatDoor
/- Package twin: Get. -/
namespace Go.Proofs.YtlnilfcjcoclhaaGreatDoor
open Go.RowKit

theorem read_at {v : Value} {S : List ByteArray} {C : List (Int × ByteArray)} {w : World} {lo : Nat} (i : Nat) (k : Int) (hk : k = i) (h : PlIn w lo v S C) (hp : pOk S C) (hi : i < S.length) {o : ByteArray} (ho : readV S C i = o) :
    Calls Tryz.prog 39 #[v, .int .i64 k] w fun e w' => e = .returned (.tuple #[.string o, .int .i64 0]) ∧ Below w.heap.size w w' := by
  subst hk; subst ho
  exact read_any i h hp hi
set_option maxRecDepth 100000 in
theorem get_none {v : Value} {S : List ByteArray} {C : List (Int × ByteArray)} {w : World} {lo : Nat} (h : PlIn w lo v S C) (hp : pOk S C) (hm : readV S C 0 = ⟨#[]⟩) :
    Calls Tryz.prog 23 #[v, .int .i64 0] w fun e w' => e = .returned (.tuple #[.string ⟨#[]⟩, .bool false, .int .i64 0]) ∧ Below w.heap.size w w' := by
  have h0 := h
  obtain ⟨A1, c1, A2, c2, rfl, -, -, -, -⟩ := h
  have hb1 := ((Below.refl w.heap.size w).alloc (Nat.le_refl _) (.cells #[.slice A1 S.length c1, .slice A2 C.length c2] 35))
  have h1 := h0.below hb1
  have HH := KH.hid (And.intro h1 (And.intro hp hm))
  clear h0 h1 hp hm
  go_enter Tryz.func23, Tryz.ntmps23
  go_wp2_with (first | (go_at_call 39; refine (read_at 0 0 rfl HH.out.1 HH.out.2.1 (by have := HH.out.2.1.1; omega) HH.out.2.2).mono ?_; rintro e w2 ⟨rfl, hb2⟩) | go_in)
  go_ret3
  exact ⟨rfl, hb1.trans (hb2.mono hb1.size)⟩
set_option maxRecDepth 100000 in
theorem get_zero {v : Value} {S : List ByteArray} {C : List (Int × ByteArray)} {w : World} {lo : Nat} (h : PlIn w lo v S C) (hp : pOk S C) (h3 : 3 ≤ S.length) {o : ByteArray} (hm : readV S C 0 = ⟨#[48]⟩) (ho : readV S C 1 = o) :
    Calls Tryz.prog 23 #[v, .int .i64 0] w fun e w' => e = .returned (.tuple #[.string o, .bool true, .int .i64 0]) ∧ Below w.heap.size w w' := by
  have h0 := h
  obtain ⟨A1, c1, A2, c2, rfl, -, -, -, -⟩ := h
  have hb1 := ((Below.refl w.heap.size w).alloc (Nat.le_refl _) (.cells #[.slice A1 S.length c1, .slice A2 C.length c2] 35))
  have h1 := h0.below hb1
  have hk1 := KH.Blk.new w 35 #[.slice A1 S.length c1, .slice A2 C.length c2]
  have HH := KH.hid (And.intro h1 (And.intro hp (And.intro hm ho)))
  clear h0 h1 hp hm ho
  go_enter Tryz.func23, Tryz.ntmps23
  go_wp2_with fail
  generalize w.alloc (.cells #[.slice A1 S.length c1, .slice A2 C.length c2] 35) = w1 at *
  refine (read_at 0 0 rfl HH.out.1 HH.out.2.1 (by omega) HH.out.2.2.1).mono ?_; rintro e w2 ⟨rfl, hb2⟩
  go_wp2_with fail
  refine (body_zero _).mono ?_; rintro e w3 ⟨rfl, hb3⟩
  have hB3 : Below w1.heap.size w1 w3 := hb2.trans (hb3.mono hb2.size)
  have hk3 := hk1.below hB3 hk1.lt
  have f1 : w3.cell? ⟨w.heap.size, 0, none⟩ = some (.slice A1 S.length c1) := hk3.cell 0
  have f2 : w3.cell? ⟨w.heap.size, 1, none⟩ = some (.slice A2 C.length c2) := hk3.cell 1
  have hP3 := HH.out.1.below hB3
  go_wp2_with fail
  refine (read_at 1 1 rfl hP3 HH.out.2.1 (by omega) HH.out.2.2.2).mono ?_; rintro e w4 ⟨rfl, hb4⟩
  go_wp2
  go_ret3
  exact ⟨rfl, hb1.trans ((hB3.mono hb1.size).trans (hb4.mono (Nat.le_trans hb1.size hB3.size)))⟩
set_option maxRecDepth 100000 in
theorem get_one {v : Value} {S : List ByteArray} {C : List (Int × ByteArray)} {w : World} {lo : Nat} (h : PlIn w lo v S C) (hp : pOk S C) (h3 : 3 ≤ S.length) {o : ByteArray} (hm : readV S C 0 = ⟨#[49]⟩) (ho : readV S C 2 = o) :
    Calls Tryz.prog 23 #[v, .int .i64 0] w fun e w' => e = .returned (.tuple #[.string o, .bool true, .int .i64 0]) ∧ Below w.heap.size w w' := by
  have h0 := h
  obtain ⟨A1, c1, A2, c2, rfl, -, -, -, -⟩ := h
  have hb1 := ((Below.refl w.heap.size w).alloc (Nat.le_refl _) (.cells #[.slice A1 S.length c1, .slice A2 C.length c2] 35))
  have h1 := h0.below hb1
  have hk1 := KH.Blk.new w 35 #[.slice A1 S.length c1, .slice A2 C.length c2]
  have HH := KH.hid (And.intro h1 (And.intro hp (And.intro hm ho)))
  clear h0 h1 hp hm ho
  go_enter Tryz.func23, Tryz.ntmps23
  go_wp2_with fail
  generalize w.alloc (.cells #[.slice A1 S.length c1, .slice A2 C.length c2] 35) = w1 at *
  refine (read_at 0 0 rfl HH.out.1 HH.out.2.1 (by omega) HH.out.2.2.1).mono ?_; rintro e w2 ⟨rfl, hb2⟩
  go_wp2_with fail
  refine (body_one _).mono ?_; rintro e w3 ⟨rfl, hb3⟩
  have hB3 : Below w1.heap.size w1 w3 := hb2.trans (hb3.mono hb2.size)
  have hk3 := hk1.below hB3 hk1.lt
  have f1 : w3.cell? ⟨w.heap.size, 0, none⟩ = some (.slice A1 S.length c1) := hk3.cell 0
  have f2 : w3.cell? ⟨w.heap.size, 1, none⟩ = some (.slice A2 C.length c2) := hk3.cell 1
  have hP3 := HH.out.1.below hB3
  go_wp2_with fail
  refine (read_at 2 2 rfl hP3 HH.out.2.1 (by omega) HH.out.2.2.2).mono ?_; rintro e w4 ⟨rfl, hb4⟩
  go_wp2
  go_ret3
  exact ⟨rfl, hb1.trans ((hB3.mono hb1.size).trans (hb4.mono (Nat.le_trans hb1.size hB3.size)))⟩
end Go.Proofs.YtlnilfcjcoclhaaGreatDoor
/- Package twin: copied. -/
namespace Go.Proofs.YtlnilfcjcoclhaaGreatDoor
open Go.RowKit

def valAt (w : World) (g i : Nat) : Value := (w.cell? ⟨g, i, none⟩).getD undef
/-- what the copying region keeps -/
def CopT (w1 : World) (h : Nat) (x y : Value) (w' : World) : Prop :=
  w'.cell? ⟨h, 0, none⟩ = some x ∧ w'.cell? ⟨h, 1, none⟩ = some y ∧ w'.cell? ⟨h + 1, 0, none⟩ = some (valAt w' (h + 1) 0) ∧ w'.cell? ⟨h + 1, 1, none⟩ = some (valAt w' (h + 1) 1) ∧ w'.frozen? ⟨h + 1, 0, none⟩ = false ∧ w'.frozen? ⟨h + 1, 1, none⟩ = false ∧
    (Below (h + 1) w1 w' ∧ ∃ a b, KH.Blk w' (h + 1) 35 #[a, b])
theorem copT_of {h : Nat} {x y : Value} {t : TypeId} {w1 w' : World} (k1 : KH.Blk w1 h t #[x, y]) (hb : Below (h + 1) w1 w') (k2 : ∃ a b, KH.Blk w' (h + 1) 35 #[a, b]) : CopT w1 h x y w' := by
  have j1 := k1.below hb (by omega)
  have j2 := k2
  obtain ⟨a, b, j2⟩ := j2
  have e0 : w'.cell? ⟨h + 1, 0, none⟩ = some a := j2.cell 0
  have e1 : w'.cell? ⟨h + 1, 1, none⟩ = some b := j2.cell 1
  refine ⟨j1.cell 0, j1.cell 1, ?_, ?_, j2.frozen 0, j2.frozen 1, hb, k2⟩
  · unfold valAt; rw [e0]; rfl
  · unfold valAt; rw [e1]; rfl
theorem copT_grown {h : Nat} {x y : Value} {t : TypeId} {w1 w w' : World} (hs : CopT w1 h x y w) (hg : w.grownBy w' (Value.slice none 0 0).ownBlock) (k1 : KH.Blk w1 h t #[x, y]) : CopT w1 h x y w' := by
  obtain ⟨_, _, _, _, _, _, hb, a, b, k2⟩ := hs
  have hb2 := (Below.refl w.heap.size w).grown hg (Nat.le_refl _) (fun _ h => by cases h)
  exact copT_of k1 (hb.trans (hb2.mono (Nat.le_of_lt k2.lt))) ⟨a, b, k2.below hb2 k2.lt⟩
theorem copT_set {h : Nat} {x y u u' : Value} {t : TypeId} {w1 w : World} (hs : CopT w1 h x y w) (k1 : KH.Blk w1 h t #[x, y]) : CopT w1 h x y ((w.setCell ⟨h + 1, 0, none⟩ u).setCell ⟨h + 1, 1, none⟩ u') := by
  obtain ⟨_, _, _, _, _, _, hb, a, b, k2⟩ := hs
  exact copT_of k1 ((hb.setCell (p := ⟨h + 1, 0, none⟩) (Nat.le_refl _) u).setCell (p := ⟨h + 1, 1, none⟩) (Nat.le_refl _) u') ⟨u, u', (k2.set_ 0 u).set_ 1 u'⟩
theorem copT_b {h : Nat} {x y : Value} {w1 w : World} (hs : CopT w1 h x y w) : Below h w1 w := hs.2.2.2.2.2.2.1.mono (by omega)
theorem load_pl1 {fn : Func} {p : Nat} {tmps : Array Value} {w : World} {h : Nat} {x y : Value}
    (hr : fn.results = #[.cell p 35]) (hp : tmps.getD p undef = .pointer (some ⟨h, 0, none⟩))
    (h0 : w.cell? ⟨h, 0, none⟩ = some x) (h1 : w.cell? ⟨h, 1, none⟩ = some y) : (results fn tmps).run Tryz.prog w = .ok (.agg #[x, y]) w := by
  rw [Array.getD_eq_getD_getElem?] at hp
  simp [results, hr, hp, go_sem, h0, h1]
theorem ret_pl1 {fn : Func} {p : Nat} {a : Act} {w w0 : World} {h : Nat} {x0 y0 : Value} {S : List ByteArray} {C : List (Int × ByteArray)} {A1 A2 : Option Addr} {c1 c2 : Nat}
    (hr : fn.results = #[.cell p 35]) (hp : a.tmps.getD p undef = .pointer (some ⟨h, 0, none⟩)) (hd : a.defers = [])
    (hk : KH.Blk w h 35 #[x0, y0]) (o1 : w.ownsRow w0.heap.size 9 1 (.slice A1 S.length c1) S.length (S.map .string)) (o2 : w.ownsRow w0.heap.size 122 2 (.slice A2 C.length c2) C.length (shC C)) (hB : Below w0.heap.size w0 w) (hh : w0.heap.size ≤ h) :
    bodyPost Tryz.prog fn (fun e w' => ∃ v', e = .returned v' ∧ PlIn w' w0.heap.size v' S C ∧ Below w0.heap.size w0 w') .ret a ((w.setCell ⟨h, 0, none⟩ (.slice A1 S.length c1)).setCell ⟨h, 1, none⟩ (.slice A2 C.length c2)) := by
  have h1 := hk.set_ 0 (.slice A1 S.length c1)
  have h2 := h1.set_ 1 (.slice A2 C.length c2)
  have p1 := ownsRow_setCell_other (a := ⟨h, 0, none⟩) o1 (KH.own_blk_ne o1 hk (by decide)) (.slice A1 S.length c1)
  have p2 := ownsRow_setCell_other (a := ⟨h, 1, none⟩) p1 (KH.own_blk_ne p1 h1 (by decide)) (.slice A2 C.length c2)
  have q1 := ownsRow_setCell_other (a := ⟨h, 0, none⟩) o2 (KH.own_blk_ne o2 hk (by decide)) (.slice A1 S.length c1)
  have q2 := ownsRow_setCell_other (a := ⟨h, 1, none⟩) q1 (KH.own_blk_ne q1 h1 (by decide)) (.slice A2 C.length c2)
  refine bodyPost_ret (v := .agg #[.slice A1 S.length c1, .slice A2 C.length c2]) (load_pl1 hr hp ?_ ?_) hd ⟨_, rfl, ⟨A1, c1, A2, c2, rfl, own_lo o1, own_lo o2, KH.Reads.of_own p2, KH.Reads.of_own q2⟩, (hB.setCell (p := ⟨h, 0, none⟩) hh _).setCell (p := ⟨h, 1, none⟩) hh _⟩
  · have := h2.cell 0; simpa using this
  · have := h2.cell 1; simpa using this
theorem copT_start {h : Nat} {x y : Value} {t : TypeId} {w1 : World} (k1 : KH.Blk w1 h t #[x, y]) (k2 : ∃ a b, KH.Blk w1 (h + 1) 35 #[a, b]) : CopT w1 h x y w1.drew :=
  copT_of (w' := w1.drew) k1 (Below.refl _ _).drew k2

set_option maxRecDepth 100000 in
theorem tcopied_any {v : Value} {S : List ByteArray} {C : List (Int × ByteArray)} {w : World} {lo : Nat} (h : PlIn w lo v S C) (hp : pOk S C) :
    Calls Tryz.prog 45 #[v] w fun e w' => ∃ v', e = .returned v' ∧ PlIn w' w.heap.size v' S C ∧ Below w.heap.size w w' := by
  obtain ⟨A1, c1, A2, c2, rfl, -, -, hS, hC⟩ := h
  have hn1 := hp.len.1
  have hn2 := hp.len.2
  have h1 := hp.1
  obtain ⟨i0, hi, hz0, hz1, hz2⟩ := info_parts str_info
  obtain ⟨i1, hi1, hy0, hy1, hy2⟩ := info_parts put_info
  have hb1 := ((Below.refl w.heap.size w).alloc (Nat.le_refl _) (.cells #[.slice A1 S.length c1, .slice A2 C.length c2] 35)).alloc (by simp) (.cells #[.slice none 0 0, .slice none 0 0] 35)
  have hS1 := hS.below hb1
  have hC1 := KH.Reads.below hC hb1
  have hk1 := (KH.Blk.new w 35 #[.slice A1 S.length c1, .slice A2 C.length c2]).alloc (.cells #[.slice none 0 0, .slice none 0 0] 35)
  have hk2 := blk1 w (.cells #[.slice A1 S.length c1, .slice A2 C.length c2] 35) 35 #[.slice none 0 0, .slice none 0 0]
  have hW0 : ((w.alloc (.cells #[.slice A1 S.length c1, .slice A2 C.length c2] 35)).alloc (.cells #[.slice none 0 0, .slice none 0 0] 35)).heap.size = w.heap.size + 2 := by simp
  have h1c1 : ∀ u ∈ S.map Value.string, u.oneCell' = true := by intro u hu; obtain ⟨b, _, rfl⟩ := List.mem_map.1 hu; rfl
  have h2c1 : ∀ u ∈ shC C, u.oneCell' = true := by
    intro u hu; unfold shC at hu; obtain ⟨b, _, hb⟩ := List.mem_flatMap.1 hu
    simp at hb; rcases hb with rfl | rfl <;> rfl
  have hz : w.heap.size ≤ w.heap.size := Nat.le_refl _
  clear hS hC hp
  go_enter Tryz.func45, Tryz.ntmps45
  go_wp2
  generalize ((w.alloc (.cells #[.slice A1 S.length c1, .slice A2 C.length c2] 35)).alloc (.cells #[.slice none 0 0, .slice none 0 0] 35)) = w1 at *
  have hB1 : w.heap.size ≤ w1.heap.size := by omega
  go_region_held3 (fun w' => w'.cell? ⟨w.heap.size, 0, none⟩ = some (.slice A1 S.length c1) ∧ w'.cell? ⟨w.heap.size, 1, none⟩ = some (.slice A2 C.length c2) ∧ w'.cell? ⟨w.heap.size + 1, 0, none⟩ = some (valAt w' (w.heap.size + 1) 0) ∧ w'.cell? ⟨w.heap.size + 1, 1, none⟩ = some (valAt w' (w.heap.size + 1) 1) ∧ w'.frozen? ⟨w.heap.size + 1, 0, none⟩ = false ∧ w'.frozen? ⟨w.heap.size + 1, 1, none⟩ = false ∧ (Below (w.heap.size + 1) w1 w' ∧ ∃ a b, KH.Blk w' (w.heap.size + 1) 35 #[a, b])) (first | exact copT_start hk1 ⟨_, _, hk2⟩ | exact copT_grown (by assumption) (by assumption) hk1 | exact copT_set (by assumption) hk1) (first
    | (refine KH.step_append_any _ (by rfl) _ _ _ (by rfl) w.heap.size 9 i0 _ 1 16 Tryz.underlying30 hi hz0 hz1 hz2 rfl (by omega) (.slice none 0 0) 0 [] (by rfl) ⟨by simp, .inl ⟨rfl, rfl⟩⟩ w.heap.size A1 S.length c1 _ (by rfl) (hS1.below (copT_b (x := .slice A1 S.length c1) (y := .slice A2 C.length c2) (by assumption))) h1c1 (by unfold maxLen; omega) (by omega) (Nat.le_trans hB1 (copT_b (x := .slice A1 S.length c1) (y := .slice A2 C.length c2) (by assumption)).size) ?_; intro vs ws hown1 hgrow1 hlies1; obtain ⟨As, cs, rfl⟩ := KH.own_form hown1)
    | (refine KH.step_append_any _ (by rfl) _ _ _ (by rfl) w.heap.size 122 i1 _ 2 24 Tryz.underlying33 hi1 hy0 hy1 hy2 rfl (by omega) (.slice none 0 0) 0 [] (by rfl) ⟨by simp, .inl ⟨rfl, rfl⟩⟩ w.heap.size A2 C.length c2 _ (by rfl) (KH.Reads.below hC1 (copT_b (x := .slice A1 S.length c1) (y := .slice A2 C.length c2) (by assumption))) h2c1 (by unfold maxLen; omega) (by omega) (Nat.le_trans hB1 (copT_b (x := .slice A1 S.length c1) (y := .slice A2 C.length c2) (by assumption)).size) ?_; intro vc wc hown2 hgrow2 hlies2; obtain ⟨Ac, cc, rfl⟩ := KH.own_form hown2))
  go_wp2
  simp only [Nat.zero_add, List.nil_append] at hown1 hown2
  have hbA := (Below.refl ws.heap.size ws).grown hgrow2 (Nat.le_refl _) (fun _ h => by cases h)
  have hbS := ((Below.refl w1.heap.size w1).drew.grown hgrow1 (Nat.le_refl _) (fun _ h => by cases h))
  have hbW : Below w1.heap.size w1 wc := hbS.trans (hbA.mono hbS.size)
  have o1 := KH.own_below hown1 hbA
  have kw := hk2.below hbW hk2.lt
  exact ret_pl1 Tryz.results45 rfl rfl kw o1 hown2 (hb1.trans (hbW.mono hB1)) (by omega)
end Go.Proofs.YtlnilfcjcoclhaaGreatDoor
