import Derived.Test.YtlnilfcjcoclhaaGreatDoorVaI
import Derived.Test.YtlnilfcjcoclhaaGreatDoorTwD
/- Package keyholetop: many, short. -/
namespace Go.Proofs.YtlnilfcjcoclhaaGreatDoor
open Go.RowKit Go.Shelf
attribute [local go_sem] Oper.semAt_some

set_option maxRecDepth 100000 in
theorem tmany_any (c n : Nat) (hn : n ≤ 1000) (w : World) :
    Calls Tryz.prog 14 #[.int .u8 c, .int .i64 n] w fun e w' => e = .returned (.string (tx n fun _ => c)) ∧ Below w.heap.size w w' := by
  obtain ⟨i0, hi, hz0, hz1, hz2⟩ := info_parts byte_info
  go_enter Tryz.func14, Tryz.ntmps14
  go_wp2_with (at_make; refine wpList_make_full _ rfl _ _ 84 rfl w.heap.size 5 i0 (.int .u8 0) 1 Tryz.underlying84 hi hz0 hz1 .i64 .i64 _ _ n rfl rfl rfl rfl (by rw [hz2]; omega) (by unfold maxLen; omega) (Nat.le_refl _) ?_; intro w3 hown3 hg3)
  have hb3 : Below w.heap.size w w3 := (Below.refl _ _).grown hg3 (Nat.le_refl _) (fun _ h => by cases h)
  rw [show (madeCells (Value.int .u8 0).cells (n * 1)).toList = bl n (fun o => if o < 0 then c else 0) by
    rw [Nat.mul_one]
    refine (toList_madeCells_one _ _).trans ?_
    refine List.ext_getElem (by simp [bl]) fun j h1 h2 => ?_
    simp [bl]] at hown3
  clear hg3
  go_loopw [6] (fun i wr => ∃ k : Nat, k ≤ n ∧ i = .int .i64 k ∧ wr.ownsRow w.heap.size 5 1 (.slice (some ⟨w.heap.size, 0, none⟩) n n) n (bl n fun o => if o < k then c else 0) ∧ Below w.heap.size w wr) (fun i _ => n - (intOf i).toNat)
  case atStart => exact ⟨0, Nat.zero_le _, rfl, hown3, hb3⟩
  case round =>
    obtain ⟨k, hk, rfl, hown, hb⟩ := hrel
    clear hown3 hb3
    by_cases hlt : k < n
    · have hl7 := (hown.cellAt k (by omega)).trans (bl_get _ hlt)
      have hf7 := hown.frozenAt k
      have HS : Hid ((bl n fun o => if o < k then c else 0).set k (.int .u8 c) = bl n fun o => if o < k + 1 then c else 0) := by
        unfold Hid
        rw [bl_set]
        refine bl_congr fun o _ => ?_
        by_cases e : o = k
        · subst e; rw [if_pos rfl, if_pos (by omega)]
        · rw [if_neg e]
          by_cases h : o < k
          · rw [if_pos h, if_pos (by omega)]
          · rw [if_neg h, if_neg (by omega)]
      have HO := KH.hid (hown.stored k (.int .u8 c)).1
      generalize (if k < k then c else 0) = old at *
      clear hown
      go_wp2
      go_roundw
      case rel => exact ⟨k + 1, by omega, by go_num, by rw [← HS.out]; exact HO.out, hb.setCell (p := ⟨w.heap.size, k, none⟩) (Nat.le_refl _) _⟩
      case measure => simp [intOf]; omega
    · obtain rfl : k = n := by omega
      rw [bl_congr (G := fun _ => c) (fun o ho => by rw [if_pos ho]), bl_map] at hown
      have hback := conv_own hown
      clear hown
      go_wp2
      go_ret
      exact ⟨rfl, hb⟩

/-- are texts short? -/
def shrt (l : List ByteArray) : Bool := l.all fun x => decide (x.size ≤ 200)
theorem shrt_mem {l : List ByteArray} (h : shrt l = true) {x : ByteArray} (hx : x ∈ l) : x.size ≤ 200 := by
  have := List.all_eq_true.1 h x hx
  exact of_decide_eq_true this
theorem shrt_no {l : List ByteArray} {x : ByteArray} (hx : x ∈ l) (h : 200 < x.size) : shrt l = false := by
  cases hs : shrt l
  · rfl
  · exact absurd (shrt_mem hs hx) (by omega)
theorem shrt_step {l : List ByteArray} {x : ByteArray} {k : Nat} (h : shrt (l.take k) = true) (hx : l[k]? = some x) (hs : x.size ≤ 200) : shrt (l.take (k + 1)) = true := by
  unfold shrt at h ⊢
  rw [List.take_add_one, hx, List.all_append, h]
  simpa using hs
set_option maxRecDepth 100000 in
theorem tshort_any {B n : Nat} {A : Option Addr} (c : Nat) {l : List ByteArray} {w : World} (h : KH.Reads w B 1 A n (l.map .string)) (hn : n ≤ maxLen) (hsz : ∀ x ∈ l, x.size ≤ maxLen) :
    Calls Tryz.prog 11 #[.slice A n c] w fun e w' => e = .returned (.bool (shrt l)) ∧ w = w' := by
  have hl : l.length = n := by have := h.1; simpa using this
  have hm : n ≤ 9223372036854775807 := by unfold maxLen at hn; omega
  have HL := KH.hid (And.intro hl hsz); clear hl hsz
  go_enter Tryz.func11, Tryz.ntmps11
  go_wp2
  go_loopw [3] (fun i wr => ∃ k : Nat, k ≤ n ∧ i = .int .i64 k ∧ Hid (shrt (l.take k) = true) ∧ w = wr) (fun i _ => n - (intOf i).toNat)
  case atStart => exact ⟨0, Nat.zero_le _, rfl, rfl, rfl⟩
  case round =>
    obtain ⟨k, hk, rfl, HS, rfl⟩ := hrel
    by_cases hlt : k < n
    · obtain ⟨ad, u, rfl, hab, hx, hc1⟩ := h.at_ hlt
      rw [List.getElem?_map] at hx
      obtain ⟨b, hb, rfl⟩ : ∃ b, l[k]? = some b ∧ u = .string b := by
        cases hq : l[k]? with
        | none => rw [hq] at hx; cases hx
        | some b => rw [hq] at hx; exact ⟨b, rfl, by simpa using hx.symm⟩
      have hbm : b ∈ l := List.mem_of_getElem? hb
      have hbz : b.size ≤ 9223372036854775807 := by have := HL.out.2 b hbm; unfold maxLen at this; exact this
      have HB := KH.hid (And.intro hb hbm)
      clear hb hbm hx
      by_cases h2 : b.size ≤ 200
      · have hd : decide ((200 : Int) < (b.size : Int)) = false := by rw [decide_eq_false_iff_not]; omega
        go_wp2
        go_roundw
        case rel => exact ⟨k + 1, by omega, by go_num, shrt_step HS.out HB.out.1 h2, by first | rfl | trivial⟩
        case measure => simp [intOf]; omega
      · have hd : decide ((200 : Int) < (b.size : Int)) = true := by rw [decide_eq_true_iff]; omega
        have HF : Hid (shrt l = false) := shrt_no HB.out.2 (by omega)
        go_wp2
        go_ret
        exact ⟨KH.ret_bool HF.out.symm, rfl⟩
    · obtain rfl : k = n := by omega
      have HT : Hid (shrt l = true) := by
        have := HS.out
        rw [List.take_of_length_le (by have := HL.out.1; omega)] at this
        exact this
      go_wp2
      go_ret
      exact ⟨KH.ret_bool HT.out.symm, rfl⟩
end Go.Proofs.YtlnilfcjcoclhaaGreatDoor
/- Package keyholetop: large. -/
namespace Go.Proofs.YtlnilfcjcoclhaaGreatDoor
open Go.RowKit Go.Shelf
attribute [local go_sem] Oper.semAt_some

/-- a step of a script, as it lies there -/
structure Stp where
  A1 : Option Addr
  n1 : Nat
  c1 : Nat
  A2 : Option Addr
  n2 : Nat
  c2 : Nat
  d : Int
  A3 : Option Addr
  n3 : Nat
  c3 : Nat
  A4 : Option Addr
  n4 : Nat
  c4 : Nat
  pl : List Int
  tx : List ByteArray
  fa : List Int
  ot : List Int
def IntR (l : List Int) : Prop := ∀ x ∈ l, -9223372036854775808 ≤ x ∧ x ≤ 9223372036854775807
structure Stp.Ok (s : Stp) (w : World) (B : Nat) : Prop where
  h1 : KH.Reads w B 1 s.A1 s.n1 (s.pl.map (.int .i64))
  m1 : s.n1 ≤ maxLen
  r1 : IntR s.pl
  h2 : KH.Reads w B 1 s.A2 s.n2 (s.tx.map .string)
  m2 : s.n2 ≤ maxLen
  r2 : ∀ x ∈ s.tx, x.size ≤ maxLen
  h3 : KH.Reads w B 1 s.A3 s.n3 (s.fa.map (.int .i64))
  m3 : s.n3 ≤ maxLen
  r3 : IntR s.fa
  h4 : KH.Reads w B 1 s.A4 s.n4 (s.ot.map (.int .i64))
  m4 : s.n4 ≤ maxLen
  r4 : IntR s.ot
  rd : -9223372036854775808 ≤ s.d ∧ s.d ≤ 9223372036854775807
theorem Stp.Ok.below {s : Stp} {w w' : World} {B B' : Nat} (h : s.Ok w B) (hb : Below B w w') (hB : B ≤ B') : s.Ok w' B' :=
  ⟨(h.h1.below hb).more hB, h.m1, h.r1, (h.h2.below hb).more hB, h.m2, h.r2, (h.h3.below hb).more hB, h.m3, h.r3, (h.h4.below hb).more hB, h.m4, h.r4, h.rd⟩
/-- its cells -/
def Stp.At (s : Stp) (w : World) (p : Addr) : Prop :=
  w.cell? p = some (.slice s.A1 s.n1 s.c1) ∧ w.cell? ⟨p.block, p.off + 1, none⟩ = some (.slice s.A2 s.n2 s.c2) ∧ w.cell? ⟨p.block, p.off + 2, none⟩ = some (.int .i64 s.d) ∧
    w.cell? ⟨p.block, p.off + 3, none⟩ = some (.slice s.A3 s.n3 s.c3) ∧ w.cell? ⟨p.block, p.off + 4, none⟩ = some (.slice s.A4 s.n4 s.c4)
/-- a slice of steps -/
def StepsIn (w : World) (B : Nat) (A : Option Addr) (m : Nat) (L : Nat → Stp) : Prop :=
  0 < m → ∃ ad, A = some ad ∧ ad.block < B ∧ ∀ k, k < m → (L k).At w (ad.add (k * 5)) ∧ (L k).Ok w B
theorem Stp.At.below {s : Stp} {w w' : World} {B : Nat} {p : Addr} (h : s.At w p) (hb : Below B w w') (hp : p.block < B) : s.At w' p :=
  ⟨(hb.cell hp).trans h.1, (hb.cell (p := ⟨p.block, p.off + 1, none⟩) hp).trans h.2.1, (hb.cell (p := ⟨p.block, p.off + 2, none⟩) hp).trans h.2.2.1, (hb.cell (p := ⟨p.block, p.off + 3, none⟩) hp).trans h.2.2.2.1, (hb.cell (p := ⟨p.block, p.off + 4, none⟩) hp).trans h.2.2.2.2⟩
theorem StepsIn.below {w w' : World} {B B' m : Nat} {A : Option Addr} {L : Nat → Stp} (h : StepsIn w B A m L) (hb : Below B w w') (hB : B ≤ B') : StepsIn w' B' A m L := fun hm => by
  obtain ⟨ad, hA, hl, hk⟩ := h hm
  exact ⟨ad, hA, by omega, fun k hk' => ⟨(hk k hk').1.below hb (by rw [KH.block_of_add]; exact hl), (hk k hk').2.below hb hB⟩⟩
/-- is a step small? -/
def Stp.small (s : Stp) : Bool := decide (s.n1 ≤ 6) && decide (s.n2 ≤ 6) && shrt s.tx && decide (s.n3 ≤ 100) && decide (s.n4 ≤ 100)
theorem Stp.small_iff {s : Stp} : s.small = true ↔ s.n1 ≤ 6 ∧ s.n2 ≤ 6 ∧ shrt s.tx = true ∧ s.n3 ≤ 100 ∧ s.n4 ≤ 100 := by
  unfold Stp.small; simp [and_assoc]
set_option maxHeartbeats 1000000 in
set_option maxRecDepth 100000 in
theorem large_any {m : Nat} {A : Option Addr} (c : Nat) {L : Nat → Stp} {w : World} (h : StepsIn w w.heap.size A m L) (hm : m ≤ maxLen) :
    Calls Tryz.prog 5 #[.slice A m c] w fun e w' => ∃ b, e = .returned (.bool b) ∧ (b = false → m ≤ 8 ∧ ∀ k, k < m → (L k).small = true) ∧ Below w.heap.size w w' := by
  unfold maxLen at hm
  by_cases h8 : m ≤ 8
  · have d8 : decide ((m : Int) ≤ 8) = true := by rw [decide_eq_true_iff]; omega
    go_enter Tryz.func5, Tryz.ntmps5
    go_wp2
    go_loopw [3] (fun i wr => ∃ k : Nat, k ≤ m ∧ i = .int .i64 k ∧ Hid (∀ j, j < k → (L j).small = true) ∧ Below w.heap.size w wr) (fun i _ => m - (intOf i).toNat)
    case atStart => exact ⟨0, Nat.zero_le _, rfl, KH.hid (fun j hj => absurd hj (by omega)), Below.refl _ _⟩
    case round =>
      obtain ⟨k, hk, rfl, HS, hb⟩ := hrel
      by_cases hlt : k < m
      · obtain ⟨ad, rfl, hab, hx⟩ := h (by omega)
        obtain ⟨hAt, hOk⟩ := hx k hlt
        have hAt' := hAt.below hb (by rw [KH.block_of_add]; exact hab)
        have hOk' := hOk.below hb hb.size
        obtain ⟨hc0, hc1, hc2, hc3, hc4⟩ := hAt'
        obtain ⟨s, hs⟩ : ∃ s, s = L k := ⟨_, rfl⟩
        rw [← hs] at hc0 hc1 hc2 hc3 hc4 hOk'
        have HN := KH.hid hs
        clear hs
        have kw := KH.Blk.new wr 32 #[.slice s.A1 s.n1 s.c1, .slice s.A2 s.n2 s.c2, .int .i64 s.d, .slice s.A3 s.n3 s.c3, .slice s.A4 s.n4 s.c4]
        have e0 := kw.cell 0
        have e1 := kw.cell 1
        have e3 := kw.cell 3
        have e4 := kw.cell 4
        simp only [List.getElem?_toArray, List.getElem?_cons_zero, List.getElem?_cons_succ] at e0 e1 e3 e4
        have hb2 := hb.alloc hb.size (.cells #[.slice s.A1 s.n1 s.c1, .slice s.A2 s.n2 s.c2, .int .i64 s.d, .slice s.A3 s.n3 s.c3, .slice s.A4 s.n4 s.c4] 32)
        have HO := KH.hid (hOk'.below ((Below.refl wr.heap.size wr).alloc (Nat.le_refl _) (.cells #[.slice s.A1 s.n1 s.c1, .slice s.A2 s.n2 s.c2, .int .i64 s.d, .slice s.A3 s.n3 s.c3, .slice s.A4 s.n4 s.c4] 32)) (Nat.le_refl _))
        have HB := KH.hid hb2
        clear hAt hOk hx hOk' hb hb2 kw
        have q1 := HO.out.m1
        have q2 := HO.out.m2
        have q3 := HO.out.m3
        have q4 := HO.out.m4
        unfold maxLen at q1 q2 q3 q4
        by_cases g1 : s.n1 ≤ 6
        · have d1 : decide ((6 : Int) < (s.n1 : Int)) = false := by rw [decide_eq_false_iff_not]; omega
          by_cases g2 : s.n2 ≤ 6
          · have d2 : decide ((6 : Int) < (s.n2 : Int)) = false := by rw [decide_eq_false_iff_not]; omega
            go_wp2_with fail
            refine (tshort_any _ HO.out.h2 HO.out.m2 HO.out.r2).mono ?_; rintro e w2 ⟨rfl, rfl⟩
            cases g5 : shrt s.tx
            · go_wp2
              go_ret
              exact ⟨true, rfl, (fun h => by cases h), HB.out⟩
            · by_cases g3 : s.n3 ≤ 100
              · have d3 : decide ((100 : Int) < (s.n3 : Int)) = false := by rw [decide_eq_false_iff_not]; omega
                by_cases g4 : s.n4 ≤ 100
                · have d4 : decide ((100 : Int) < (s.n4 : Int)) = false := by rw [decide_eq_false_iff_not]; omega
                  go_wp2
                  go_roundw
                  case rel =>
                    refine ⟨k + 1, by omega, by go_num, KH.hid fun j hj => ?_, HB.out⟩
                    by_cases e : j = k
                    · subst e
                      rw [← HN.out]
                      exact Stp.small_iff.2 ⟨g1, g2, g5, g3, g4⟩
                    · exact HS.out j (by omega)
                  case measure => simp [intOf]; omega
                · have d4 : decide ((100 : Int) < (s.n4 : Int)) = true := by rw [decide_eq_true_iff]; omega
                  go_wp2
                  go_ret
                  exact ⟨true, rfl, (fun h => by cases h), HB.out⟩
              · have d3 : decide ((100 : Int) < (s.n3 : Int)) = true := by rw [decide_eq_true_iff]; omega
                go_wp2
                go_ret
                exact ⟨true, rfl, (fun h => by cases h), HB.out⟩
          · have d2 : decide ((6 : Int) < (s.n2 : Int)) = true := by rw [decide_eq_true_iff]; omega
            go_wp2
            go_ret
            exact ⟨true, rfl, (fun h => by cases h), HB.out⟩
        · have d1 : decide ((6 : Int) < (s.n1 : Int)) = true := by rw [decide_eq_true_iff]; omega
          go_wp2
          go_ret
          exact ⟨true, rfl, (fun h => by cases h), HB.out⟩
      · obtain rfl : k = m := by omega
        go_wp2
        go_ret
        exact ⟨decide ((8 : Int) < (k : Int)), rfl, fun _ => ⟨h8, HS.out⟩, hb⟩
  · have d8 : decide ((m : Int) ≤ 8) = false := by rw [decide_eq_false_iff_not]; omega
    go_enter Tryz.func5, Tryz.ntmps5
    go_wp2
    go_loopw [3] (fun i wr => i = .int .i64 0 ∧ wr = w) (fun i _ => m - (intOf i).toNat)
    case atStart => exact ⟨rfl, rfl⟩
    case round =>
      obtain ⟨rfl, rfl⟩ := hrel
      have hm0 : (0 : Int) < (m : Int) := by omega
      go_wp2
      go_ret
      exact ⟨decide ((8 : Int) < (m : Int)), rfl, (fun h => by rw [decide_eq_false_iff_not] at h; exact absurd (show (8 : Int) < (m : Int) by omega) h), Below.refl _ _⟩
end Go.Proofs.YtlnilfcjcoclhaaGreatDoor
/- Package keyholetop: what a House is. -/
namespace Go.Proofs.YtlnilfcjcoclhaaGreatDoor
open Go.RowKit

/-- a row of texts that lies in a block of which Q is true -/
def RowN (w : World) (Q : Nat → Prop) (A : Option Addr) (n : Nat) (l : List ByteArray) : Prop :=
  (l.map Value.string).length = n * 1 ∧ (0 < n → ∃ ad, A = some ad ∧ ad.block < w.heap.size ∧ Q ad.block ∧ ∀ j u, (l.map Value.string)[j]? = some u → w.cell? (ad.add j) = some u)
section
variable {w w' : World} {Q Q' : Nat → Prop} {A : Option Addr} {n : Nat} {l : List ByteArray}
theorem RowN.reads (h : RowN w Q A n l) : KH.Reads w w.heap.size 1 A n (l.map .string) :=
  ⟨h.1, fun hn => by obtain ⟨ad, h1, h2, _, h3⟩ := h.2 hn; exact ⟨ad, h1, h2, h3⟩⟩
theorem RowN.of_reads (h : KH.Reads w w.heap.size 1 A n (l.map .string)) (hq : ∀ ad, A = some ad → ad.block < w.heap.size → Q ad.block) : RowN w Q A n l :=
  ⟨h.1, fun hn => by obtain ⟨ad, h1, h2, h3⟩ := h.2 hn; exact ⟨ad, h1, h2, hq ad h1 h2, h3⟩⟩
theorem RowN.keep (h : RowN w Q A n l) (hs : w.heap.size ≤ w'.heap.size) (hk : ∀ p : Addr, p.block < w.heap.size → Q p.block → w'.cell? p = w.cell? p) : RowN w' Q A n l :=
  ⟨h.1, fun hn => by
    obtain ⟨ad, h1, h2, h3, h4⟩ := h.2 hn
    exact ⟨ad, h1, by omega, h3, fun j u hu => (hk _ (by rw [KH.block_of_add]; exact h2) (by rw [KH.block_of_add]; exact h3)).trans (h4 j u hu)⟩⟩
theorem RowN.imp (h : RowN w Q A n l) (hq : ∀ b, b < w.heap.size → Q b → Q' b) : RowN w Q' A n l :=
  ⟨h.1, fun hn => by obtain ⟨ad, h1, h2, h3, h4⟩ := h.2 hn; exact ⟨ad, h1, h2, hq _ h2 h3, h4⟩⟩
theorem RowN.below (h : RowN w Q A n l) (hb : Below w.heap.size w w') : RowN w' Q A n l := h.keep hb.size fun _ hp _ => hb.cell hp
theorem RowN.set (h : RowN w Q A n l) {p : Addr} (hp : ¬ Q p.block) (u : Value) : RowN (w.setCell p u) Q A n l :=
  h.keep (by simp) fun q _ hq => World.cell?_setCell_other w p q u (fun e => by subst e; exact hp hq)
theorem RowN.grown (h : RowN w Q A n l) {row : Option Nat} (hg : w.grownBy w' row) (hr : ∀ g, row = some g → ¬ Q g) : RowN w' Q A n l :=
  h.keep hg.size fun p hp hq => World.cell?_of_block (hg.block p.block hp (fun e => hr _ e.symm hq))
end
/-- a House's values -/
structure HsV where
  A1 : Option Addr
  c1 : Nat
  A2 : Option Addr
  c2 : Nat
  A3 : Option Addr
  c3 : Nat
  A4 : Option Addr
  c4 : Nat
  A5 : Option Addr
  c5 : Nat
  A6 : Option Addr
  c6 : Nat
def HsV.dv (x : HsV) (m : Nat) : Value := .slice x.A6 m x.c6
/-- where its rows may lie -/
def HQ (h lo hi : Nat) (A : Option Addr) (b : Nat) : Prop := b ≠ h ∧ (∀ ad, A = some ad → ad.block ≠ b) ∧ (b < lo ∨ hi ≤ b)
def hsC (x : HsV) (s sn : Nat) (N L : Nat) (key : ByteArray) (m q : Nat) : Array Value :=
  #[.slice x.A1 s x.c1, .slice x.A2 0 x.c2, .slice x.A3 sn x.c3, .slice x.A4 0 x.c4, .int .i64 0, .int .i64 N, .int .i64 L, .string key, .slice x.A5 m x.c5, .slice x.A6 q x.c6]
structure House (w : World) (base h lo hi : Nat) (S Sn : List ByteArray) (N L : Nat) (key : ByteArray) (said dr : List ByteArray) (x : HsV) : Prop where
  blk : KH.Blk w h 39 (hsC x S.length Sn.length N L key said.length dr.length)
  hb : base ≤ h
  p : RowN w (HQ h lo hi x.A6) x.A1 S.length S
  n : RowN w (HQ h lo hi x.A6) x.A3 Sn.length Sn
  s : RowN w (HQ h lo hi x.A6) x.A5 said.length said
  d : w.ownsRow base 9 1 (.slice x.A6 dr.length x.c6) dr.length (dr.map .string)
  dq : ∀ ad, x.A6 = some ad → ad.block < lo ∨ hi ≤ ad.block
section
variable {w w' : World} {base h lo hi : Nat} {S Sn : List ByteArray} {N L : Nat} {key : ByteArray} {said dr : List ByteArray} {x : HsV}
theorem House.dne (H : House w base h lo hi S Sn N L key said dr x) : ∀ ad, x.A6 = some ad → ad.block ≠ h := fun ad e q => by
  have := KH.own_blk_ne H.d H.blk (by decide)
  rw [e] at this
  exact this (by show some ad.block = some h; rw [q])
theorem House.pl (H : House w base h lo hi S Sn N L key said dr x) : PlIn w 0 (.agg #[.slice x.A1 S.length x.c1, .slice x.A2 0 x.c2]) S [] :=
  ⟨x.A1, x.c1, x.A2, x.c2, rfl, fun _ _ => Nat.zero_le _, fun _ _ => Nat.zero_le _, H.p.reads, KH.Reads.none_⟩
theorem House.pn (H : House w base h lo hi S Sn N L key said dr x) : PlIn w 0 (.agg #[.slice x.A3 Sn.length x.c3, .slice x.A4 0 x.c4]) Sn [] :=
  ⟨x.A3, x.c3, x.A4, x.c4, rfl, fun _ _ => Nat.zero_le _, fun _ _ => Nat.zero_le _, H.n.reads, KH.Reads.none_⟩
theorem House.below (H : House w base h lo hi S Sn N L key said dr x) (hb : Below w.heap.size w w') : House w' base h lo hi S Sn N L key said dr x :=
  ⟨H.blk.below hb H.blk.lt, H.hb, H.p.below hb, H.n.below hb, H.s.below hb, KH.own_below H.d hb, H.dq⟩
/-- a store into a block that is none of its own -/
theorem House.off (H : House w base h lo hi S Sn N L key said dr x) {p : Addr} (hp : lo ≤ p.block ∧ p.block < hi) (hh : h ≠ p.block) (u : Value) : House (w.setCell p u) base h lo hi S Sn N L key said dr x := by
  have hq : ¬ HQ h lo hi x.A6 p.block := fun q => by have := q.2.2; omega
  refine ⟨H.blk.far hh u, H.hb, H.p.set hq u, H.n.set hq u, H.s.set hq u, ownsRow_setCell_other H.d (fun e => ?_) u, H.dq⟩
  cases hA : x.A6 with
  | none => rw [hA] at e; cases e
  | some ad => rw [hA] at e; injection e with e; have := H.dq ad hA; omega
/-- all its rows lie off a range of new blocks -/
theorem House.range (H : House w base h 0 0 S Sn N L key said dr x) (hi : Nat) : House w base h w.heap.size hi S Sn N L key said dr x :=
  ⟨H.blk, H.hb, H.p.imp fun b hb q => ⟨q.1, q.2.1, .inl hb⟩, H.n.imp fun b hb q => ⟨q.1, q.2.1, .inl hb⟩, H.s.imp fun b hb q => ⟨q.1, q.2.1, .inl hb⟩, H.d, fun ad e => .inl (H.d.lt ad.block (by rw [e]; rfl)).2⟩
theorem House.free (H : House w base h lo hi S Sn N L key said dr x) : House w base h 0 0 S Sn N L key said dr x :=
  ⟨H.blk, H.hb, H.p.imp fun _ _ q => ⟨q.1, q.2.1, .inr (Nat.zero_le _)⟩, H.n.imp fun _ _ q => ⟨q.1, q.2.1, .inr (Nat.zero_le _)⟩, H.s.imp fun _ _ q => ⟨q.1, q.2.1, .inr (Nat.zero_le _)⟩, H.d, fun _ _ => .inr (Nat.zero_le _)⟩
theorem House.dset (H : House w base h lo hi S Sn N L key said dr x) (i : Nat) (u : Value) : (w.setCell ⟨h, i, none⟩ u).ownsRow base 9 1 (.slice x.A6 dr.length x.c6) dr.length (dr.map .string) :=
  ownsRow_setCell_other (a := ⟨h, i, none⟩) H.d (KH.own_blk_ne H.d H.blk (by decide)) u
/-- another disk -/
theorem House.setP (H : House w base h lo hi S Sn N L key said dr x) {A1 A2 : Option Addr} {c1 c2 : Nat} {S' : List ByteArray} (hr : RowN w (HQ h lo hi x.A6) A1 S'.length S') :
    House ((w.setCell ⟨h, 0, none⟩ (.slice A1 S'.length c1)).setCell ⟨h, 1, none⟩ (.slice A2 0 c2)) base h lo hi S' Sn N L key said dr { x with A1 := A1, c1 := c1, A2 := A2, c2 := c2 } := by
  have hq : ∀ i, ¬ HQ h lo hi x.A6 (⟨h, i, none⟩ : Addr).block := fun i q => q.1 rfl
  refine ⟨?_, H.hb, (hr.set (hq 0) _).set (hq 1) _, (H.n.set (hq 0) _).set (hq 1) _, (H.s.set (hq 0) _).set (hq 1) _, ?_, H.dq⟩
  · have := (H.blk.set_ 0 (.slice A1 S'.length c1)).set_ 1 (.slice A2 0 c2)
    simpa [hsC] using this
  · exact ownsRow_setCell_other (a := ⟨h, 1, none⟩) (H.dset 0 (.slice A1 S'.length c1)) (KH.own_blk_ne (H.dset 0 (.slice A1 S'.length c1)) (H.blk.set_ 0 (.slice A1 S'.length c1)) (by decide)) _
/-- another disk of the nonces -/
theorem House.setN (H : House w base h lo hi S Sn N L key said dr x) {A3 A4 : Option Addr} {c3 c4 : Nat} {S' : List ByteArray} (hr : RowN w (HQ h lo hi x.A6) A3 S'.length S') :
    House ((w.setCell ⟨h, 2, none⟩ (.slice A3 S'.length c3)).setCell ⟨h, 3, none⟩ (.slice A4 0 c4)) base h lo hi S S' N L key said dr { x with A3 := A3, c3 := c3, A4 := A4, c4 := c4 } := by
  have hq : ∀ i, ¬ HQ h lo hi x.A6 (⟨h, i, none⟩ : Addr).block := fun i q => q.1 rfl
  refine ⟨?_, H.hb, (H.p.set (hq 2) _).set (hq 3) _, (hr.set (hq 2) _).set (hq 3) _, (H.s.set (hq 2) _).set (hq 3) _, ?_, H.dq⟩
  · have := (H.blk.set_ 2 (.slice A3 S'.length c3)).set_ 3 (.slice A4 0 c4)
    simpa [hsC] using this
  · exact ownsRow_setCell_other (a := ⟨h, 3, none⟩) (H.dset 2 (.slice A3 S'.length c3)) (KH.own_blk_ne (H.dset 2 (.slice A3 S'.length c3)) (H.blk.set_ 2 (.slice A3 S'.length c3)) (by decide)) _
/-- another source -/
theorem House.setS (H : House w base h lo hi S Sn N L key said dr x) (N' L' : Nat) :
    House (((w.setCell ⟨h, 4, none⟩ (.int .i64 0)).setCell ⟨h, 5, none⟩ (.int .i64 N')).setCell ⟨h, 6, none⟩ (.int .i64 L')) base h lo hi S Sn N' L' key said dr x := by
  have hq : ∀ i, ¬ HQ h lo hi x.A6 (⟨h, i, none⟩ : Addr).block := fun i q => q.1 rfl
  refine ⟨?_, H.hb, ((H.p.set (hq 4) _).set (hq 5) _).set (hq 6) _, ((H.n.set (hq 4) _).set (hq 5) _).set (hq 6) _, ((H.s.set (hq 4) _).set (hq 5) _).set (hq 6) _, ?_, H.dq⟩
  · have := ((H.blk.set_ 4 (.int .i64 0)).set_ 5 (.int .i64 N')).set_ 6 (.int .i64 L')
    simpa [hsC] using this
  · have h1 := ownsRow_setCell_other (a := ⟨h, 5, none⟩) (H.dset 4 (.int .i64 0)) (KH.own_blk_ne (H.dset 4 (.int .i64 0)) (H.blk.set_ 4 (.int .i64 0)) (by decide)) (.int .i64 N')
    exact ownsRow_setCell_other (a := ⟨h, 6, none⟩) h1 (KH.own_blk_ne h1 ((H.blk.set_ 4 (.int .i64 0)).set_ 5 (.int .i64 N')) (by decide)) _
/-- other texts -/
theorem House.setSaid (H : House w base h lo hi S Sn N L key said dr x) {A5 : Option Addr} {c5 : Nat} {said' : List ByteArray} (hr : RowN w (HQ h lo hi x.A6) A5 said'.length said') :
    House (w.setCell ⟨h, 8, none⟩ (.slice A5 said'.length c5)) base h lo hi S Sn N L key said' dr { x with A5 := A5, c5 := c5 } := by
  have hq : ∀ i, ¬ HQ h lo hi x.A6 (⟨h, i, none⟩ : Addr).block := fun i q => q.1 rfl
  refine ⟨?_, H.hb, H.p.set (hq 8) _, H.n.set (hq 8) _, hr.set (hq 8) _, H.dset 8 _, H.dq⟩
  have := H.blk.set_ 8 (.slice A5 said'.length c5)
  simpa [hsC] using this
/-- one more is drawn: behind the append, ahead of the store -/
theorem House.setDr (H : House w base h lo hi S Sn N L key said dr x) {A6 : Option Addr} {c6 : Nat} {b : ByteArray} (hz : hi ≤ w.heap.size) (hg : w.grownBy w' (Value.slice x.A6 dr.length x.c6).ownBlock)
    (ho : w'.ownsRow base 9 1 (.slice A6 (dr.length + 1) c6) (dr.length + 1) (dr.map .string ++ [.string b])) (hl : (Value.slice A6 (dr.length + 1) c6).ownBlock = (Value.slice x.A6 dr.length x.c6).ownBlock ∨ (Value.slice A6 (dr.length + 1) c6).ownBlock = some w.heap.size) :
    House (w'.setCell ⟨h, 9, none⟩ (.slice A6 (dr.length + 1) c6)) base h lo hi S Sn N L key said (dr ++ [b]) { x with A6 := A6, c6 := c6 } := by
  have hk := H.blk.grown hg (fun e => KH.own_blk_ne H.d H.blk (by decide) e.symm)
  have hq : ∀ b, b < w.heap.size → HQ h lo hi x.A6 b → HQ h lo hi A6 b := fun b hb q => ⟨q.1, fun ad e q' => by
    subst e
    rcases hl with e | e
    · cases hA : x.A6 with
      | none => rw [hA] at e; cases e
      | some a => rw [hA] at e; injection e with e; exact q.2.1 a hA (e.symm.trans q')
    · injection e with e; omega, q.2.2⟩
  have hr : ∀ g, (Value.slice x.A6 dr.length x.c6).ownBlock = some g → ¬ HQ h lo hi x.A6 g := fun g e q => by
    cases hA : x.A6 with
    | none => rw [hA] at e; cases e
    | some a => rw [hA] at e; injection e with e; exact q.2.1 a hA e
  have hh : ∀ i, ¬ HQ h lo hi A6 (⟨h, i, none⟩ : Addr).block := fun i q => q.1 rfl
  have hrow : ∀ {A n l}, RowN w (HQ h lo hi x.A6) A n l → RowN (w'.setCell ⟨h, 9, none⟩ (.slice A6 (dr.length + 1) c6)) (HQ h lo hi A6) A n l := fun r => by
    refine RowN.set ?_ (hh 9) _
    obtain ⟨r1, r2⟩ := r
    refine ⟨r1, fun hn => ?_⟩
    obtain ⟨ad, e1, e2, e3, e4⟩ := r2 hn
    have hs := hg.size
    exact ⟨ad, e1, by omega, hq _ e2 e3, fun j u hu => (World.cell?_of_block (hg.block _ (by rw [KH.block_of_add]; exact e2) (fun e => hr _ e.symm (by rw [KH.block_of_add]; exact e3)))).trans (e4 j u hu)⟩
  refine ⟨?_, H.hb, hrow H.p, hrow H.n, hrow H.s, ?_, fun ad e => ?_⟩
  · have := hk.set_ 9 (.slice A6 (dr.length + 1) c6)
    simpa [hsC] using this
  · have := ownsRow_setCell_other (a := ⟨h, 9, none⟩) ho (KH.own_blk_ne ho hk (by decide)) (.slice A6 (dr.length + 1) c6)
    simpa using this
  · subst e
    rcases hl with e | e
    · cases hA : x.A6 with
      | none => rw [hA] at e; cases e
      | some a => rw [hA] at e; injection e with e; have := H.dq a hA; show ad.block < lo ∨ hi ≤ ad.block; omega
    · injection e with e; exact .inr (by omega)
end
end Go.Proofs.YtlnilfcjcoclhaaGreatDoor
/- A make in a region that draws its order. -/
namespace Go.Proofs.YtlnilfcjcoclhaaGreatDoor
open Go.RowKit Go.Shelf

theorem step_make_full {P : Program} {ops : Array Oper} {w : World} {o : Oper} {a : Act} {K : Act → World → Prop} {Q : Exit → Act → World → Prop} {E : Prop} (hgd : o.guard = none) (l c : Operand) (t : TypeId) (hop : o.op = Op.makeSlice t l c)
    (base : Nat) (e : TypeId) (i : TypeInfo) (z : Value) (size : Nat) (h1 : P.underlying t = some (.slice e)) (h2 : P.info? e = some i) (h3 : i.zero = some z) (h4 : i.size = size)
    (kl kc : IntKind) (L C : Int) (n : Nat) (hl : a.eval l = .int kl L) (hc : a.eval c = .int kc C) (hL : L = (n : Int)) (hC : C = (n : Int)) (b2 : i.bytes * n ≤ 281474976710656) (b3 : n ≤ maxLen) (b4 : base ≤ w.heap.size)
    (hK : ∀ w', w'.ownsRow base e size (.slice (some ⟨w.heap.size, 0, none⟩) n n) n (madeCells z.cells (n * size)).toList → w.grownBy w' none → K (a.put o.dst (.slice (some ⟨w.heap.size, 0, none⟩) n n)) w') :
    if Region.wanted o (yielded ops a.tmps) = true then Oper.wp P o a w K Q else E := by
  have hw : Region.wanted o (yielded ops a.tmps) = true := by simp [Region.wanted, hgd]
  rw [if_pos hw]
  obtain ⟨w', hrun, r1, r2⟩ := run_make_full (P := P) w base t e i z size h1 h2 h3 h4 kl kc n b2 b3 b4
  subst hL
  subst hC
  unfold Oper.wp
  simp [execOp, hop, hl, hc, hrun, Result.andThen]
  exact hK w' r1 r2
end Go.Proofs.YtlnilfcjcoclhaaGreatDoor
/- Package vault: Format refused. -/
namespace Go.Proofs.YtlnilfcjcoclhaaGreatDoor
open Go.RowKit Go.Shelf
attribute [local go_sem] Oper.semAt_some

theorem ret_plR {fn : Func} {p u : Nat} {a : Act} {w : World} {h : Nat} {x0 y0 x y : Value} {k : Int} {R : Ending → World → Prop} (hk : KH.Blk w h 35 #[x0, y0])
    (hr : fn.results = #[.cell p 35, .tmp u]) (hp : a.tmps.getD p undef = .pointer (some ⟨h, 0, none⟩)) (hu : a.tmps.getD u undef = .int .i64 k) (hd : a.defers = [])
    (hR : R (.returned (.tuple #[.agg #[x, y], .int .i64 k])) ((w.setCell ⟨h, 0, none⟩ x).setCell ⟨h, 1, none⟩ y)) :
    bodyPost Tryz.prog fn R .ret a ((w.setCell ⟨h, 0, none⟩ x).setCell ⟨h, 1, none⟩ y) := by
  have k3 := (hk.set_ 0 x).set_ 1 y
  have c3 : ((w.setCell ⟨h, 0, none⟩ x).setCell ⟨h, 1, none⟩ y).cell? ⟨h, 0, none⟩ = some x := by simpa using k3.cell 0
  have c4 : ((w.setCell ⟨h, 0, none⟩ x).setCell ⟨h, 1, none⟩ y).cell? ⟨h, 1, none⟩ = some y := by simpa using k3.cell 1
  exact bodyPost_ret (load_pl hr hp hu c3 c4) hd hR
set_option maxRecDepth 100000 in
theorem vfmt_no {w : World} (n : Int) (hn : cntB n = false) :
    Calls Tryz.prog 8 #[.int .i64 n] w fun e w' => e = .returned (.tuple #[.agg #[.slice none 0 0, .slice none 0 0], .int .i64 1]) ∧ Below w.heap.size w w' := by
  have hb1 := (Below.refl w.heap.size w).alloc (Nat.le_refl _) (.cells #[.slice none 0 0, .slice none 0 0] 35)
  have k1 := KH.Blk.new w 35 #[.slice none 0 0, .slice none 0 0]
  have HF := KH.hid (vformat_no n hn (w := w.alloc (.cells #[.slice none 0 0, .slice none 0 0] 35)))
  go_enter Tryz.func8, Tryz.ntmps8
  go_wp2_with fail
  refine HF.out.mono ?_; rintro e w2 ⟨rfl, hb2⟩
  have k2 := k1.below hb2 k1.lt
  have hB2 := hb1.trans (hb2.mono hb1.size)
  have k3 := k2.alloc (.cells #[.slice none 0 0, .string ⟨#[]⟩] 48)
  have hB3 := hB2.alloc hB2.size (.cells #[.slice none 0 0, .string ⟨#[]⟩] 48)
  have f3 : (w2.alloc (.cells #[.slice none 0 0, .string ⟨#[]⟩] 48)).cell? ⟨w.heap.size, 0, none⟩ = some (.slice none 0 0) := k3.cell 0
  have f4 : (w2.alloc (.cells #[.slice none 0 0, .string ⟨#[]⟩] 48)).cell? ⟨w.heap.size, 1, none⟩ = some (.slice none 0 0) := k3.cell 1
  have f5 : (w2.alloc (.cells #[.slice none 0 0, .string ⟨#[]⟩] 48)).frozen? ⟨w.heap.size, 0, none⟩ = false := k3.frozen 0
  have f6 : (w2.alloc (.cells #[.slice none 0 0, .string ⟨#[]⟩] 48)).frozen? ⟨w.heap.size, 1, none⟩ = false := k3.frozen 1
  have HZ := KH.hid (And.intro k3 hB3)
  clear k1 hb1 k2 hB2 hb2 k3 hB3 HF
  go_wp2_with fail
  refine ret_plR (p := 2) (u := 3) (k := 1) HZ.out.1 ?_ ?_ ?_ ?_ ?_
  · rfl
  · rfl
  · rfl
  · rfl
  exact ⟨rfl, (HZ.out.2.setCell (p := ⟨w.heap.size, 0, none⟩) (Nat.le_refl _) _).setCell (p := ⟨w.heap.size, 1, none⟩) (Nat.le_refl _) _⟩
end Go.Proofs.YtlnilfcjcoclhaaGreatDoor
