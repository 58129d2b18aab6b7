import Derived.Test.YtlnilfcjcoclhaaGreatDoorBb
import Derived.OneCell
/- Package platter: what a disk's value holds; Check. -/
namespace Go.Proofs.YtlnilfcjcoclhaaGreatDoor
open Go.RowKit

set_option maxRecDepth 100000 in
theorem idx_none {B n : Nat} {A : Option Addr} (c : Nat) {l : List ByteArray} {w : World} (h : KH.Reads w B 1 A n (l.map .string)) (hn : n ≤ maxLen) (hsz : ∀ x ∈ l, x.size ≤ 128) :
    Calls Tryz.prog 103 #[.slice A n c, .func (.func 84) #[] #[]] w fun e w' => e = .returned (.int .i64 (-1)) ∧ w = w' := by
  have hl : l.length = n := by have := h.1; simpa using this
  have hm : n ≤ 9223372036854775807 := by unfold maxLen at hn; omega
  have HL := KH.hid (And.intro hl hsz); clear hl hsz
  go_enter Tryz.func103, Tryz.ntmps103
  go_wp2
  go_loopw [8] (fun i wr => ∃ k : Nat, k ≤ n ∧ i = .int .i64 k ∧ w = wr) (fun i _ => n - (intOf i).toNat)
  case atStart => exact ⟨0, Nat.zero_le _, rfl, rfl⟩
  case round =>
    obtain ⟨k, hk, rfl, rfl⟩ := hrel
    by_cases hlt : k < n
    · obtain ⟨ad, u, rfl, hab, hx, hc1⟩ := h.at_ hlt
      rw [List.getElem?_map] at hx
      obtain ⟨b, hb, rfl⟩ : ∃ b, l[k]? = some b ∧ u = .string b := by
        cases hq : l[k]? with
        | none => rw [hq] at hx; cases hx
        | some b => rw [hq] at hx; exact ⟨b, rfl, by simpa using hx.symm⟩
      have hbs := HL.out.2 b (List.mem_of_getElem? hb)
      have hd : decide ((128 : Int) < (b.size : Int)) = false := by rw [decide_eq_false_iff_not]; omega
      clear hb hx
      go_wp2
      go_roundw
      case rel => exact ⟨k + 1, by omega, by go_num, by first | rfl | trivial⟩
      case measure => simp [intOf]; omega
    · obtain rfl : k = n := by omega
      go_wp2
      go_ret
      exact ⟨rfl, rfl⟩

set_option maxRecDepth 100000 in
theorem contains_no {B n : Nat} {A : Option Addr} (c : Nat) {l : List ByteArray} {w : World} (h : KH.Reads w B 1 A n (l.map .string)) (hn : n ≤ maxLen) (hsz : ∀ x ∈ l, x.size ≤ 128) :
    Calls Tryz.prog 85 #[.slice A n c, .func (.func 84) #[] #[]] w fun e w' => e = .returned (.bool false) ∧ w = w' := by
  have HS := KH.hid hsz
  clear hsz
  go_enter Tryz.func85, Tryz.ntmps85
  go_wp2_with (go_at_call 103; refine (idx_none _ h hn HS.out).mono ?_; rintro e w1 ⟨rfl, rfl⟩)
  go_ret
  exact ⟨rfl, rfl⟩

/-- a disk that Check takes -/
def pOk (S : List ByteArray) (C : List (Int × ByteArray)) : Prop :=
  1 ≤ S.length ∧ S.length ≤ 200 ∧ C.length ≤ 100 ∧ (∀ s ∈ S, s.size ≤ 128) ∧ ∀ p ∈ C, p.2.size ≤ 128 ∧ 0 ≤ p.1 ∧ p.1 < S.length
theorem pOk.len {S : List ByteArray} {C : List (Int × ByteArray)} (h : pOk S C) : S.length ≤ 200 ∧ C.length ≤ 100 := ⟨h.2.1, h.2.2.1⟩
set_option maxRecDepth 100000 in
theorem check_yes {B n1 n2 : Nat} {A1 A2 : Option Addr} (c1 c2 : Nat) {S : List ByteArray} {C : List (Int × ByteArray)} {w : World} (hS : KH.Reads w B 1 A1 n1 (S.map .string)) (hC : ShIn w B A2 n2 C) (hB : B ≤ w.heap.size) (hp : pOk S C) :
    Calls Tryz.prog 62 #[.agg #[.slice A1 n1 c1, .slice A2 n2 c2]] w fun e w' => e = .returned (.bool true) ∧ Below w.heap.size w w' := by
  have hl1 : S.length = n1 := by have := hS.1; simpa using this
  have hl2 : C.length = n2 := hC.len
  obtain ⟨p1, p2, p3, p4, p5⟩ := hp
  have d1 : decide ((n1 : Int) < 1) = false := by rw [decide_eq_false_iff_not]; omega
  have d2 : decide ((200 : Int) < (n1 : Int)) = false := by rw [decide_eq_false_iff_not]; omega
  have d3 : decide ((100 : Int) < (n2 : Int)) = false := by rw [decide_eq_false_iff_not]; omega
  have hm1 : n1 ≤ maxLen := by unfold maxLen; omega
  have hm1' : n1 ≤ 9223372036854775807 := by omega
  have hm2 : n2 ≤ 9223372036854775807 := by omega
  have HP := KH.hid p5
  have HS := KH.hid p4
  rw [hl1] at HP
  clear p1 p2 p3 p4 p5 hl1 hl2
  have hb1 := (Below.refl w.heap.size w).alloc (Nat.le_refl _) (.cells #[.slice A1 n1 c1, .slice A2 n2 c2] 35)
  go_enter Tryz.func62, Tryz.ntmps62
  go_wp2_with (first | (go_at_call 85; refine (contains_no _ (hS.alloc hB _) hm1 HS.out).mono ?_; rintro e w1 ⟨rfl, rfl⟩) | go_in)
  have hs1 := hb1.size
  have hW0 : (w.alloc (.cells #[.slice A1 n1 c1, .slice A2 n2 c2] 35)).heap.size = w.heap.size + 1 := by simp
  have hk1 := KH.Blk.new w 35 #[.slice A1 n1 c1, .slice A2 n2 c2]
  have hC1 := KH.Reads.alloc hC hB (.cells #[.slice A1 n1 c1, .slice A2 n2 c2] 35)
  generalize w.alloc (.cells #[.slice A1 n1 c1, .slice A2 n2 c2] 35) = w1 at *
  clear hS
  go_loopw [5, 29] (fun _ i wr => ∃ k : Nat, k ≤ n2 ∧ i = .int .i64 k ∧ Below w1.heap.size w1 wr) (fun _ i _ => n2 - (intOf i).toNat)
  case atStart => exact ⟨0, Nat.zero_le _, rfl, Below.refl _ _⟩
  case round =>
    obtain ⟨k, hk, rfl, hb⟩ := hrel
    have hsr := hb.size
    have hkr := hk1.below hb (by omega)
    by_cases hlt : k < n2
    · obtain ⟨ad, x, b, rfl, hab, hx, hc1, hc2⟩ := ShIn.at_ (KH.Reads.below hC1 (hb.mono (by omega))) hlt
      obtain ⟨q1, q2, q3⟩ := HP.out _ (List.mem_of_getElem? hx)
      replace q1 : b.size ≤ 128 := q1
      have e1 : decide ((128 : Int) < (b.size : Int)) = false := by rw [decide_eq_false_iff_not]; omega
      have e2 : decide ((0 : Int) ≤ x) = true := by rw [decide_eq_true_iff]; exact q2
      have e3 : decide (x < (n1 : Int)) = true := by rw [decide_eq_true_iff]; exact q3
      have f1 : wr.cell? ⟨w.heap.size, 0, none⟩ = some (.slice A1 n1 c1) := hkr.cell 0
      have f2 : wr.cell? ⟨w.heap.size, 1, none⟩ = some (.slice (some ad) n2 c2) := hkr.cell 1
      have f3 : ∀ o, (wr.alloc o).cell? ⟨w.heap.size, 0, none⟩ = some (.slice A1 n1 c1) := fun o => (World.cell?_alloc_lt wr o _ (by show w.heap.size < _; omega)).trans f1
      have f4 : ∀ o, (wr.alloc o).cell? ⟨w.heap.size, 1, none⟩ = some (.slice (some ad) n2 c2) := fun o => (World.cell?_alloc_lt wr o _ (by show w.heap.size < _; omega)).trans f2
      clear q1 q2 q3 hx hC1 hk1 hkr
      go_wp2
      go_roundw
      case rel => exact ⟨k + 1, by omega, by go_num, (hb.alloc hsr _).alloc (by simp; omega) _⟩
      case measure => simp [intOf]; omega
    · obtain rfl : k = n2 := by omega
      go_wp2
      go_ret
      exact ⟨rfl, hb1.trans (hb.mono (by omega))⟩

end Go.Proofs.YtlnilfcjcoclhaaGreatDoor
/- Package platter: the disk that is worked on. -/
namespace Go.Proofs.YtlnilfcjcoclhaaGreatDoor
open Go.RowKit

theorem str_info : (Tryz.prog.info? 9).map (fun i => (i.zero, i.size, i.bytes)) = some (some (.string ⟨#[]⟩), 1, 16) := by kernel_rfl
theorem put_info : (Tryz.prog.info? 122).map (fun i => (i.zero, i.size, i.bytes)) = some (some (.agg #[.int .i64 0, .string ⟨#[]⟩]), 2, 24) := by kernel_rfl

/-- a disk of the call's own -/
def DiskAt (w : World) (base g : Nat) (S : List ByteArray) (C : List (Int × ByteArray)) : Prop :=
  ∃ s1 c1 A2 c2, KH.Blk w g 124 #[.slice (some ⟨s1, 0, none⟩) S.length c1, .slice A2 C.length c2] ∧ base ≤ g ∧
    w.ownsRow base 9 1 (.slice (some ⟨s1, 0, none⟩) S.length c1) S.length (S.map .string) ∧ w.ownsRow base 122 2 (.slice A2 C.length c2) C.length (shC C)

theorem copS_grown {h : Nat} {x y : Value} {w1 w w' : World} (hs : w.cell? ⟨h, 0, none⟩ = some x ∧ w.cell? ⟨h, 1, none⟩ = some y ∧ Below w1.heap.size w1 w) (hlt : h < w1.heap.size) (hg : w.grownBy w' (Value.slice none 0 0).ownBlock) :
    w'.cell? ⟨h, 0, none⟩ = some x ∧ w'.cell? ⟨h, 1, none⟩ = some y ∧ Below w1.heap.size w1 w' := by
  obtain ⟨h1, h2, h3⟩ := hs
  have hb := (Below.refl w.heap.size w).grown hg (Nat.le_refl _) (fun _ h => by cases h)
  have hsz := h3.size
  exact ⟨(hb.cell (p := ⟨h, 0, none⟩) (by show h < _; omega)).trans h1, (hb.cell (p := ⟨h, 1, none⟩) (by show h < _; omega)).trans h2, h3.trans (hb.mono hsz)⟩

theorem copS_alloc {h : Nat} {x y : Value} {w1 w : World} (hs : w.cell? ⟨h, 0, none⟩ = some x ∧ w.cell? ⟨h, 1, none⟩ = some y ∧ Below w1.heap.size w1 w) (hlt : h < w1.heap.size) (o : Obj) :
    (w.alloc o).cell? ⟨h, 0, none⟩ = some x ∧ (w.alloc o).cell? ⟨h, 1, none⟩ = some y ∧ Below w1.heap.size w1 (w.alloc o) := by
  obtain ⟨h1, h2, h3⟩ := hs
  have hsz := h3.size
  exact ⟨(World.cell?_alloc_lt w o _ (by show h < _; omega)).trans h1, (World.cell?_alloc_lt w o _ (by show h < _; omega)).trans h2, h3.alloc hsz o⟩

set_option maxRecDepth 100000 in
theorem pcopied_any {B n1 n2 : Nat} {A1 A2 : Option Addr} (c1 c2 : Nat) {S : List ByteArray} {C : List (Int × ByteArray)} {w : World} (hS : KH.Reads w B 1 A1 n1 (S.map .string)) (hC : ShIn w B A2 n2 C) (hB : B ≤ w.heap.size) (hn1 : n1 ≤ 200) (hn2 : n2 ≤ 100) (h1 : 1 ≤ n1) :
    Calls Tryz.prog 63 #[.agg #[.slice A1 n1 c1, .slice A2 n2 c2]] w fun e w' => ∃ g, e = .returned (.pointer (some ⟨g, 0, none⟩)) ∧ DiskAt w' w.heap.size g S C ∧ Below w.heap.size w w' := by
  have hl1 : S.length = n1 := by have := hS.1; simpa using this
  have hl2 : C.length = n2 := hC.len
  obtain ⟨i0, hi, hz0, hz1, hz2⟩ := info_parts str_info
  obtain ⟨i1, hi1, hy0, hy1, hy2⟩ := info_parts put_info
  have hb1 := (Below.refl w.heap.size w).alloc (Nat.le_refl _) (.cells #[.slice A1 n1 c1, .slice A2 n2 c2] 35)
  have hS1 := hS.alloc hB (.cells #[.slice A1 n1 c1, .slice A2 n2 c2] 35)
  have hC1 := KH.Reads.alloc hC hB (.cells #[.slice A1 n1 c1, .slice A2 n2 c2] 35)
  have hk1 := KH.Blk.new w 35 #[.slice A1 n1 c1, .slice A2 n2 c2]
  have hW0 : (w.alloc (.cells #[.slice A1 n1 c1, .slice A2 n2 c2] 35)).heap.size = w.heap.size + 1 := by simp
  have f1 : (w.alloc (.cells #[.slice A1 n1 c1, .slice A2 n2 c2] 35)).cell? ⟨w.heap.size, 0, none⟩ = some (.slice A1 n1 c1) := hk1.cell 0
  have f2 : (w.alloc (.cells #[.slice A1 n1 c1, .slice A2 n2 c2] 35)).cell? ⟨w.heap.size, 1, none⟩ = some (.slice A2 n2 c2) := hk1.cell 1
  have hB1 : B ≤ w.heap.size + 1 := by omega
  have h1c1 : ∀ u ∈ S.map Value.string, u.oneCell' = true := by intro u hu; obtain ⟨b, _, rfl⟩ := List.mem_map.1 hu; rfl
  have h2c1 : ∀ u ∈ shC C, u.oneCell' = true := by
    intro u hu; unfold shC at hu; obtain ⟨b, _, hb⟩ := List.mem_flatMap.1 hu
    simp at hb; rcases hb with rfl | rfl <;> rfl
  go_enter Tryz.func63, Tryz.ntmps63
  go_wp2
  generalize w.alloc (.cells #[.slice A1 n1 c1, .slice A2 n2 c2] 35) = w1 at *
  rw [← hW0] at hB1
  go_region_held3 (fun w' => w'.cell? ⟨w.heap.size, 0, none⟩ = some (.slice A1 n1 c1) ∧ w'.cell? ⟨w.heap.size, 1, none⟩ = some (.slice A2 n2 c2) ∧ Below w1.heap.size w1 w') (first | exact ⟨by assumption, by assumption, by first | assumption | exact (Below.refl _ _).drew⟩ | exact copS_grown (by assumption) (by omega) (by assumption) | exact copS_alloc (by assumption) (by omega) _) (first
    | (refine KH.step_append_any _ (by rfl) _ _ _ (by rfl) w.heap.size 9 i0 _ 1 16 Tryz.underlying30 hi hz0 hz1 hz2 rfl (by omega) (.slice none 0 0) 0 [] (by rfl) ⟨by simp, .inl ⟨rfl, rfl⟩⟩ B A1 n1 c1 _ (by rfl) (hS1.below (Below.mono (And.right (And.right (by assumption))) hB1)) h1c1 (by unfold maxLen; omega) (by omega) (by have := Below.size (And.right (And.right (by assumption : _ ∧ _ ∧ Below w1.heap.size w1 _))); omega) ?_; intro vs ws hown1 hgrow1 hlies1; obtain ⟨As, cs, rfl⟩ := KH.own_form hown1)
    | (refine KH.step_append_any _ (by rfl) _ _ _ (by rfl) w.heap.size 122 i1 _ 2 24 Tryz.underlying33 hi1 hy0 hy1 hy2 rfl (by omega) (.slice none 0 0) 0 [] (by rfl) ⟨by simp, .inl ⟨rfl, rfl⟩⟩ B A2 n2 c2 _ (by rfl) (KH.Reads.below hC1 (Below.mono (And.right (And.right (by assumption))) hB1)) h2c1 (by unfold maxLen; omega) (by omega) (by have := Below.size (And.right (And.right (by assumption : _ ∧ _ ∧ Below w1.heap.size w1 _))); omega) ?_; intro vc wc hown2 hgrow2 hlies2; obtain ⟨Ac, cc, rfl⟩ := KH.own_form hown2))
  go_wp2
  go_ret
  simp only [Nat.zero_add, List.nil_append] at hown1 hown2
  have hbA := (Below.refl ws.heap.size ws).grown hgrow2 (Nat.le_refl _) (fun _ h => by cases h)
  obtain ⟨g, cl, hv, _, _⟩ := hown1.form (by omega)
  have hv' : As = some ⟨g, 0, none⟩ := by injection hv
  subst hv'
  subst hl1; subst hl2
  have hbB : Below w.heap.size w1 wc := by
    have := ((Below.refl w1.heap.size w1).drew.grown hgrow1 (Nat.le_refl _) (fun _ h => by cases h)).trans (hbA.mono ?_)
    · exact this.mono (by omega)
    · exact ((Below.refl w1.heap.size w1).drew.grown hgrow1 (Nat.le_refl _) (fun _ h => by cases h)).size
  have hz := (hb1.trans hbB).size
  exact ⟨wc.heap.size, rfl, ⟨g, cs, Ac, cc, KH.Blk.new _ _ _, hz, (KH.own_below hown1 hbA).alloc _, hown2.alloc _⟩, (hb1.trans hbB).alloc hz _⟩

end Go.Proofs.YtlnilfcjcoclhaaGreatDoor
/- Package platter: what is done to the disk that is worked on. -/
namespace Go.Proofs.YtlnilfcjcoclhaaGreatDoor
open Go.RowKit

theorem KH.own_blk' {w : World} {base g n c : Nat} {e : TypeId} {size : Nat} {xs : List Value} (h : w.ownsRow base e size (.slice (some ⟨g, 0, none⟩) n c) n xs) : ∃ cs, KH.Blk w g e cs := by
  rcases h.2 with ⟨h1, _⟩ | ⟨g', cap, cur, h1, _, hh, _⟩
  · cases h1
  · injection h1 with h1 _ _
    injection h1 with h1; injection h1 with h1
    subst h1
    exact ⟨_, hh⟩
theorem put_reads (w : World) (a : Int) (s : ByteArray) (t : TypeId) (g : Nat) (hg : w.heap.size = g) : KH.Reads (w.alloc (.cells #[.int .i64 a, .string s] t)) (g + 1) 2 (some ⟨g, 0, none⟩) 1 [.int .i64 a, .string s] := by
  subst hg
  refine ⟨rfl, fun _ => ⟨_, rfl, by show w.heap.size < _; omega, fun j u hu => ?_⟩⟩
  rw [addr_at, World.cell?_alloc_at _ _ _ _ rfl]
  simpa using hu

set_option maxRecDepth 100000 in
theorem wait_any {base g : Nat} {S : List ByteArray} {C : List (Int × ByteArray)} {w : World} (at' : Int) (s : ByteArray) (h : DiskAt w base g S C) (hC : C.length ≤ 200) :
    Calls Tryz.prog 70 #[.pointer (some ⟨g, 0, none⟩), .int .i64 at', .string s] w fun e w' => e = .returned (.tuple #[]) ∧ DiskAt w' base g S (C ++ [(at', s)]) ∧ Below base w w' := by
  obtain ⟨s1, c1, A2, c2, hk, hbg, ho1, ho2⟩ := h
  obtain ⟨i1, hi1, hy0, hy1, hy2⟩ := info_parts put_info
  have hg := hk.lt
  have f1 : w.cell? ⟨g, 1, none⟩ = some (.slice A2 C.length c2) := hk.cell 1
  have f1' : (w.alloc (.cells #[.int .i64 at', .string s] 122)).cell? ⟨g, 1, none⟩ = some (.slice A2 C.length c2) := (World.cell?_alloc_lt w _ _ (by show g < _; omega)).trans f1
  have f3 : w.frozen? ⟨g, 1, none⟩ = false := hk.frozen 1
  have h2c1 : ∀ u ∈ [Value.int .i64 at', .string s], u.oneCell' = true := by intro u hu; simp at hu; rcases hu with rfl | rfl <;> rfl
  have hbs : base ≤ w.heap.size := by omega
  go_enter Tryz.func70, Tryz.ntmps70
  go_wp2_with (at_builtin; refine KH.wpList_append_any _ rfl _ _ _ rfl base 122 i1 _ 2 24 Tryz.underlying33 hi1 hy0 hy1 hy2 rfl (by omega) (.slice A2 C.length c2) C.length _ rfl (ho2.alloc _) (w.heap.size + 1) (some ⟨w.heap.size, 0, none⟩) 1 1 _ rfl (put_reads w at' s _ _ rfl) h2c1 (by unfold maxLen; omega) (by omega) (by simp; omega) ?_; intro v w2 hown2 hgrow2 hlies2; obtain ⟨A3, c3, rfl⟩ := KH.own_form hown2; have hk2 := ((hk.alloc (.cells #[.int .i64 at', .string s] 122)).grown hgrow2 (Ne.symm (KH.own_blk_ne ho2 hk (by decide)))); have f4 : w2.cell? ⟨g, 1, none⟩ = some (.slice A2 C.length c2) := hk2.cell 1; have f5 : w2.frozen? ⟨g, 1, none⟩ = false := hk2.frozen 1)
  refine bodyPost_end (results_none rfl _ _ _) rfl ?_
  have hb2 : Below base w w2 := ((Below.refl w.heap.size w).alloc (Nat.le_refl _) (.cells #[.int .i64 at', .string s] 122)).mono hbs |>.grown hgrow2 (by simp; omega) fun k hk => (ho2.lt k hk).1
  have ho1' : w2.ownsRow base 9 1 (.slice (some ⟨s1, 0, none⟩) S.length c1) S.length (S.map .string) := (ho1.alloc _).kept hgrow2 (.inr fun e => ?_)
  · refine ⟨rfl, ⟨s1, c1, A3, c3, ?_, hbg, ownsRow_setCell_other ho1' ?_ _, ownsRow_setCell_other (a := ⟨g, 1, none⟩) ?_ ?_ _⟩, hb2.setCell (p := ⟨g, 1, none⟩) hbg _⟩
    · have := hk2.set_ 1 (.slice A3 (C.length + 1) c3)
      simpa using this
    · exact KH.own_blk_ne ho1' hk2 (by decide)
    · have : shC (C ++ [(at', s)]) = shC C ++ [.int .i64 at', .string s] := by simp [shC]
      rw [this]; simpa using hown2
    · have := KH.own_blk_ne hown2 hk2 (by decide)
      simpa using this
  · have hq : KH.Blk w s1 9 _ := (KH.own_blk' ho1).choose_spec
    exact KH.own_blk_ne ho2 hq (by decide) e.symm
/-- whatever holds no texts alone stands -/
def KeepT (w w' : World) : Prop := ∀ t gb cs, t ≠ 9 → KH.Blk w gb t cs → KH.Blk w' gb t cs
theorem DiskAt.setS {base g : Nat} {S : List ByteArray} {C : List (Int × ByteArray)} {w : World} {s1 c1 c2 : Nat} {A2 : Option Addr}
    (hk : KH.Blk w g 124 #[.slice (some ⟨s1, 0, none⟩) S.length c1, .slice A2 C.length c2]) (hbg : base ≤ g)
    (ho1 : w.ownsRow base 9 1 (.slice (some ⟨s1, 0, none⟩) S.length c1) S.length (S.map .string)) (ho2 : w.ownsRow base 122 2 (.slice A2 C.length c2) C.length (shC C)) (i : Nat) (s : ByteArray) :
    DiskAt (w.setCell ⟨s1, i, none⟩ (.string s)) base g (S.set i s) C ∧ Below base w (w.setCell ⟨s1, i, none⟩ (.string s)) ∧ KeepT w (w.setCell ⟨s1, i, none⟩ (.string s)) := by
  obtain ⟨cs, hq⟩ := KH.own_blk' ho1
  have hbs : base ≤ s1 := (ho1.lt s1 rfl).1
  have hst := (ho1.stored i (.string s)).1
  rw [show (S.map Value.string).set i (.string s) = (S.set i s).map .string by simp] at hst
  refine ⟨⟨s1, c1, A2, c2, ?_, hbg, ?_, ?_⟩, (Below.refl base w).setCell (p := ⟨s1, i, none⟩) hbs _, fun t gb cs ht hb => hb.far (p := ⟨s1, i, none⟩) (hb.ne_ hq ht) _⟩
  · rw [List.length_set]; exact hk.far (p := ⟨s1, i, none⟩) (hk.ne_ hq (by decide)) _
  · rw [List.length_set]; exact hst
  · exact ownsRow_setCell_other ho2 (KH.own_blk_ne ho2 hq (by decide)) _

set_option maxRecDepth 100000 in
theorem lay_any {base g : Nat} {S : List ByteArray} {C : List (Int × ByteArray)} {w : World} (i : Nat) (s : ByteArray) (h : DiskAt w base g S C) (hi : i < S.length) :
    Calls Tryz.prog 86 #[.pointer (some ⟨g, 0, none⟩), .int .i64 i, .string s] w fun e w' => e = .returned (.tuple #[]) ∧ DiskAt w' base g (S.set i s) C ∧ Below base w w' ∧ KeepT w w' := by
  obtain ⟨s1, c1, A2, c2, hk, hbg, ho1, ho2⟩ := h
  have hR := DiskAt.setS hk hbg ho1 ho2 i s
  have f1 : w.cell? ⟨g, 0, none⟩ = some (.slice (some ⟨s1, 0, none⟩) S.length c1) := hk.cell 0
  have f2 := ho1.cellAt i (by omega)
  have f3 := ho1.frozenAt i
  obtain ⟨o, ho⟩ : ∃ o, (S.map Value.string)[i]? = some o := ⟨_, List.getElem?_eq_getElem (by simpa using hi)⟩
  rw [ho] at f2
  have k0 : (0 : Int) ≤ (i : Int) := by omega
  have k1 : (i : Int) < (S.length : Int) := by omega
  have HR := KH.hid hR
  clear hR hk ho1 ho2 ho hi
  go_enter Tryz.func86, Tryz.ntmps86
  go_wp2
  refine bodyPost_end (results_none rfl _ _ _) rfl ?_
  exact ⟨rfl, HR.out⟩

/-- what a sector holds when the first n bytes of a text were laid -/
def begS (s o : ByteArray) (n : Nat) : ByteArray := s.extract 0 (min n s.size) ++ if n < o.size then o.extract n o.size else ⟨#[]⟩
theorem ba_all (s : ByteArray) : s.extract 0 s.size = s := by simp
theorem begS_1 {s o : ByteArray} {n : Nat} (h : n < o.size) (h' : s.size < n) : begS s o n = s ++ o.extract n o.size := by
  unfold begS; rw [if_pos h, Nat.min_eq_right (by omega), ba_all]
theorem begS_2 {s o : ByteArray} {n : Nat} (h : n < o.size) (h' : ¬ s.size < n) : begS s o n = s.extract 0 n ++ o.extract n o.size := by
  unfold begS; rw [if_pos h, Nat.min_eq_left (by omega)]
theorem begS_3 {s o : ByteArray} {n : Nat} (h : ¬ n < o.size) (h' : s.size < n) : begS s o n = s := by
  unfold begS; rw [if_neg h, Nat.min_eq_right (by omega), ba_all]; exact ByteArray.append_empty
theorem begS_4 {s o : ByteArray} {n : Nat} (h : ¬ n < o.size) (h' : ¬ s.size < n) : begS s o n = s.extract 0 n := by
  unfold begS; rw [if_neg h, Nat.min_eq_left (by omega)]; exact ByteArray.append_empty
set_option maxRecDepth 100000 in
theorem begin_any {base g : Nat} {S : List ByteArray} {C : List (Int × ByteArray)} {w : World} (i n : Nat) (s : ByteArray) (h : DiskAt w base g S C) (hi : i < S.length) (hs : s.size ≤ 128) (ho : (S.getD i ⟨#[]⟩).size ≤ 128) (hn : n ≤ 9223372036854775807) :
    Calls Tryz.prog 87 #[.pointer (some ⟨g, 0, none⟩), .int .i64 i, .string s, .int .i64 n] w fun e w' => e = .returned (.tuple #[]) ∧ DiskAt w' base g (S.set i (begS s (S.getD i ⟨#[]⟩) n)) C ∧ Below base w w' ∧ KeepT w w' := by
  obtain ⟨s1, c1, A2, c2, hk, hbg, ho1, ho2⟩ := h
  have hR := DiskAt.setS hk hbg ho1 ho2 i (begS s (S.getD i ⟨#[]⟩) n)
  have f1 : w.cell? ⟨g, 0, none⟩ = some (.slice (some ⟨s1, 0, none⟩) S.length c1) := hk.cell 0
  have f2 := ho1.cellAt i (by omega)
  have f3 := ho1.frozenAt i
  rw [List.getElem?_map, List.getElem?_eq_getElem hi, Option.map_some, show S[i] = S.getD i ⟨#[]⟩ by simp [hi]] at f2
  have k0 : (0 : Int) ≤ (i : Int) := by omega
  have k1 : (i : Int) < (S.length : Int) := by omega
  have HR := KH.hid hR
  generalize S.getD i ⟨#[]⟩ = o at *
  clear hR hk ho1 ho2 hi
  go_enter Tryz.func87, Tryz.ntmps87
  go_wp2
  all_goals
    refine bodyPost_end (results_none rfl _ _ _) rfl ?_
    refine ⟨rfl, ?_⟩
    have hq := HR.out
    first
      | (rw [begS_1 (by assumption) (by assumption)] at hq ⊢; exact hq)
      | (rw [begS_2 (by assumption) (by assumption)] at hq ⊢; exact hq)
      | (rw [begS_3 (by assumption) (by assumption)] at hq ⊢; exact hq)
      | (rw [begS_4 (by assumption) (by assumption)] at hq ⊢; exact hq)
end Go.Proofs.YtlnilfcjcoclhaaGreatDoor
