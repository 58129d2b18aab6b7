import Derived.Test.YtlnilfcjcoclhaaGreatDoorPlC
import Derived.Test.YtlnilfcjcoclhaaGreatDoorBe
/- Package platter: fall, plain. -/
namespace Go.Proofs.YtlnilfcjcoclhaaGreatDoor
open Go.RowKit

/-- what a text that waits does to the sectors, by its fate -/
def fallS (S : List ByteArray) (i : Nat) (s : ByteArray) (f : Int) : List ByteArray :=
  if f ≤ 0 then S else if f = 1 then S.set i s else S.set i (begS s (S.getD i ⟨#[]⟩) (f - 2).toNat)
theorem fallS_length (S : List ByteArray) (i : Nat) (s : ByteArray) (f : Int) : (fallS S i s f).length = S.length := by
  unfold fallS; split
  · rfl
  · split <;> simp
set_option maxRecDepth 100000 in
theorem fall_any {base g : Nat} {S : List ByteArray} {C : List (Int × ByteArray)} {w : World} (i : Nat) (s : ByteArray) (f : Int) (h : DiskAt w base g S C) (hi : i < S.length) (hs : s.size ≤ 128) (ho : (S.getD i ⟨#[]⟩).size ≤ 128) (hf : f ≤ 9223372036854775807) :
    Calls Tryz.prog 64 #[.pointer (some ⟨g, 0, none⟩), .agg #[.int .i64 i, .string s], .int .i64 f] w fun e w' => e = .returned (.tuple #[]) ∧ DiskAt w' base g (fallS S i s f) C ∧ Below base w w' ∧ KeepT w w' := by
  have hbs : base ≤ w.heap.size := by
    obtain ⟨s1, c1, A2, c2, hk, hbg, _, _⟩ := h
    have := hk.lt; omega
  have h' : DiskAt (w.alloc (.cells #[.int .i64 i, .string s] 122)) base g S C := by
    obtain ⟨s1, c1, A2, c2, hk, hbg, ho1, ho2⟩ := h
    exact ⟨s1, c1, A2, c2, hk.alloc _, hbg, ho1.alloc _, ho2.alloc _⟩
  have hb1 := (Below.refl w.heap.size w).alloc (Nat.le_refl _) (.cells #[.int .i64 i, .string s] 122)
  have hk1 : KeepT w (w.alloc (.cells #[.int .i64 i, .string s] 122)) := fun t gb cs _ hb => hb.alloc _
  have HH := KH.hid (And.intro h' (And.intro (hb1.mono hbs) hk1))
  have hF : Hid (fallS S i s f = if f ≤ 0 then S else if f = 1 then S.set i s else S.set i (begS s (S.getD i ⟨#[]⟩) (f - 2).toNat)) := KH.hid rfl
  generalize fallS S i s f = R at *
  clear h h' hb1 hk1
  by_cases h0 : f ≤ 0
  · have d0 : decide (f ≤ 0) = true := by rw [decide_eq_true_iff]; exact h0
    have HR : Hid (R = S) := KH.hid (by rw [hF.out, if_pos h0])
    clear hF h0
    go_enter Tryz.func64, Tryz.ntmps64
    go_wp2
    refine bodyPost_end (results_none rfl _ _ _) rfl ?_
    rw [HR.out]
    exact ⟨rfl, HH.out.1, HH.out.2⟩
  · have d0 : decide (f ≤ 0) = false := by rw [decide_eq_false_iff_not]; exact h0
    by_cases h1 : f = 1
    · have HR : Hid (R = S.set i s) := KH.hid (by rw [hF.out, if_neg h0, if_pos h1])
      subst h1
      clear hF h0
      go_enter Tryz.func64, Tryz.ntmps64
      go_wp2_with (go_at_call 86; refine (lay_any i s HH.out.1 hi).mono ?_; rintro e w2 ⟨rfl, q1, q2, q3⟩)
      refine bodyPost_end (results_none rfl _ _ _) rfl ?_
      rw [HR.out]
      exact ⟨rfl, q1, HH.out.2.1.trans q2, fun t gb cs ht hb => q3 t gb cs ht (HH.out.2.2 t gb cs ht hb)⟩
    · have d1 : (f == 1) = false := by simpa using h1
      have HR : Hid (R = S.set i (begS s (S.getD i ⟨#[]⟩) (f - 2).toNat)) := KH.hid (by rw [hF.out, if_neg h0, if_neg h1])
      obtain ⟨n, rfl⟩ : ∃ n : Nat, f = n + 2 := ⟨(f - 2).toNat, by omega⟩
      rw [show ((n : Int) + 2 - 2).toNat = n by omega] at HR
      clear hF h0 h1
      go_enter Tryz.func64, Tryz.ntmps64
      go_wp2_with (go_at_call 87; refine (begin_any i n s HH.out.1 hi hs ho (by omega)).mono ?_; rintro e w2 ⟨rfl, q1, q2, q3⟩)
      refine bodyPost_end (results_none rfl _ _ _) rfl ?_
      rw [HR.out]
      exact ⟨rfl, q1, HH.out.2.1.trans q2, fun t gb cs ht hb => q3 t gb cs ht (HH.out.2.2 t gb cs ht hb)⟩

theorem KH.Reads.setFar {w : World} {B size n : Nat} {A : Option Addr} {xs : List Value} (h : KH.Reads w B size A n xs) {p : Addr} (hp : ∀ ad, A = some ad → ad.block ≠ p.block) (u : Value) : KH.Reads (w.setCell p u) B size A n xs :=
  ⟨h.1, fun hn => by
    obtain ⟨ad, hA, hb, hc⟩ := h.2 hn
    refine ⟨ad, hA, hb, fun j v hv => ?_⟩
    rw [World.cell?_setCell_other _ _ _ _ (fun e => hp ad hA (by rw [← KH.block_of_add ad j, e]))]
    exact hc j v hv⟩
/-- a disk's value; its rows lie from block lo on -/
def PlIn (w : World) (lo : Nat) (v : Value) (S : List ByteArray) (C : List (Int × ByteArray)) : Prop :=
  ∃ A1 c1 A2 c2, v = .agg #[.slice A1 S.length c1, .slice A2 C.length c2] ∧ (∀ ad, A1 = some ad → lo ≤ ad.block) ∧ (∀ ad, A2 = some ad → lo ≤ ad.block) ∧
    KH.Reads w w.heap.size 1 A1 S.length (S.map .string) ∧ ShIn w w.heap.size A2 C.length C
theorem PlIn.below {w w' : World} {lo : Nat} {v : Value} {S : List ByteArray} {C : List (Int × ByteArray)} (h : PlIn w lo v S C) (hb : Below w.heap.size w w') : PlIn w' lo v S C := by
  obtain ⟨A1, c1, A2, c2, rfl, l1, l2, h1, h2⟩ := h
  exact ⟨A1, c1, A2, c2, rfl, l1, l2, (h1.below hb).more hb.size, (KH.Reads.below h2 hb).more hb.size⟩
theorem PlIn.mono {w : World} {lo lo' : Nat} {v : Value} {S : List ByteArray} {C : List (Int × ByteArray)} (h : PlIn w lo v S C) (hb : lo' ≤ lo) : PlIn w lo' v S C := by
  obtain ⟨A1, c1, A2, c2, rfl, l1, l2, h1, h2⟩ := h
  exact ⟨A1, c1, A2, c2, rfl, fun a ha => Nat.le_trans hb (l1 a ha), fun a ha => Nat.le_trans hb (l2 a ha), h1, h2⟩
theorem PlIn.setLow {w : World} {lo : Nat} {v : Value} {S : List ByteArray} {C : List (Int × ByteArray)} (h : PlIn w lo v S C) {p : Addr} (hp : p.block < lo) (u : Value) : PlIn (w.setCell p u) lo v S C := by
  obtain ⟨A1, c1, A2, c2, rfl, l1, l2, h1, h2⟩ := h
  have e : (w.setCell p u).heap.size = w.heap.size := by simp
  refine ⟨A1, c1, A2, c2, rfl, l1, l2, ?_, ?_⟩
  · rw [e]; exact KH.Reads.setFar h1 (fun a ha => by have := l1 a ha; omega) u
  · rw [e]; exact KH.Reads.setFar h2 (fun a ha => by have := l2 a ha; omega) u
theorem load_pl {fn : Func} {p u : Nat} {tmps : Array Value} {w : World} {h : Nat} {x y : Value} {k : Int}
    (hr : fn.results = #[.cell p 35, .tmp u]) (hp : tmps.getD p undef = .pointer (some ⟨h, 0, none⟩)) (hu : tmps.getD u undef = .int .i64 k)
    (h0 : w.cell? ⟨h, 0, none⟩ = some x) (h1 : w.cell? ⟨h, 1, none⟩ = some y) : (results fn tmps).run Tryz.prog w = .ok (.tuple #[.agg #[x, y], .int .i64 k]) w := by
  rw [Array.getD_eq_getD_getElem?] at hp hu
  simp [results, hr, hp, hu, go_sem, h0, h1]
theorem ret_pl {fn : Func} {p u : Nat} {a : Act} {w w0 : World} {h : Nat} {x0 y0 x y : Value} {S : List ByteArray} {C : List (Int × ByteArray)} {lo lo' : Nat} {k : Int}
    (hr : fn.results = #[.cell p 35, .tmp u]) (hp : a.tmps.getD p undef = .pointer (some ⟨h, 0, none⟩)) (hu : a.tmps.getD u undef = .int .i64 k) (hd : a.defers = [])
    (hk : KH.Blk w h 35 #[x0, y0]) (hP : PlIn w lo (.agg #[x, y]) S C) (hl : h < lo) (hlo : lo' ≤ lo) (hB : Below w0.heap.size w0 w) (hh : w0.heap.size ≤ h) :
    bodyPost Tryz.prog fn (fun e w' => ∃ v', e = .returned (.tuple #[v', .int .i64 k]) ∧ PlIn w' lo' v' S C ∧ Below w0.heap.size w0 w') .ret a ((w.setCell ⟨h, 0, none⟩ x).setCell ⟨h, 1, none⟩ y) := by
  have h2 := (hk.set_ 0 x).set_ 1 y
  refine bodyPost_ret (v := .tuple #[.agg #[x, y], .int .i64 k]) (load_pl hr hp hu ?_ ?_) hd ⟨_, rfl, (((hP.setLow (p := ⟨h, 0, none⟩) hl x).setLow (p := ⟨h, 1, none⟩) hl y).mono hlo), (hB.setCell (p := ⟨h, 0, none⟩) hh x).setCell (p := ⟨h, 1, none⟩) hh y⟩
  · have := h2.cell 0; simpa using this
  · have := h2.cell 1; simpa using this
theorem own_lo {w : World} {base n c : Nat} {e : TypeId} {size : Nat} {A : Option Addr} {xs : List Value} (h : w.ownsRow base e size (.slice A n c) n xs) : ∀ ad, A = some ad → base ≤ ad.block := by
  intro ad hA
  subst hA
  rcases h.2 with ⟨h1, _⟩ | ⟨g', cap, cur, h1, hb, _⟩
  · cases h1
  · injection h1 with h1 _ _
    injection h1 with h1
    subst h1
    exact hb

set_option maxRecDepth 100000 in
theorem plain_any {base g : Nat} {S : List ByteArray} {C : List (Int × ByteArray)} {w : World} (h : DiskAt w base g S C) :
    Calls Tryz.prog 65 #[.pointer (some ⟨g, 0, none⟩)] w fun e w' => ∃ v, e = .returned v ∧ PlIn w' base v S C ∧ Below w.heap.size w w' := by
  obtain ⟨s1, c1, A2, c2, hk, hbg, ho1, ho2⟩ := h
  have hg := hk.lt
  have f1 : w.cell? ⟨g, 0, none⟩ = some (.slice (some ⟨s1, 0, none⟩) S.length c1) := hk.cell 0
  have f2 : w.cell? ⟨g, 1, none⟩ = some (.slice A2 C.length c2) := hk.cell 1
  go_enter Tryz.func65, Tryz.ntmps65
  have f1' : ∀ o, (w.alloc o).cell? ⟨g, 0, none⟩ = some (.slice (some ⟨s1, 0, none⟩) S.length c1) := fun o => (World.cell?_alloc_lt w o _ (by show g < _; omega)).trans f1
  have f2' : ∀ o, (w.alloc o).cell? ⟨g, 1, none⟩ = some (.slice A2 C.length c2) := fun o => (World.cell?_alloc_lt w o _ (by show g < _; omega)).trans f2
  go_wp2
  go_region_held3 (fun w' => w'.cell? ⟨g, 0, none⟩ = some (.slice (some ⟨s1, 0, none⟩) S.length c1) ∧ w'.cell? ⟨g, 1, none⟩ = some (.slice A2 C.length c2)) (first | exact ⟨f1' _, f2' _⟩ | go_keep) (fail)
  go_wp2
  refine bodyPost_ret (v := .agg #[.slice (some ⟨s1, 0, none⟩) S.length c1, .slice A2 C.length c2]) (by simp [results, Tryz.results65, go_sem]) rfl ?_
  have hb := ((Below.refl w.heap.size w).alloc (Nat.le_refl _) (.cells #[.slice (some ⟨s1, 0, none⟩) S.length c1, .slice A2 C.length c2] 35)).drew
  exact ⟨_, rfl, ⟨_, c1, A2, c2, rfl, own_lo ho1, own_lo ho2, ((KH.Reads.of_own ho1).below hb).more hb.size, ((KH.Reads.of_own ho2).below hb).more hb.size⟩, hb⟩

theorem DiskAt.alloc {base g : Nat} {S : List ByteArray} {C : List (Int × ByteArray)} {w : World} (h : DiskAt w base g S C) (o : Obj) : DiskAt (w.alloc o) base g S C := by
  obtain ⟨s1, c1, A2, c2, hk, hbg, ho1, ho2⟩ := h
  exact ⟨s1, c1, A2, c2, hk.alloc _, hbg, ho1.alloc _, ho2.alloc _⟩
theorem DiskAt.later {base g : Nat} {S : List ByteArray} {C : List (Int × ByteArray)} {w w' : World} (h : DiskAt w base g S C) (hb : Below w.heap.size w w') : DiskAt w' base g S C := by
  obtain ⟨s1, c1, A2, c2, hk, hbg, ho1, ho2⟩ := h
  exact ⟨s1, c1, A2, c2, hk.below hb hk.lt, hbg, KH.own_below ho1 hb, KH.own_below ho2 hb⟩
theorem getD_size {S : List ByteArray} (h : ∀ x ∈ S, x.size ≤ 128) (i : Nat) : (S.getD i ⟨#[]⟩).size ≤ 128 := by
  by_cases hi : i < S.length
  · rw [List.getD_eq_getElem?_getD, List.getElem?_eq_getElem hi]; exact h _ (List.getElem_mem hi)
  · rw [List.getD_eq_getElem?_getD, List.getElem?_eq_none (by omega)]; exact Nat.zero_le _

theorem DiskAt.empty {base g : Nat} {S : List ByteArray} {C : List (Int × ByteArray)} {w : World} (h : DiskAt w base g S C) : DiskAt (w.setCell ⟨g, 1, none⟩ (.slice none 0 0)) base g S [] ∧ Below base w (w.setCell ⟨g, 1, none⟩ (.slice none 0 0)) := by
  obtain ⟨s1, c1, A2, c2, hk, hbg, ho1, ho2⟩ := h
  refine ⟨⟨s1, c1, none, 0, ?_, hbg, ownsRow_setCell_other ho1 (KH.own_blk_ne ho1 hk (by decide)) _, ⟨by simp [shC], .inl ⟨rfl, rfl⟩⟩⟩, (Below.refl base w).setCell (p := ⟨g, 1, none⟩) hbg _⟩
  have := hk.set_ 1 (.slice none 0 0)
  simpa using this

/-- the disk behind each text that waits, by its fate -/
def settleS (S : List ByteArray) (C : List (Int × ByteArray)) (f : Nat → Int) : Nat → List ByteArray
  | 0 => S
  | k + 1 => fallS (settleS S C f k) (C.getD k (0, ⟨#[]⟩)).1.toNat (C.getD k (0, ⟨#[]⟩)).2 (f k)
theorem settleS_length (S : List ByteArray) (C : List (Int × ByteArray)) (f : Nat → Int) : ∀ k, (settleS S C f k).length = S.length
  | 0 => rfl
  | k + 1 => by rw [settleS, fallS_length, settleS_length S C f k]
theorem ext_size (b : ByteArray) (i j : Nat) (hj : j ≤ b.size) : (b.extract i j).size = j - i := by
  rw [ByteArray.size_extract]; omega
theorem begS_size (s o : ByteArray) (n : Nat) (hs : s.size ≤ 128) (ho : o.size ≤ 128) : (begS s o n).size ≤ 128 := by
  unfold begS
  rw [ByteArray.size_append, ext_size _ _ _ (Nat.min_le_right _ _)]
  split
  · rw [ext_size _ _ _ (Nat.le_refl _)]; omega
  · show _ + 0 ≤ 128; omega
theorem fallS_size {S : List ByteArray} {i : Nat} {s : ByteArray} {f : Int} (h : ∀ x ∈ S, x.size ≤ 128) (hs : s.size ≤ 128) : ∀ x ∈ fallS S i s f, x.size ≤ 128 := by
  have hg : (S.getD i ⟨#[]⟩).size ≤ 128 := by
    by_cases hi : i < S.length
    · rw [List.getD_eq_getElem?_getD, List.getElem?_eq_getElem hi]; exact h _ (List.getElem_mem hi)
    · rw [List.getD_eq_getElem?_getD, List.getElem?_eq_none (by omega)]; exact Nat.zero_le _
  unfold fallS
  split
  · exact h
  · split
    · intro x hx; rcases List.mem_or_eq_of_mem_set hx with hx | rfl
      · exact h x hx
      · exact hs
    · intro x hx; rcases List.mem_or_eq_of_mem_set hx with hx | rfl
      · exact h x hx
      · exact begS_size _ _ _ hs hg
theorem settleS_size {S : List ByteArray} {C : List (Int × ByteArray)} {f : Nat → Int} (h : ∀ x ∈ S, x.size ≤ 128) (hC : ∀ p ∈ C, p.2.size ≤ 128) : ∀ k, ∀ x ∈ settleS S C f k, x.size ≤ 128
  | 0 => h
  | k + 1 => by
    rw [settleS]
    refine fallS_size (settleS_size h hC k) ?_
    by_cases hi : k < C.length
    · rw [List.getD_eq_getElem?_getD, List.getElem?_eq_getElem hi]; exact hC _ (List.getElem_mem hi)
    · rw [List.getD_eq_getElem?_getD, List.getElem?_eq_none (by omega)]; exact Nat.zero_le _

set_option maxRecDepth 100000 in
theorem settle_any {fn : FuncId} {caps : Array Value} {fate : Nat → Int} {v : Value} {S : List ByteArray} {C : List (Int × ByteArray)} {w : World} {lo : Nat} (h : PlIn w lo v S C) (hp : pOk S C)
    (hcf : ∀ (args : Array Value) (w : World), (callFunc fn args).run Tryz.prog w = .ok (.enter fn args) w) (hfb : ∀ i, fate i ≤ 9223372036854775807)
    (hF : ∀ (i : Nat), i < C.length → ∀ w', Below w.heap.size w w' → Calls Tryz.prog fn (#[.int .i64 i] ++ caps) w' fun e w'' => e = .returned (.int .i64 (fate i)) ∧ Below w'.heap.size w' w'') :
    Calls Tryz.prog 36 #[v, .func (.func fn) #[] caps] w fun e w' => ∃ v', e = .returned (.tuple #[v', .int .i64 0]) ∧ PlIn w' w.heap.size v' (settleS S C fate C.length) [] ∧ Below w.heap.size w w' := by
  obtain ⟨A1, c1, A2, c2, rfl, -, -, h1, h2⟩ := h
  have hb1 := ((Below.refl w.heap.size w).alloc (Nat.le_refl _) (.cells #[.slice A1 S.length c1, .slice A2 C.length c2] 35)).alloc (by simp) (.cells #[.slice none 0 0, .slice none 0 0] 35)
  have HP := KH.hid hp
  clear hp
  have hS1 := (h1.below hb1).more hb1.size
  have hC1 := (KH.Reads.below h2 hb1).more hb1.size
  have hka := (KH.Blk.new w 35 #[.slice A1 S.length c1, .slice A2 C.length c2]).alloc (.cells #[.slice none 0 0, .slice none 0 0] 35)
  have hkb := (KH.Blk.new (w.alloc (.cells #[.slice A1 S.length c1, .slice A2 C.length c2] 35)) 35 #[.slice none 0 0, .slice none 0 0])
  have hz1 : ((w.alloc (.cells #[.slice A1 S.length c1, .slice A2 C.length c2] 35)).alloc (.cells #[.slice none 0 0, .slice none 0 0] 35)).heap.size = w.heap.size + 2 := by simp
  go_enter Tryz.func36, Tryz.ntmps36
  go_wp2_with fail
  generalize ((w.alloc (.cells #[.slice A1 S.length c1, .slice A2 C.length c2] 35)).alloc (.cells #[.slice none 0 0, .slice none 0 0] 35)) = w1 at *
  refine (check_yes _ _ hS1 hC1 (Nat.le_refl _) HP.out).mono ?_; rintro e w2 ⟨rfl, hb2⟩
  have hs2 := hb2.size
  have hka2 := hka.below hb2 (by omega)
  have hkb2 := hkb.below hb2 (by simp; omega)
  have f1 : w2.cell? ⟨w.heap.size, 0, none⟩ = some (.slice A1 S.length c1) := hka2.cell 0
  have f2 : w2.cell? ⟨w.heap.size, 1, none⟩ = some (.slice A2 C.length c2) := hka2.cell 1
  have hS2 := (hS1.below hb2).more hs2
  have hC2 := (KH.Reads.below hC1 hb2).more hs2
  have hB2 := hb1.trans (hb2.mono hb1.size)
  clear hb1 hb2 h1 h2 hS1 hC1 hka hkb
  go_wp2_with fail
  refine (pcopied_any _ _ hS2 hC2 (Nat.le_refl _) HP.out.2.1 HP.out.2.2.1 HP.out.1).mono ?_; rintro e w3 ⟨g, rfl, hD3, hb3⟩
  have hs3 := hb3.size
  have hka3 := hka2.below hb3 (by omega)
  have hkb3 := hkb2.below hb3 (by simp at *; omega)
  have f3 : w3.cell? ⟨w.heap.size, 0, none⟩ = some (.slice A1 S.length c1) := hka3.cell 0
  have f4 : w3.cell? ⟨w.heap.size, 1, none⟩ = some (.slice A2 C.length c2) := hka3.cell 1
  have hl2 : C.length ≤ 9223372036854775807 := by have := HP.out.2.2.1; omega
  clear f1 f2 hka3
  go_wp2_with fail
  go_loopw [8, 9, 21] (fun _ _ i wr => ∃ k : Nat, k ≤ C.length ∧ i = .int .i64 k ∧ Hid (DiskAt wr w2.heap.size g (settleS S C fate k) C ∧ Below w2.heap.size w3 wr)) (fun _ _ i _ => C.length - (intOf i).toNat)
  case atStart => exact ⟨0, Nat.zero_le _, rfl, hD3, Below.refl _ _⟩
  case round =>
    obtain ⟨k, hk, rfl, hb⟩ := hrel
    by_cases hlt : k < C.length
    · obtain ⟨ad, x, b, rfl, hab, hx, hc1, hc2⟩ := ShIn.at_ (KH.Reads.below (KH.Reads.below hC2 hb3) hb.out.2) hlt
      obtain ⟨q1, q2, q3⟩ := HP.out.2.2.2.2 _ (List.mem_of_getElem? hx)
      replace q1 : b.size ≤ 128 := q1
      obtain ⟨xn, rfl⟩ : ∃ n : Nat, x = n := ⟨x.toNat, by omega⟩
      have hxn : xn < S.length := by simpa using q3
      have hsz := settleS_size (f := fate) HP.out.2.2.2.1 (fun p hp => (HP.out.2.2.2.2 p hp).1) k
      have hst : settleS S C fate (k + 1) = fallS (settleS S C fate k) xn b (fate k) := by
        rw [settleS, show C.getD k (0, ⟨#[]⟩) = ((xn : Int), b) by rw [List.getD_eq_getElem?_getD, hx]; rfl]; rfl
      have HD := KH.hid (DiskAt.alloc hb.out.1 (.cells #[.int .i64 xn, .string b] 122))
      have hkp := KH.Blk.new wr 122 #[.int .i64 xn, .string b]
      have g1 : (wr.alloc (.cells #[.int .i64 xn, .string b] 122)).cell? ⟨wr.heap.size, 0, none⟩ = some (.int .i64 xn) := hkp.cell 0
      have g2 : (wr.alloc (.cells #[.int .i64 xn, .string b] 122)).cell? ⟨wr.heap.size, 1, none⟩ = some (.string b) := hkp.cell 1
      have hbw := hB2.trans ((hb3.mono (show w.heap.size ≤ w2.heap.size by have := hB2.size; omega)).trans (hb.out.2.mono (show w.heap.size ≤ w2.heap.size by have := hB2.size; omega)))
      have hbA := (Below.refl wr.heap.size wr).alloc (Nat.le_refl _) (.cells #[.int .i64 xn, .string b] 122)
      have HF := KH.hid (hF k hlt ((wr.alloc (.cells #[.int .i64 xn, .string b] 122))).drew ((hbw.alloc hbw.size _).drew))
      have HB := KH.hid (hb.out.2.alloc (by have := hb.out.2.size; omega) (.cells #[.int .i64 xn, .string b] 122))
      have HST := KH.hid (And.intro hst (And.intro (show xn < (settleS S C fate k).length by rw [settleS_length]; exact hxn) (getD_size hsz xn)))
      have hz : (wr.alloc (.cells #[.int .i64 xn, .string b] 122)).heap.size = wr.heap.size + 1 := by simp
      clear hx hsz hst hbw hbA hb q2 q3 hxn
      go_wp2_with fail
      generalize wr.alloc (.cells #[.int .i64 xn, .string b] 122) = wa at *
      go_region_held3 (fun w' => w'.cell? ⟨wr.heap.size, 0, none⟩ = some (.int .i64 xn) ∧ w'.cell? ⟨wr.heap.size, 1, none⟩ = some (.string b)) (first | exact ⟨by assumption, by assumption⟩ | go_keep) (first
        | (go_at_call 64; refine (fall_any xn b (fate k) (DiskAt.later (w := wa.drew) HD.out hbf) HST.out.2.1 q1 HST.out.2.2 (hfb k)).mono ?_; rintro e wl ⟨rfl, r1, r2, r3⟩; have kl := r3 _ _ _ (by decide) kf; have g5 : wl.cell? ⟨wr.heap.size, 0, none⟩ = some (.int .i64 xn) := kl.cell 0; have g6 : wl.cell? ⟨wr.heap.size, 1, none⟩ = some (.string b) := kl.cell 1)
        | (refine HF.out.mono ?_; rintro e wf ⟨rfl, hbf⟩; have kf := KH.Blk.below (w := wa.drew) hkp hbf (by show _ < wa.heap.size; omega); have g3 : wf.cell? ⟨wr.heap.size, 0, none⟩ = some (.int .i64 xn) := kf.cell 0; have g4 : wf.cell? ⟨wr.heap.size, 1, none⟩ = some (.string b) := kf.cell 1))
      go_wp2
      go_roundw
      case rel => exact ⟨k + 1, by omega, by go_num, by rw [HST.out.1]; exact r1, HB.out.drew.trans ((hbf.mono (by have := HB.out.size; show w2.heap.size ≤ wa.heap.size; omega)).trans r2)⟩
      case measure => simp [intOf]; omega
    · obtain rfl : k = C.length := by omega
      have hE := DiskAt.empty hb.out.1
      obtain ⟨s1, d1, A3, d2, hk, hbg, ho1, ho2⟩ := hb.out.1
      have f5 : wr.cell? ⟨g, 1, none⟩ = some (.slice A3 C.length d2) := hk.cell 1
      have f6 : wr.frozen? ⟨g, 1, none⟩ = false := hk.frozen 1
      have hkb4 := hkb3.below hb.out.2 (by simp; omega)
      have hkb5 := hkb4.far (p := ⟨g, 1, none⟩) (by simp; omega) (.slice none 0 0)
      have hBr := hB2.trans ((hb3.mono (by omega)).trans ((hb.out.2.mono (by omega)).trans (hE.2.mono (by omega))))
      clear hkb4 hkb3 hkb2 hk ho1 ho2 hS2 hC2 hb hB2 hb3 hD3 f3 f4 hka2
      go_wp2_with fail
      generalize wr.setCell ⟨g, 1, none⟩ (.slice none 0 0) = wq at *
      refine (plain_any hE.1).mono ?_; rintro e w9 ⟨v', rfl, hP, hb9⟩
      have hkb6 := hkb5.below hb9 hkb5.lt
      have e1 : w9.cell? ⟨w.heap.size + 1, 0, none⟩ = some (.slice none 0 0) := by simpa using hkb6.cell 0
      have e2 : w9.cell? ⟨w.heap.size + 1, 1, none⟩ = some (.slice none 0 0) := by simpa using hkb6.cell 1
      have e3 : w9.frozen? ⟨w.heap.size + 1, 0, none⟩ = false := by simpa using hkb6.frozen 0
      have e4 : w9.frozen? ⟨w.heap.size + 1, 1, none⟩ = false := by simpa using hkb6.frozen 1
      have hPL := hP
      obtain ⟨B1, b1, B2, b2, rfl, -, -, -, -⟩ := hP
      go_wp2_with fail
      exact ret_pl Tryz.results36 rfl rfl rfl (by simpa using hkb6) hPL (by omega) (by omega) (hBr.trans (hb9.mono hBr.size)) (by omega)
end Go.Proofs.YtlnilfcjcoclhaaGreatDoor
/- Package platter: Write, Sync, Crash, Read, New. -/
namespace Go.Proofs.YtlnilfcjcoclhaaGreatDoor
open Go.RowKit

set_option maxRecDepth 100000 in
theorem has_yes {A1 A2 : Option Addr} {n1 n2 : Nat} (c1 c2 i : Nat) (w : World) (hi : i < n1) :
    Calls Tryz.prog 66 #[.agg #[.slice A1 n1 c1, .slice A2 n2 c2], .int .i64 i] w fun e w' => e = .returned (.bool true) ∧ Below w.heap.size w w' := by
  have e2 : decide ((0 : Int) ≤ (i : Int)) = true := by rw [decide_eq_true_iff]; omega
  have e3 : decide ((i : Int) < (n1 : Int)) = true := by rw [decide_eq_true_iff]; omega
  have e4 : decide (i < n1) = true := by rw [decide_eq_true_iff]; omega
  go_enter Tryz.func66, Tryz.ntmps66
  go_wp2
  go_ret
  exact ⟨rfl, (Below.refl _ _).alloc (Nat.le_refl _) _⟩

set_option maxRecDepth 100000 in
theorem one_any {v : Value} {S : List ByteArray} {C : List (Int × ByteArray)} {w : World} {lo : Nat} (i : Nat) (s : ByteArray) (h : PlIn w lo v S C) (hp : pOk S C) (hi : i < S.length) (hs : s.size ≤ 128) :
    Calls Tryz.prog 68 #[v, .int .i64 i, .string s, .bool false, .func (.func 69) #[] #[]] w fun e w' => ∃ v', e = .returned (.tuple #[v', .int .i64 0]) ∧ PlIn w' w.heap.size v' S (C ++ [(((i : Nat) : Int), s)]) ∧ Below w.heap.size w w' := by
  obtain ⟨A1, c1, A2, c2, rfl, -, -, h1, h2⟩ := h
  have hb1 := ((Below.refl w.heap.size w).alloc (Nat.le_refl _) (.cells #[.slice A1 S.length c1, .slice A2 C.length c2] 35)).alloc (by simp) (.cells #[.slice none 0 0, .slice none 0 0] 35)
  have HP := KH.hid hp
  clear hp
  have hS1 := (h1.below hb1).more hb1.size
  have hC1 := (KH.Reads.below h2 hb1).more hb1.size
  have hka := (KH.Blk.new w 35 #[.slice A1 S.length c1, .slice A2 C.length c2]).alloc (.cells #[.slice none 0 0, .slice none 0 0] 35)
  have hkb := (KH.Blk.new (w.alloc (.cells #[.slice A1 S.length c1, .slice A2 C.length c2] 35)) 35 #[.slice none 0 0, .slice none 0 0])
  rw [show (w.alloc (.cells #[.slice A1 S.length c1, .slice A2 C.length c2] 35)).heap.size = w.heap.size + 1 by simp] at hkb
  have hz1 : ((w.alloc (.cells #[.slice A1 S.length c1, .slice A2 C.length c2] 35)).alloc (.cells #[.slice none 0 0, .slice none 0 0] 35)).heap.size = w.heap.size + 2 := by simp
  have d1 : decide ((128 : Int) < (s.size : Int)) = false := by rw [decide_eq_false_iff_not]; omega
  have hs' : s.size ≤ 9223372036854775807 := by omega
  have HI := KH.hid (And.intro hi hs)
  clear h1 h2 hi hs
  go_enter Tryz.func68, Tryz.ntmps68
  go_wp2_with fail
  generalize ((w.alloc (.cells #[.slice A1 S.length c1, .slice A2 C.length c2] 35)).alloc (.cells #[.slice none 0 0, .slice none 0 0] 35)) = w1 at *
  refine (check_yes _ _ hS1 hC1 (Nat.le_refl _) HP.out).mono ?_; rintro e w2 ⟨rfl, hb2⟩
  have hs2 := hb2.size
  have hka2 := hka.below hb2 (by omega)
  have hkb2 := hkb.below hb2 (by omega)
  have f1 : w2.cell? ⟨w.heap.size, 0, none⟩ = some (.slice A1 S.length c1) := hka2.cell 0
  have f2 : w2.cell? ⟨w.heap.size, 1, none⟩ = some (.slice A2 C.length c2) := hka2.cell 1
  have hS2 := (hS1.below hb2).more hs2
  have hC2 := (KH.Reads.below hC1 hb2).more hs2
  have hB2 := hb1.trans (hb2.mono hb1.size)
  clear hb1 hb2 hS1 hC1 hka hkb
  go_wp2_with fail
  refine (has_yes c1 c2 i w2 HI.out.1).mono ?_; rintro e w3 ⟨rfl, hb3⟩
  have hs3 := hb3.size
  have hka3 := hka2.below hb3 (by omega)
  have hkb3 := hkb2.below hb3 (by omega)
  have f3 : w3.cell? ⟨w.heap.size, 0, none⟩ = some (.slice A1 S.length c1) := hka3.cell 0
  have f4 : w3.cell? ⟨w.heap.size, 1, none⟩ = some (.slice A2 C.length c2) := hka3.cell 1
  have hS3 := (hS2.below hb3).more hs3
  have hC3 := (KH.Reads.below hC2 hb3).more hs3
  have hB3 := hB2.trans (hb3.mono hB2.size)
  clear hB2 hb3 hS2 hC2 hka2 hkb2 f1 f2
  go_wp2_with fail
  refine (pcopied_any _ _ hS3 hC3 (Nat.le_refl _) HP.out.2.1 HP.out.2.2.1 HP.out.1).mono ?_; rintro e w4 ⟨g, rfl, hD4, hb4⟩
  have hs4 := hb4.size
  have hkb4 := hkb3.below hb4 (by omega)
  have hB4 := hB3.trans (hb4.mono (by omega))
  clear hB3 hb4 hS3 hC3 hka3 hkb3 f3 f4
  go_wp2_with (first | (go_at_call 70; refine (wait_any i s hD4 (by have := HP.out.2.2.1; omega)).mono ?_; rintro e w5 ⟨rfl, hD5, hb5⟩) | (go_at_call 65; refine (plain_any hD5).mono ?_; rintro e w6 ⟨v', rfl, hP6, hb6⟩; have hPL := hP6; obtain ⟨B1, b1, B2, b2, rfl, -, -, -, -⟩ := hP6; have hkb6 := (hkb4.below hb5 (by omega)).below hb6 (by have := (hkb4.below hb5 (by omega)).lt; omega); have e1 : w6.cell? ⟨w.heap.size + 1, 0, none⟩ = some (.slice none 0 0) := hkb6.cell 0; have e2 : w6.cell? ⟨w.heap.size + 1, 1, none⟩ = some (.slice none 0 0) := hkb6.cell 1; have e3 : w6.frozen? ⟨w.heap.size + 1, 0, none⟩ = false := hkb6.frozen 0; have e4 : w6.frozen? ⟨w.heap.size + 1, 1, none⟩ = false := hkb6.frozen 1) | go_in)
  have hlo : w.heap.size + 1 < w3.heap.size := by omega
  exact ret_pl Tryz.results68 rfl rfl rfl hkb6 (by rw [show C.length + 1 = (C ++ [((i : Int), s)]).length by simp]; exact hPL) hlo (by omega) (hB4.trans ((hb5.mono (by omega)).trans (hb6.mono (by have := hB4.size; have := hb5.size; omega)))) (by omega)

set_option maxRecDepth 100000 in
theorem write_any {v : Value} {S : List ByteArray} {C : List (Int × ByteArray)} {w : World} {lo : Nat} (i : Nat) (s : ByteArray) (h : PlIn w lo v S C) (hp : pOk S C) (hi : i < S.length) (hs : s.size ≤ 128) (hC : C.length < 100) :
    Calls Tryz.prog 43 #[v, .int .i64 i, .string s] w fun e w' => ∃ v', e = .returned (.tuple #[v', .int .i64 0]) ∧ PlIn w' w.heap.size v' S (C ++ [(((i : Nat) : Int), s)]) ∧ Below w.heap.size w w' := by
  have h0 := h
  obtain ⟨A1, c1, A2, c2, rfl, -, -, -, -⟩ := h
  have hb1 := ((Below.refl w.heap.size w).alloc (Nat.le_refl _) (.cells #[.slice A1 S.length c1, .slice A2 C.length c2] 35)).alloc (by simp) (.cells #[.slice none 0 0, .slice none 0 0] 35)
  have h1 := h0.below hb1
  have hkb := (KH.Blk.new (w.alloc (.cells #[.slice A1 S.length c1, .slice A2 C.length c2] 35)) 35 #[.slice none 0 0, .slice none 0 0])
  rw [show (w.alloc (.cells #[.slice A1 S.length c1, .slice A2 C.length c2] 35)).heap.size = w.heap.size + 1 by simp] at hkb
  have hz1 : ((w.alloc (.cells #[.slice A1 S.length c1, .slice A2 C.length c2] 35)).alloc (.cells #[.slice none 0 0, .slice none 0 0] 35)).heap.size = w.heap.size + 2 := by simp
  have d1 : decide ((100 : Int) ≤ (C.length : Int)) = false := by rw [decide_eq_false_iff_not]; omega
  have hm : C.length ≤ 9223372036854775807 := by omega
  have HI := KH.hid (And.intro hi (And.intro hs hp))
  clear h0 hi hs hp
  go_enter Tryz.func43, Tryz.ntmps43
  go_wp2_with fail
  generalize ((w.alloc (.cells #[.slice A1 S.length c1, .slice A2 C.length c2] 35)).alloc (.cells #[.slice none 0 0, .slice none 0 0] 35)) = w1 at *
  refine (one_any i s h1 HI.out.2.2 HI.out.1 HI.out.2.1).mono ?_; rintro e w6 ⟨v', rfl, hP6, hb6⟩
  have hPL := hP6
  obtain ⟨B1, b1, B2, b2, rfl, -, -, -, -⟩ := hP6
  have hkb6 := hkb.below hb6 (by omega)
  have e1 : w6.cell? ⟨w.heap.size + 1, 0, none⟩ = some (.slice none 0 0) := hkb6.cell 0
  have e2 : w6.cell? ⟨w.heap.size + 1, 1, none⟩ = some (.slice none 0 0) := hkb6.cell 1
  have e3 : w6.frozen? ⟨w.heap.size + 1, 0, none⟩ = false := hkb6.frozen 0
  have e4 : w6.frozen? ⟨w.heap.size + 1, 1, none⟩ = false := hkb6.frozen 1
  have hlo : w.heap.size + 1 < w1.heap.size := by omega
  go_wp2
  exact ret_pl Tryz.results43 rfl rfl rfl hkb6 (by rw [show C.length + 1 = (C ++ [((i : Int), s)]).length by simp]; exact hPL) hlo (by omega) (hb1.trans (hb6.mono (by omega))) (by omega)

set_option maxRecDepth 100000 in
theorem sync_any {v : Value} {S : List ByteArray} {C : List (Int × ByteArray)} {w : World} {lo : Nat} (h : PlIn w lo v S C) (hp : pOk S C) :
    Calls Tryz.prog 46 #[v] w fun e w' => ∃ v', e = .returned (.tuple #[v', .int .i64 0]) ∧ PlIn w' w.heap.size v' (settleS S C (fun _ => 1) C.length) [] ∧ Below w.heap.size w w' := by
  have h0 := h
  obtain ⟨A1, c1, A2, c2, rfl, -, -, -, -⟩ := h
  have hb1 := ((Below.refl w.heap.size w).alloc (Nat.le_refl _) (.cells #[.slice A1 S.length c1, .slice A2 C.length c2] 35)).alloc (by simp) (.cells #[.slice none 0 0, .slice none 0 0] 35)
  have h1 := h0.below hb1
  have hkb := (KH.Blk.new (w.alloc (.cells #[.slice A1 S.length c1, .slice A2 C.length c2] 35)) 35 #[.slice none 0 0, .slice none 0 0])
  rw [show (w.alloc (.cells #[.slice A1 S.length c1, .slice A2 C.length c2] 35)).heap.size = w.heap.size + 1 by simp] at hkb
  have hz1 : ((w.alloc (.cells #[.slice A1 S.length c1, .slice A2 C.length c2] 35)).alloc (.cells #[.slice none 0 0, .slice none 0 0] 35)).heap.size = w.heap.size + 2 := by simp
  have HI := KH.hid hp
  clear h0 hp
  go_enter Tryz.func46, Tryz.ntmps46
  go_wp2_with fail
  generalize ((w.alloc (.cells #[.slice A1 S.length c1, .slice A2 C.length c2] 35)).alloc (.cells #[.slice none 0 0, .slice none 0 0] 35)) = w1 at *
  refine (settle_any (fate := fun _ => 1) h1 HI.out (fun _ _ => rfl) (fun _ => by omega) (fun i _ w' _ => ?_)).mono ?_
  · show Calls Tryz.prog 71 #[.int .i64 i] w' _
    go_enter Tryz.func71, Tryz.ntmps71
    go_wp2
    go_ret
    exact ⟨rfl, Below.refl _ _⟩
  rintro e w6 ⟨v', rfl, hP6, hb6⟩
  have hPL := hP6
  obtain ⟨B1, b1, B2, b2, rfl, -, -, -, -⟩ := hP6
  have hkb6 := hkb.below hb6 (by omega)
  have e1 : w6.cell? ⟨w.heap.size + 1, 0, none⟩ = some (.slice none 0 0) := hkb6.cell 0
  have e2 : w6.cell? ⟨w.heap.size + 1, 1, none⟩ = some (.slice none 0 0) := hkb6.cell 1
  have e3 : w6.frozen? ⟨w.heap.size + 1, 0, none⟩ = false := hkb6.frozen 0
  have e4 : w6.frozen? ⟨w.heap.size + 1, 1, none⟩ = false := hkb6.frozen 1
  have hlo : w.heap.size + 1 < w1.heap.size := by omega
  go_wp2
  exact ret_pl Tryz.results46 rfl rfl rfl hkb6 hPL hlo (by omega) (hb1.trans (hb6.mono (by omega))) (by omega)

/-- the fate that a list tells -/
def fateL (l : List Int) (i : Nat) : Int := l.getD i 0
set_option maxRecDepth 100000 in
theorem crash_any {v : Value} {S : List ByteArray} {C : List (Int × ByteArray)} {w : World} {lo n c : Nat} {A : Option Addr} {l : List Int} (h : PlIn w lo v S C) (hp : pOk S C) (hl : KH.Reads w w.heap.size 1 A n (l.map (.int .i64))) (hn : n ≤ maxLen) (hb : ∀ x ∈ l, x ≤ 9223372036854775807) :
    Calls Tryz.prog 18 #[v, .slice A n c] w fun e w' => ∃ v', e = .returned (.tuple #[v', .int .i64 0]) ∧ PlIn w' w.heap.size v' (settleS S C (fateL l) C.length) [] ∧ Below w.heap.size w w' := by
  have h0 := h
  have hm : n ≤ 9223372036854775807 := by unfold maxLen at hn; omega
  have hll : l.length = n := by have := hl.1; simpa using this
  obtain ⟨A1, c1, A2, c2, rfl, -, -, -, -⟩ := h
  have hb1 := (((Below.refl w.heap.size w).alloc (Nat.le_refl _) (.cells #[.slice A1 S.length c1, .slice A2 C.length c2] 35)).alloc (by simp) (.cells #[.slice A n c] 29)).alloc (by simp; omega) (.cells #[.slice none 0 0, .slice none 0 0] 35)
  have h1 := h0.below hb1
  have hla := hl.below hb1
  have hkc := (KH.Blk.new (w.alloc (.cells #[.slice A1 S.length c1, .slice A2 C.length c2] 35)) 29 #[.slice A n c]).alloc (.cells #[.slice none 0 0, .slice none 0 0] 35)
  rw [show (w.alloc (.cells #[.slice A1 S.length c1, .slice A2 C.length c2] 35)).heap.size = w.heap.size + 1 by simp] at hkc
  have hkb := (KH.Blk.new ((w.alloc (.cells #[.slice A1 S.length c1, .slice A2 C.length c2] 35)).alloc (.cells #[.slice A n c] 29)) 35 #[.slice none 0 0, .slice none 0 0])
  rw [show ((w.alloc (.cells #[.slice A1 S.length c1, .slice A2 C.length c2] 35)).alloc (.cells #[.slice A n c] 29)).heap.size = w.heap.size + 2 by simp] at hkb
  have hz1 : (((w.alloc (.cells #[.slice A1 S.length c1, .slice A2 C.length c2] 35)).alloc (.cells #[.slice A n c] 29)).alloc (.cells #[.slice none 0 0, .slice none 0 0] 35)).heap.size = w.heap.size + 3 := by simp
  have HI := KH.hid hp
  have hfb : ∀ i, fateL l i ≤ 9223372036854775807 := fun i => by
    unfold fateL
    by_cases hi : i < l.length
    · rw [List.getD_eq_getElem?_getD, List.getElem?_eq_getElem hi]; exact hb _ (List.getElem_mem hi)
    · rw [List.getD_eq_getElem?_getD, List.getElem?_eq_none (by omega)]; show (0 : Int) ≤ _; omega
  have HFB := KH.hid (And.intro hfb hll)
  clear h0 hp hb hfb hll hl
  go_enter Tryz.func18, Tryz.ntmps18
  go_wp2_with fail
  generalize (((w.alloc (.cells #[.slice A1 S.length c1, .slice A2 C.length c2] 35)).alloc (.cells #[.slice A n c] 29)).alloc (.cells #[.slice none 0 0, .slice none 0 0] 35)) = w1 at *
  refine (settle_any (fate := fateL l) h1 HI.out (fun _ _ => rfl) HFB.out.1 (fun i hi w' hw => ?_)).mono ?_
  · show Calls Tryz.prog 37 #[.int .i64 i, .pointer (some ⟨w.heap.size + 1, 0, none⟩)] w' _
    have hkc' := hkc.below hw (by omega)
    have hla' := hla.below (hw.mono (by omega))
    have f1 : w'.cell? ⟨w.heap.size + 1, 0, none⟩ = some (.slice A n c) := hkc'.cell 0
    have k0 : (0 : Int) ≤ (i : Int) := by omega
    by_cases hin : i < n
    · obtain ⟨ad, x, rfl, hab, hx, hc⟩ := KH.Reads.int hla' hin
      have d1 : decide ((i : Int) < (n : Int)) = true := by rw [decide_eq_true_iff]; omega
      have d2 : decide (i < n) = true := by rw [decide_eq_true_iff]; omega
      have k1 : (i : Int) < (n : Int) := by omega
      have hf : Hid (fateL l i = x) := KH.hid (by unfold fateL; rw [List.getD_eq_getElem?_getD, hx]; rfl)
      go_enter Tryz.func37, Tryz.ntmps37
      go_wp2
      go_ret
      exact ⟨KH.ret_int hf.out.symm, Below.refl _ _⟩
    · have d1 : decide ((i : Int) < (n : Int)) = false := by rw [decide_eq_false_iff_not]; omega
      have d2 : decide (i < n) = false := by rw [decide_eq_false_iff_not]; omega
      have hf : Hid (fateL l i = 0) := KH.hid (by unfold fateL; rw [List.getD_eq_getElem?_getD, List.getElem?_eq_none (by have := HFB.out.2; omega)]; rfl)
      go_enter Tryz.func37, Tryz.ntmps37
      go_wp2
      go_ret
      exact ⟨KH.ret_int hf.out.symm, Below.refl _ _⟩
  rintro e w6 ⟨v', rfl, hP6, hb6⟩
  have hPL := hP6
  obtain ⟨B1, b1, B2, b2, rfl, -, -, -, -⟩ := hP6
  have hkb6 := hkb.below hb6 (by omega)
  have e1 : w6.cell? ⟨w.heap.size + 2, 0, none⟩ = some (.slice none 0 0) := hkb6.cell 0
  have e2 : w6.cell? ⟨w.heap.size + 2, 1, none⟩ = some (.slice none 0 0) := hkb6.cell 1
  have e3 : w6.frozen? ⟨w.heap.size + 2, 0, none⟩ = false := hkb6.frozen 0
  have e4 : w6.frozen? ⟨w.heap.size + 2, 1, none⟩ = false := hkb6.frozen 1
  have hlo : w.heap.size + 2 < w1.heap.size := by omega
  go_wp2
  exact ret_pl Tryz.results18 rfl rfl rfl hkb6 hPL hlo (by omega) (hb1.trans (hb6.mono (by omega))) (by omega)
end Go.Proofs.YtlnilfcjcoclhaaGreatDoor
/- Package platter: the texts that wait, from the last one on. -/
namespace Go.Proofs.YtlnilfcjcoclhaaGreatDoor
open Go.RowKit Go.Shelf
attribute [local go_sem] Oper.semAt_some

def revT (C : List (Int × ByteArray)) (j : Nat) : List (Int × ByteArray) := C.reverse.take j
theorem revT_snoc {C : List (Int × ByteArray)} {j m : Nat} {p : Int × ByteArray} (hp : C[m]? = some p) (hj : j + m + 1 = C.length) : revT C (j + 1) = revT C j ++ [p] := by
  unfold revT
  rw [List.take_add_one]
  congr 1
  rw [List.getElem?_reverse (by omega), show C.length - 1 - j = m by omega, hp]; rfl

set_option maxHeartbeats 2000000 in
set_option maxRecDepth 100000 in
theorem backward_stops (F : Fence) (n : Nat) (h53 : F.fn 88) (hro : F.round = none) (hn : 1 ≤ n) (b1 c : Nat) (A : Option Addr) (C : List (Int × ByteArray)) (w : World) (hb1 : b1 < w.heap.size)
    (hc1 : w.cell? ⟨b1, 0, none⟩ = some (.slice A C.length c)) (hC : ShIn w w.heap.size A C.length C) (hl : C.length ≤ 100) :
    SeqStopsK F n Tryz.prog 88 #[.pointer (some ⟨b1, 0, none⟩)] (fun x : Int × ByteArray => #[Value.agg #[.int .i64 x.1, .string x.2]]) (Below w.heap.size) (fun xs => xs = C.reverse) (fun pre => ∃ j, pre = revT C j) C.length w := fun l J Jx W hW hJ hJx hY h0 => by
  have HY := KH.hid hY
  have hB1 : b1 < w.heap.size := hb1
  have HC := KH.hid hC
  clear hY hJ hJx hC
  refine callsIn_of_wp Tryz.func88 rfl h53 ?_ hro
  simp only [Tryz.ntmps88, List.size_toArray, List.length_cons, List.length_nil, Nat.reduceAdd, Nat.reduceSub, Array.replicate_succ, Array.replicate_zero, List.push_toArray, List.append_toArray, List.nil_append, List.cons_append]
  have d1 : W.cell? ⟨b1, 0, none⟩ = some (.slice A C.length c) := (hW.cell (p := ⟨b1, 0, none⟩) hB1).trans hc1
  have hm : C.length ≤ 9223372036854775807 := by omega
  gi_wp2
  gi_loopw [3] (fun r wr => ∃ k : Nat, k ≤ C.length ∧ r = .int .i64 ((k : Int) - 1) ∧ J (revT C (C.length - k)) wr ∧ Below w.heap.size w wr) (fun r _ => (intOf r + 1).toNat)
  case atStart => exact ⟨C.length, Nat.le_refl _, rfl, by rw [Nat.sub_self]; exact h0, hW⟩
  case round =>
    obtain ⟨k, hk, rfl, hJj, hb⟩ := hrel
    clear h0 d1
    match k, hk, hJj with
    | 0, hk, hJj =>
      have hJ' : J C.reverse wr := by
        have : revT C (C.length - 0) = C.reverse := by unfold revT; rw [Nat.sub_zero, List.take_of_length_le (by simp)]
        rw [this] at hJj; exact hJj
      clear hJj
      gi_wp2
      go_end0
      exact ⟨⟨_, rfl⟩, .inl ⟨_, rfl, hJ'⟩⟩
    | m + 1, hk, hJj =>
      obtain ⟨ad, x, b, rfl, hab, hx, hc2, hc3⟩ := ShIn.at_ (KH.Reads.below HC.out hb) (show m < C.length by omega)
      have hd1 : wr.cell? ⟨b1, 0, none⟩ = some (.slice (some ad) C.length c) := (hb.cell (p := ⟨b1, 0, none⟩) hB1).trans hc1
      obtain ⟨fn, tmps, assign, body, hy, hR⟩ := HY.out (revT C (C.length - (m + 1))) (x, b) wr hJj (by unfold revT; rw [List.length_take]; omega)
      dsimp only at hy
      rw [← revT_snoc (m := m) hx (by omega), show C.length - (m + 1) + 1 = C.length - m by omega] at hR
      rw [show (((m + 1 : Nat) : Int) - 1) = (m : Int) by omega]
      have k0 : (0 : Int) ≤ (m : Int) := by omega
      have k1 : (m : Int) < (C.length : Int) := by omega
      clear hx hJj
      gi_wp2
      refine hR.mono ?_
      rintro e W1 (⟨rfl, hJ1, hk1⟩ | ⟨rfl, hx1⟩)
      · gi_wp2
        exact ⟨⟨m, by omega, by rfl, hJ1, hb.trans hk1⟩, by simp [intOf]⟩
      · gi_wp2
        refine bodyPost_ret (results_none rfl _ _ _) rfl ?_
        exact ⟨⟨_, rfl⟩, .inr ⟨_, ⟨_, rfl⟩, hx1⟩⟩

theorem backward_yes (A : Option Addr) (n c : Nat) (w : World) :
    Calls Tryz.prog 67 #[.slice A n c] w fun e w' => e = .returned (.func (.func 88) #[] #[.pointer (some ⟨w.heap.size, 0, none⟩)]) ∧ w.alloc (.cells #[.slice A n c] 33) = w' := by
  go_enter Tryz.func67, Tryz.ntmps67
  go_wp2
  go_ret
  exact ⟨rfl, rfl⟩

theorem blk1 (w : World) (o : Obj) (t : TypeId) (cs : Array Value) : KH.Blk ((w.alloc o).alloc (.cells cs t)) (w.heap.size + 1) t cs := by
  have := KH.Blk.new (w.alloc o) t cs
  rwa [World.size_alloc] at this
theorem blk2 (w : World) (o o2 : Obj) (t : TypeId) (cs : Array Value) : KH.Blk (((w.alloc o).alloc o2).alloc (.cells cs t)) (w.heap.size + 1 + 1) t cs := by
  have := KH.Blk.new ((w.alloc o).alloc o2) t cs
  rwa [World.size_alloc, World.size_alloc] at this
theorem blk3 (w : World) (o o2 o3 : Obj) (t : TypeId) (cs : Array Value) : KH.Blk ((((w.alloc o).alloc o2).alloc o3).alloc (.cells cs t)) (w.heap.size + 1 + 1 + 1) t cs := by
  have := KH.Blk.new (((w.alloc o).alloc o2).alloc o3) t cs
  rwa [World.size_alloc, World.size_alloc, World.size_alloc] at this
/-- what a disk reads at a place -/
def readV (S : List ByteArray) (C : List (Int × ByteArray)) (i : Nat) : ByteArray := match C.reverse.find? (fun p => p.1 == (i : Int)) with
  | some p => p.2
  | none => S.getD i ⟨#[]⟩

theorem blk_own {A A' : World} {B g : Nat} {t : TypeId} {cs : Array Value} {row : Option Nat} (h : KH.Blk A g t cs) (hg : A.grownBy A' row) (hr : ∀ r, row = some r → B ≤ r ∧ ∃ o : Obj, A.heap[r]? = some o ∧ o.isCells = false) : KH.Blk A' g t cs := by
  refine h.grown hg fun e => ?_
  obtain ⟨_, o, ho, hc⟩ := hr g e.symm
  unfold KH.Blk at h
  rw [h] at ho
  injection ho with ho
  rw [← ho] at hc
  exact absurd hc (by simp [Obj.isCells])

theorem readV_at {S : List ByteArray} {C q : List (Int × ByteArray)} {x : Int × ByteArray} {i j : Nat} (hq : revT C j = q ++ [x]) (hq1 : ∀ p ∈ q, p.1 ≠ (i : Int)) (hx : x.1 = (i : Int)) : readV S C i = x.2 := by
  have : C.reverse = q ++ [x] ++ C.reverse.drop j := by rw [← hq]; exact (List.take_append_drop _ _).symm
  unfold readV
  rw [this, List.find?_append, List.find?_append, List.find?_eq_none.2 (by intro p hp; simpa using hq1 p hp)]
  simp [hx]
theorem ret_read {w W : World} {h D : Nat} {o : ByteArray} {a : Act} {n : Nat} (r2 : KH.Blk W (h + 1 + 1) 9 #[.string o]) (r3 : KH.Blk W (h + 1 + 1 + 1) 41 #[.int .i64 0]) (hK : W.heap[D]? = some (.deferred (some [])))
    (hB : Below w.heap.size w W) (hD : w.heap.size ≤ D) (hd : a.defers = [{ target := Target.collected D, args := #[] }]) (ht : a.tmps.getD 4 undef = .pointer (some ⟨h + 1 + 1, 0, none⟩) ∧ a.tmps.getD 5 undef = .pointer (some ⟨h + 1 + 1 + 1, 0, none⟩)) :
    bodyPostM Fence.wide n Tryz.prog Tryz.f39 (fun e w' => e = .returned (.tuple #[.string o, .int .i64 0]) ∧ Below w.heap.size w w') .ret a W := by
  show LeavesInM _ _ _ _ _ _ _ _ _
  rw [hd]
  refine ⟨by simp, .inl ⟨_, _, rfl, run_takeDeferred hK, ?_⟩⟩
  have hDlt : D < W.heap.size := (Array.getElem?_eq_some_iff.1 hK).1
  have n2 : h + 1 + 1 ≠ D := fun e => by unfold KH.Blk at r2; rw [e, hK] at r2; cases r2
  have n3 : h + 1 + 1 + 1 ≠ D := fun e => by unfold KH.Blk at r3; rw [e, hK] at r3; cases r3
  have c2 : (W.putObj D (.deferred none)).cell? ⟨h + 1 + 1, 0, none⟩ = some (.string o) := (World.cell?_of_block (World.putObj_heap_other (fun e => n2 e))).trans (r2.cell 0)
  have c3 : (W.putObj D (.deferred none)).cell? ⟨h + 1 + 1 + 1, 0, none⟩ = some (.int .i64 0) := (World.cell?_of_block (World.putObj_heap_other (fun e => n3 e))).trans (r3.cell 0)
  have h1 := ht.1
  have h2 := ht.2
  rw [Array.getD_eq_getD_getElem?] at h1 h2
  refine ⟨_, (show (results _ _).run _ _ = .ok (.tuple #[.string o, .int .i64 0]) _ by simp [results, Tryz.results39, h1, h2, go_sem, c2, c3]), rfl, ?_⟩
  exact hB.trans (belowK_b (n₀ := w.heap.size) (w := w) (Nat.le_refl _) W D _ _ hD hK rfl rfl)

set_option maxHeartbeats 2000000 in
set_option maxRecDepth 100000 in
theorem read_any {v : Value} {S : List ByteArray} {C : List (Int × ByteArray)} {w : World} {lo : Nat} (i : Nat) (h : PlIn w lo v S C) (hp : pOk S C) (hi : i < S.length) :
    Calls Tryz.prog 39 #[v, .int .i64 i] w fun e w' => e = .returned (.tuple #[.string (readV S C i), .int .i64 0]) ∧ Below w.heap.size w w' := by
  obtain ⟨A1, c1, A2, c2, rfl, -, -, h1, h2⟩ := h
  refine (callsIn_wide (n := 5)).1 ?_
  refine callsIn_of_wp_marks Tryz.func39 rfl trivial ?_ rfl
  simp only [Tryz.ntmps39, List.size_toArray, List.length_cons, List.length_nil, Nat.reduceAdd, Nat.reduceSub, Array.replicate_succ, Array.replicate_zero, List.push_toArray, List.append_toArray, List.nil_append, List.cons_append]
  have hb0 := ((((Below.refl w.heap.size w).alloc (Nat.le_refl _) (.cells #[.slice A1 S.length c1, .slice A2 C.length c2] 35)).alloc (by simp) (.cells #[.int .i64 i] 3)).alloc (by simp; omega) (.cells #[.string ⟨#[]⟩] 9)).alloc (by simp; omega) (.cells #[.int .i64 0] 41)
  have hk0 := (((KH.Blk.new w 35 #[.slice A1 S.length c1, .slice A2 C.length c2]).alloc (.cells #[.int .i64 i] 3)).alloc (.cells #[.string ⟨#[]⟩] 9)).alloc (.cells #[.int .i64 0] 41)
  have hk1 := ((blk1 w (.cells #[.slice A1 S.length c1, .slice A2 C.length c2] 35) 3 #[.int .i64 i]).alloc (.cells #[.string ⟨#[]⟩] 9)).alloc (.cells #[.int .i64 0] 41)
  have hk2 := (blk2 w (.cells #[.slice A1 S.length c1, .slice A2 C.length c2] 35) (.cells #[.int .i64 i] 3) 9 #[.string ⟨#[]⟩]).alloc (.cells #[.int .i64 0] 41)
  have hk3 := blk3 w (.cells #[.slice A1 S.length c1, .slice A2 C.length c2] 35) (.cells #[.int .i64 i] 3) (.cells #[.string ⟨#[]⟩] 9) 41 #[.int .i64 0]
  have hz0 : ((((w.alloc (.cells #[.slice A1 S.length c1, .slice A2 C.length c2] 35)).alloc (.cells #[.int .i64 i] 3)).alloc (.cells #[.string ⟨#[]⟩] 9)).alloc (.cells #[.int .i64 0] 41)).heap.size = w.heap.size + 4 := by simp
  have hS0 := (h1.below hb0).more hb0.size
  have hC0 := (KH.Reads.below h2 hb0).more hb0.size
  have HP := KH.hid (And.intro hp hi)
  clear h1 h2 hp hi
  gi_wp2_with fail
  generalize ((((w.alloc (.cells #[.slice A1 S.length c1, .slice A2 C.length c2] 35)).alloc (.cells #[.int .i64 i] 3)).alloc (.cells #[.string ⟨#[]⟩] 9)).alloc (.cells #[.int .i64 0] 41)) = w0 at *
  refine ⟨trivial, ?_⟩
  refine (callsIn_wide.2 (check_yes _ _ hS0 hC0 (Nat.le_refl _) HP.out.1)).mono ?_; rintro e w1 ⟨rfl, hb1⟩
  have hs1 := hb1.size
  have j0 := hk0.below hb1 hk0.lt
  have j1 := hk1.below hb1 hk1.lt
  have f0 : w1.cell? ⟨w.heap.size, 0, none⟩ = some (.slice A1 S.length c1) := j0.cell 0
  have f1 : w1.cell? ⟨w.heap.size, 1, none⟩ = some (.slice A2 C.length c2) := j0.cell 1
  have f2 : w1.cell? ⟨w.heap.size + 1, 0, none⟩ = some (.int .i64 i) := j1.cell 0
  gi_wp2_with fail
  refine ⟨trivial, ?_⟩
  refine (callsIn_wide.2 (has_yes c1 c2 i w1 HP.out.2)).mono ?_; rintro e w2 ⟨rfl, hb2⟩
  have hs2 := hb2.size
  have hB2 : Below w0.heap.size w0 w2 := hb1.trans (hb2.mono hs1)
  have hB : Below w.heap.size w w2 := hb0.trans (hB2.mono hb0.size)
  have q0 := hk0.below hB2 hk0.lt
  have q1 := hk1.below hB2 hk1.lt
  have q2 := hk2.below hB2 hk2.lt
  have q3 := hk3.below hB2 hk3.lt
  have hS2 := (hS0.below hB2).more hB2.size
  have hC2 := (KH.Reads.below hC0 hB2).more hB2.size
  have f3 : w2.cell? ⟨w.heap.size, 1, none⟩ = some (.slice A2 C.length c2) := q0.cell 1
  clear f0 f1 f2 j0 j1 hk0 hk1 hk2 hk3 hb1 hb2 hS0 hC0 hb0
  gi_wp2_with fail
  refine ⟨trivial, ?_⟩
  refine (callsIn_wide.2 (backward_yes A2 C.length c2 w2)).mono ?_; rintro e w3 ⟨rfl, rfl⟩
  have hB3 := hB.alloc hB.size (.cells #[.slice A2 C.length c2] 33)
  have q0' := q0.alloc (.cells #[.slice A2 C.length c2] 33)
  have q1' := q1.alloc (.cells #[.slice A2 C.length c2] 33)
  have q2' := q2.alloc (.cells #[.slice A2 C.length c2] 33)
  have q3' := q3.alloc (.cells #[.slice A2 C.length c2] 33)
  have qb := KH.Blk.new w2 33 #[.slice A2 C.length c2]
  have hbn := (Below.refl w2.heap.size w2).alloc (Nat.le_refl _) (.cells #[.slice A2 C.length c2] 33)
  have hS3 := (hS2.below hbn).more hbn.size
  have hC3 := (KH.Reads.below hC2 hbn).more hbn.size
  have hz3 : (w2.alloc (.cells #[.slice A2 C.length c2] 33)).heap.size = w2.heap.size + 1 := by simp
  clear q0 q1 q2 q3 hS2 hC2 hbn f3 hB
  gi_wp2_with fail
  generalize w2.alloc (.cells #[.slice A2 C.length c2] 33) = w3 at *
  have hWS := HP.out.2
  have hwle : w.heap.size + 1 + 1 + 1 < w3.heap.size := q3'.lt
  refine wpIn_rangeFunc_ownH rfl (by omega) (gf := 88) (lb := #[.pointer (some ⟨w2.heap.size, 0, none⟩)]) rfl trivial (enters_of Tryz.func88 (by kernel_rfl) rfl)
    (backward_stops Fence.wide _ trivial rfl (by omega) w2.heap.size c2 A2 C w3 qb.lt (qb.cell 0) hC3 HP.out.1.len.2) belowK_t (belowK_b (Nat.le_refl _)) (Below.refl _ _) (fun _ => rfl)
    (fun pre W => (∀ p ∈ pre, p.1 ≠ (i : Int)) ∧ Below w3.heap.size w3 W)
    (fun c pre W => c = .ret ∧ ∃ q x, pre = q ++ [x] ∧ (∀ p ∈ q, p.1 ≠ (i : Int)) ∧ x.1 = (i : Int) ∧ KH.Blk W (w.heap.size + 1 + 1) 9 #[.string x.2] ∧ KH.Blk W (w.heap.size + 1 + 1 + 1) 41 #[.int .i64 0] ∧ Below w.heap.size w W)
    (fun s A B row hs hg hr => ⟨hs.1, hs.2.grown hg hs.2.size (fun k e => (hr k e).1)⟩)
    (fun c s A B row hs hg hr => by
      obtain ⟨h1, q, x, h2, h3, h4, h5, h6, h7⟩ := hs
      exact ⟨h1, q, x, h2, h3, h4, blk_own h5 hg hr, blk_own h6 hg hr, h7.grown hg h7.size (fun k e => by have := (hr k e).1; omega)⟩)
    ⟨by simp, Below.refl _ _⟩
    (fun x a' W => ∃ Bx, w3.heap.size ≤ Bx ∧ KH.Blk W Bx 122 #[.int .i64 x.1, .string x.2] ∧ a' = { tmps := #[.agg #[.slice A1 S.length c1, .slice A2 C.length c2], .int .i64 i, .pointer (some ⟨w.heap.size, 0, none⟩), .pointer (some ⟨w.heap.size + 1, 0, none⟩), .pointer (some ⟨w.heap.size + 1 + 1, 0, none⟩), .pointer (some ⟨w.heap.size + 1 + 1 + 1, 0, none⟩), .pointer (some ⟨Bx, 0, none⟩), .agg #[.slice A1 S.length c1, .slice A2 C.length c2], .bool true, .bool false, .agg #[.slice A1 S.length c1, .slice A2 C.length c2], .int .i64 i, .bool true, .bool false, .pointer (some ⟨w.heap.size, 1, none⟩), .slice A2 C.length c2, .func (.func 88) #[] #[.pointer (some ⟨w2.heap.size, 0, none⟩)], .agg #[.int .i64 x.1, .string x.2], undef, undef, undef, undef, undef, undef, undef, undef, undef, undef, undef], defers := [] })
    (fun x a' s A B row hs hg hr => by
      obtain ⟨Bx, h1, h2, h3⟩ := hs
      exact ⟨Bx, h1, blk_own h2 hg hr, h3⟩) ?assign ?body ?done ?stop
  case assign =>
    rintro l pre x W K hI hK
    have hsW := hI.2.size
    gi_wp2
    exact hK _ _ ((KeepsOthers.alloc _ _).from _) ((Below.refl _ W).alloc hsW _) ⟨hI.1, hI.2.alloc hsW _⟩ ⟨W.heap.size, hsW, KH.Blk.new W _ _, rfl⟩
  case body =>
    rintro l pre x a' W hl ⟨r, hr⟩ ⟨hI1, hI2⟩ ⟨Bx, hBx, bX, rfl⟩ hlt
    have hsW := hI2.size
    have g0 : W.cell? ⟨Bx, 0, none⟩ = some (.int .i64 x.1) := bX.cell 0
    have g1 : W.cell? ⟨Bx, 1, none⟩ = some (.string x.2) := bX.cell 1
    have r1 := q1'.below hI2 q1'.lt
    have r2 := q2'.below hI2 q2'.lt
    have r3 := q3'.below hI2 q3'.lt
    have g2 : W.cell? ⟨w.heap.size + 1, 0, none⟩ = some (.int .i64 i) := r1.cell 0
    have g3 : W.cell? ⟨w.heap.size + 1 + 1, 0, none⟩ = some (.string ⟨#[]⟩) := r2.cell 0
    have g4 : W.cell? ⟨w.heap.size + 1 + 1 + 1, 0, none⟩ = some (.int .i64 0) := r3.cell 0
    have g5 : W.frozen? ⟨w.heap.size + 1 + 1, 0, none⟩ = false := r2.frozen 0
    have g6 : W.frozen? ⟨w.heap.size + 1 + 1 + 1, 0, none⟩ = false := r3.frozen 0
    have HR := KH.hid (And.intro r2 (And.intro r3 (hB3.trans (hI2.mono (show w.heap.size ≤ w3.heap.size by omega)))))
    have HI := KH.hid (And.intro hI1 hI2)
    clear r1 r2 r3 hI1 hI2 bX hS3 hC3 q0' q1' q2' q3' qb hB3
    by_cases hx : x.1 = (i : Int)
    · have d : (x.1 == (i : Int)) = true := by simpa using hx
      gi_wp2
      refine ⟨(((KeepsOthers.refl W).trans (KeepsOthers.setCell _ _ _)).trans (KeepsOthers.setCell _ _ _)).from _, rfl, pre, x, rfl, HI.out.1, hx, ?_, ?_, ?_⟩
      · have := (HR.out.1.set_ 0 (.string x.2)).far (p := ⟨w.heap.size + 1 + 1 + 1, 0, none⟩) (by show w.heap.size + 1 + 1 ≠ w.heap.size + 1 + 1 + 1; omega) (.int .i64 0)
        simpa using this
      · have := (HR.out.2.1.far (p := ⟨w.heap.size + 1 + 1, 0, none⟩) (by show w.heap.size + 1 + 1 + 1 ≠ w.heap.size + 1 + 1; omega) (.string x.2)).set_ 0 (.int .i64 0)
        simpa using this
      · exact (HR.out.2.2.setCell (p := ⟨w.heap.size + 1 + 1, 0, none⟩) (by show _ ≤ w.heap.size + 1 + 1; omega) _).setCell (p := ⟨w.heap.size + 1 + 1 + 1, 0, none⟩) (by show _ ≤ w.heap.size + 1 + 1 + 1; omega) _
    · have d : (x.1 == (i : Int)) = false := by simpa using hx
      gi_wp2
      refine ⟨KeepsFrom.refl _ _, Below.refl _ _, ?_, HI.out.2⟩
      intro p hp
      rcases List.mem_append.1 hp with hp | hp
      · exact HI.out.1 p hp
      · rw [List.mem_singleton] at hp; rw [hp]; exact hx
  case done =>
    rintro D xs W hD rfl ⟨hI1, hI2⟩ hKD
    have hsW := hI2.size
    have hv : Hid (readV S C i = S.getD i ⟨#[]⟩) := KH.hid (by
      unfold readV
      have : C.reverse.find? (fun p => p.1 == (i : Int)) = none := by
        rw [List.find?_eq_none]; intro p hp; simpa using hI1 p hp
      rw [this])
    obtain ⟨ad, u, rfl, hab, hx, hc⟩ := (hS3.below hI2).at_ hWS
    rw [List.getElem?_map, List.getElem?_eq_getElem hWS, Option.map_some, show S[i] = S.getD i ⟨#[]⟩ by simp [hWS]] at hx
    injection hx with hx
    subst hx
    generalize S.getD i ⟨#[]⟩ = o at *
    have r0 := q0'.below hI2 q0'.lt
    have r1 := q1'.below hI2 q1'.lt
    have r2 := q2'.below hI2 q2'.lt
    have r3 := q3'.below hI2 q3'.lt
    have g0 : W.cell? ⟨w.heap.size, 0, none⟩ = some (.slice (some ad) S.length c1) := r0.cell 0
    have g2 : W.cell? ⟨w.heap.size + 1, 0, none⟩ = some (.int .i64 i) := r1.cell 0
    have g3 : W.cell? ⟨w.heap.size + 1 + 1, 0, none⟩ = some (.string ⟨#[]⟩) := r2.cell 0
    have g4 : W.cell? ⟨w.heap.size + 1 + 1 + 1, 0, none⟩ = some (.int .i64 0) := r3.cell 0
    have g5 : W.frozen? ⟨w.heap.size + 1 + 1, 0, none⟩ = false := r2.frozen 0
    have g6 : W.frozen? ⟨w.heap.size + 1 + 1 + 1, 0, none⟩ = false := r3.frozen 0
    have k0 : (0 : Int) ≤ (i : Int) := by omega
    have k1 : (i : Int) < (S.length : Int) := by omega
    have HB := hB3.trans (hI2.mono (show w.heap.size ≤ w3.heap.size by omega))
    clear hI1 hI2 hS3 hC3 q0' q1' q2' q3' qb hB3 r0 r1
    gi_wp2
    have t2 := (r2.set_ 0 (.string o)).far (p := ⟨w.heap.size + 1 + 1 + 1, 0, none⟩) (by show w.heap.size + 1 + 1 ≠ w.heap.size + 1 + 1 + 1; omega) (.int .i64 0)
    have t3 := (r3.far (p := ⟨w.heap.size + 1 + 1, 0, none⟩) (by show w.heap.size + 1 + 1 + 1 ≠ w.heap.size + 1 + 1; omega) (.string o)).set_ 0 (.int .i64 0)
    have hK9 := (((KeepsOthers.refl W).trans (KeepsOthers.setCell W ⟨w.heap.size + 1 + 1, 0, none⟩ (.string o))).trans (KeepsOthers.setCell _ ⟨w.heap.size + 1 + 1 + 1, 0, none⟩ (.int .i64 0))).same D _ hKD rfl
    have HB9 := (HB.setCell (p := ⟨w.heap.size + 1 + 1, 0, none⟩) (by show _ ≤ w.heap.size + 1 + 1; omega) (.string o)).setCell (p := ⟨w.heap.size + 1 + 1 + 1, 0, none⟩) (by show _ ≤ w.heap.size + 1 + 1 + 1; omega) (.int .i64 0)
    rw [hv.out]
    exact ret_read (by simpa using t2) (by simpa using t3) hK9 HB9 (by omega) rfl ⟨rfl, rfl⟩
  case stop =>
    rintro D c pre W hD ⟨j, rfl⟩ ⟨rfl, q, x, hq, hq1, hx, r2, r3, hB⟩ hKD
    gi_wp2
    rw [show readV S C i = x.2 from readV_at hq hq1 hx]
    exact ret_read r2 r3 hKD hB (by omega) rfl ⟨rfl, rfl⟩
end Go.Proofs.YtlnilfcjcoclhaaGreatDoor
