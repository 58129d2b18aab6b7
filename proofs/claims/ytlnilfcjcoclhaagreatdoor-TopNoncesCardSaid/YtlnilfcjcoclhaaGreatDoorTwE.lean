import Derived.Test.YtlnilfcjcoclhaaGreatDoorTwD
/- Package twin: Put. -/
namespace Go.Proofs.YtlnilfcjcoclhaaGreatDoor
open Go.RowKit

def wrD (i : Nat) (s : ByteArray) (D : Dsk) : Dsk := (D.1, D.2 ++ [(((i : Nat) : Int), s)])
def syD (D : Dsk) : Dsk := (settleS D.1 D.2 (fun _ => 1) D.2.length, [])
theorem IsDeed.imp {w0 : World} {fv : Value} {f : Dsk → Dsk} {ok ok' : Dsk → Prop} (h : IsDeed w0 fv f ok) (hi : ∀ X, ok' X → ok X) : IsDeed w0 fv f ok' := by
  obtain ⟨fn, caps, h1, h2, h3⟩ := h
  exact ⟨fn, caps, h1, h2, fun w v D lo hb hp hk => h3 w v D lo hb hp (hi D hk)⟩
set_option maxRecDepth 100000 in
theorem sync_deed (w0 : World) : IsDeed w0 (.func (.func 46) #[] #[]) syD (fun D => pOk D.1 D.2) :=
  ⟨_, _, rfl, fun _ _ => rfl, fun _ _ _ _ _ hp hk => sync_any hp hk⟩
set_option maxRecDepth 100000 in
theorem write_deed {w0 : World} {ga gs i : Nat} {s : ByteArray} (ha : KH.Blk w0 ga 3 #[.int .i64 i]) (hs : KH.Blk w0 gs 9 #[.string s]) :
    IsDeed w0 (.func (.func 42) #[] #[.pointer (some ⟨ga, 0, none⟩), .pointer (some ⟨gs, 0, none⟩)]) (wrD i s) (fun D => pOk D.1 D.2 ∧ i < D.1.length ∧ s.size ≤ 128 ∧ D.2.length < 100) := by
  refine ⟨_, _, rfl, fun _ _ => rfl, fun w v D lo hb hp ⟨k1, k2, k3, k4⟩ => ?_⟩
  show Calls Tryz.prog 42 #[v, .pointer (some ⟨ga, 0, none⟩), .pointer (some ⟨gs, 0, none⟩)] w _
  have h0 := hp
  obtain ⟨A1, c1, A2, c2, rfl, -, -, -, -⟩ := hp
  have hb1 := ((Below.refl w.heap.size w).alloc (Nat.le_refl _) (.cells #[.slice A1 D.1.length c1, .slice A2 D.2.length c2] 35)).alloc (by simp) (.cells #[.slice none 0 0, .slice none 0 0] 35)
  have h1 := h0.below hb1
  have hkb := blk1 w (.cells #[.slice A1 D.1.length c1, .slice A2 D.2.length c2] 35) 35 #[.slice none 0 0, .slice none 0 0]
  have ja := (ha.below hb ha.lt)
  have js := (hs.below hb hs.lt)
  have ja1 := ja.below hb1 ja.lt
  have js1 := js.below hb1 js.lt
  have f1 : ((w.alloc (.cells #[.slice A1 D.1.length c1, .slice A2 D.2.length c2] 35)).alloc (.cells #[.slice none 0 0, .slice none 0 0] 35)).cell? ⟨ga, 0, none⟩ = some (.int .i64 i) := ja1.cell 0
  have f2 : ((w.alloc (.cells #[.slice A1 D.1.length c1, .slice A2 D.2.length c2] 35)).alloc (.cells #[.slice none 0 0, .slice none 0 0] 35)).cell? ⟨gs, 0, none⟩ = some (.string s) := js1.cell 0
  have hz1 : ((w.alloc (.cells #[.slice A1 D.1.length c1, .slice A2 D.2.length c2] 35)).alloc (.cells #[.slice none 0 0, .slice none 0 0] 35)).heap.size = w.heap.size + 2 := by simp
  have HK := KH.hid (And.intro k1 (And.intro k2 (And.intro k3 k4)))
  clear h0 k1 k2 k3 k4 ja js ja1 js1 ha hs hb
  go_enter Tryz.func42, Tryz.ntmps42
  go_wp2_with fail
  generalize ((w.alloc (.cells #[.slice A1 D.1.length c1, .slice A2 D.2.length c2] 35)).alloc (.cells #[.slice none 0 0, .slice none 0 0] 35)) = w1 at *
  refine (write_any i s h1 HK.out.1 HK.out.2.1 HK.out.2.2.1 HK.out.2.2.2).mono ?_; rintro e w6 ⟨v', rfl, hP6, hb6⟩
  have hPL := hP6
  obtain ⟨B1, b1, B2, b2, rfl, -, -, -, -⟩ := hP6
  have hkb6 := hkb.below hb6 hkb.lt
  have e1 : w6.cell? ⟨w.heap.size + 1, 0, none⟩ = some (.slice none 0 0) := hkb6.cell 0
  have e2 : w6.cell? ⟨w.heap.size + 1, 1, none⟩ = some (.slice none 0 0) := hkb6.cell 1
  have e3 : w6.frozen? ⟨w.heap.size + 1, 0, none⟩ = false := hkb6.frozen 0
  have e4 : w6.frozen? ⟨w.heap.size + 1, 1, none⟩ = false := hkb6.frozen 1
  have hlo : w.heap.size + 1 < w1.heap.size := by omega
  go_wp2
  exact ret_pl Tryz.results42 rfl rfl rfl hkb6 (by rw [show D.2.length + 1 = (D.2 ++ [((i : Int), s)]).length by simp]; exact hPL) hlo (by omega) (hb1.trans (hb6.mono (by omega))) (by omega)

set_option maxRecDepth 100000 in
theorem wclos_any (i : Int) (s : ByteArray) (w : World) : Calls Tryz.prog 41 #[.int .i64 i, .string s] w fun e w' =>
    e = .returned (.func (.func 42) #[] #[.pointer (some ⟨w.heap.size, 0, none⟩), .pointer (some ⟨w.heap.size + 1, 0, none⟩)]) ∧ (w.alloc (.cells #[.int .i64 i] 3)).alloc (.cells #[.string s] 9) = w' := by
  go_enter Tryz.func41, Tryz.ntmps41
  go_wp2
  go_ret
  exact ⟨rfl, rfl⟩
/-- the deeds of a Put -/
def putFs (f : Nat) (s m : ByteArray) : List (Dsk → Dsk) := [wrD f s, syD, wrD 0 m, syD]
def putD (S : List ByteArray) (f : Nat) (s m : ByteArray) (t : Nat) : Dsk := stepsD (S, []) (putFs f s m) t
theorem put_ok {S : List ByteArray} {f : Nat} {s m : ByteArray} (hp : pOk S []) (h3 : 3 ≤ S.length) (hf : f < 3) (hs : s.size ≤ 128) (hm : m.size ≤ 128) (t : Nat) (ht : t ≤ 4) : pOk (putD S f s m t).1 (putD S f s m t).2 ∧ (putD S f s m t).1.length = S.length ∧ (putD S f s m t).2.length ≤ 1 := by
  have hl := settleS_length S [((f : Int), s)] (fun _ => 1)
  have hz : ∀ x ∈ settleS S [((f : Int), s)] (fun _ => 1) 1, x.size ≤ 128 := settleS_size hp.2.2.2.1 (by intro p hq; simp at hq; subst hq; exact hs) 1
  obtain ⟨p1, p2, p3, p4, p5⟩ := hp
  match t, ht with
  | 0, _ => exact ⟨⟨p1, p2, p3, p4, p5⟩, rfl, Nat.zero_le _⟩
  | 1, _ => exact ⟨⟨p1, p2, by simp [putD, stepsD, putFs, wrD], p4, by intro p hq; simp [putD, stepsD, putFs, wrD] at hq ⊢; subst hq; exact ⟨hs, by omega, by show ((f : Nat) : Int) < _; omega⟩⟩, rfl, by simp [putD, stepsD, putFs, wrD]⟩
  | 2, _ => exact ⟨⟨by show 1 ≤ (settleS S [((f : Int), s)] (fun _ => 1) 1).length; rw [hl]; omega, by show (settleS S [((f : Int), s)] (fun _ => 1) 1).length ≤ 200; rw [hl]; omega, Nat.zero_le _, hz, by intro p hq; simp [putD, stepsD, putFs, wrD, syD] at hq⟩, hl 1, Nat.zero_le _⟩
  | 3, _ => exact ⟨⟨by show 1 ≤ (settleS S [((f : Int), s)] (fun _ => 1) 1).length; rw [hl]; omega, by show (settleS S [((f : Int), s)] (fun _ => 1) 1).length ≤ 200; rw [hl]; omega, by simp [putD, stepsD, putFs, wrD, syD], hz, by
      intro p hq
      have hq' : p = (((0 : Nat) : Int), m) := by simpa [putD, stepsD, putFs, wrD, syD] using hq
      subst hq'
      refine ⟨hm, by omega, ?_⟩
      show (((0 : Nat) : Int)) < ((settleS S [((f : Int), s)] (fun _ => 1) 1).length : Nat)
      rw [hl]; omega⟩, hl 1, by simp [putD, stepsD, putFs, wrD, syD]⟩
  | 4, _ =>
    have hl2 := settleS_length (settleS S [((f : Int), s)] (fun _ => 1) 1) [(((0 : Nat) : Int), m)] (fun _ => 1)
    have hz2 : ∀ x ∈ settleS (settleS S [((f : Int), s)] (fun _ => 1) 1) [(((0 : Nat) : Int), m)] (fun _ => 1) 1, x.size ≤ 128 := settleS_size hz (by intro p hq; simp at hq; subst hq; exact hm) 1
    exact ⟨⟨by show 1 ≤ (settleS (settleS S [((f : Int), s)] (fun _ => 1) 1) [(((0 : Nat) : Int), m)] (fun _ => 1) 1).length; rw [hl2, hl]; omega, by show (settleS (settleS S [((f : Int), s)] (fun _ => 1) 1) [(((0 : Nat) : Int), m)] (fun _ => 1) 1).length ≤ 200; rw [hl2, hl]; omega, Nat.zero_le _, hz2, by intro p hq; simp [putD, stepsD, putFs, wrD, syD] at hq⟩, (hl2 1).trans (hl 1), Nat.zero_le _⟩
theorem blk4 (w : World) (o o2 o3 o4 : Obj) (t : TypeId) (cs : Array Value) : KH.Blk (((((w.alloc o).alloc o2).alloc o3).alloc o4).alloc (.cells cs t)) (w.heap.size + 1 + 1 + 1 + 1) t cs := by
  have := KH.Blk.new ((((w.alloc o).alloc o2).alloc o3).alloc o4) t cs
  rwa [World.size_alloc, World.size_alloc, World.size_alloc, World.size_alloc] at this
theorem KH.Reads.of_blk {w : World} {g n : Nat} {t : TypeId} {cs : List Value} (h : KH.Blk w g t cs.toArray) (hn : cs.length = n) : KH.Reads w w.heap.size 1 (some ⟨g, 0, none⟩) n cs :=
  ⟨by omega, fun _ => ⟨_, rfl, h.lt, fun j u hu => by rw [addr_at, h.cell j]; simpa using hu⟩⟩
set_option maxRecDepth 100000 in
theorem put_do {v : Value} {S : List ByteArray} {w5 : World} {lo f t : Nat} {s m : ByteArray} {most : Int} (h : PlIn w5 lo v S []) (hlo : lo ≤ w5.heap.size) (hp : pOk S []) (h3 : 3 ≤ S.length) (hf : f < 3) (hs : s.size ≤ 128) (hm : m.size ≤ 128) (ht : most < 0 ∧ t = 4 ∨ most = t ∧ t ≤ 4) (i : Int) (hi : i = f) :
    Calls Tryz.prog 44 #[v, .int .i64 most, .slice (some ⟨w5.heap.size + 1 + 1 + 1 + 1, 0, none⟩) 4 4]
      (((((w5.alloc (.cells #[.int .i64 i] 3)).alloc (.cells #[.string s] 9)).alloc (.cells #[.int .i64 0] 3)).alloc (.cells #[.string m] 9)).alloc
        (.cells #[.func (.func 42) #[] #[.pointer (some ⟨w5.heap.size, 0, none⟩), .pointer (some ⟨w5.heap.size + 1, 0, none⟩)], .func (.func 46) #[] #[],
          .func (.func 42) #[] #[.pointer (some ⟨w5.heap.size + 1 + 1, 0, none⟩), .pointer (some ⟨w5.heap.size + 1 + 1 + 1, 0, none⟩)], .func (.func 46) #[] #[]] 99))
      fun e w' => ∃ v', e = .returned (.tuple #[v', .bool (decide (t = 4)), .int .i64 0]) ∧ PlIn w' lo v' (putD S f s m t).1 (putD S f s m t).2 ∧ Below w5.heap.size w5 w' := by
  subst hi
  obtain ⟨oS, hoS⟩ : ∃ o, o = Obj.cells #[.func (.func 42) #[] #[.pointer (some ⟨w5.heap.size, 0, none⟩), .pointer (some ⟨w5.heap.size + 1, 0, none⟩)], .func (.func 46) #[] #[],
          .func (.func 42) #[] #[.pointer (some ⟨w5.heap.size + 1 + 1, 0, none⟩), .pointer (some ⟨w5.heap.size + 1 + 1 + 1, 0, none⟩)], .func (.func 46) #[] #[]] 99 := ⟨_, rfl⟩
  have b0 := ((((KH.Blk.new w5 3 #[.int .i64 f]).alloc (.cells #[.string s] 9)).alloc (.cells #[.int .i64 0] 3)).alloc (.cells #[.string m] 9)).alloc oS
  have b1 := (((blk1 w5 (.cells #[.int .i64 f] 3) 9 #[.string s]).alloc (.cells #[.int .i64 0] 3)).alloc (.cells #[.string m] 9)).alloc oS
  have b2 := ((blk2 w5 (.cells #[.int .i64 f] 3) (.cells #[.string s] 9) 3 #[.int .i64 0]).alloc (.cells #[.string m] 9)).alloc oS
  have b3 := (blk3 w5 (.cells #[.int .i64 f] 3) (.cells #[.string s] 9) (.cells #[.int .i64 0] 3) 9 #[.string m]).alloc oS
  have b4 := blk4 w5 (.cells #[.int .i64 f] 3) (.cells #[.string s] 9) (.cells #[.int .i64 0] 3) (.cells #[.string m] 9) 99 #[.func (.func 42) #[] #[.pointer (some ⟨w5.heap.size, 0, none⟩), .pointer (some ⟨w5.heap.size + 1, 0, none⟩)], .func (.func 46) #[] #[],
          .func (.func 42) #[] #[.pointer (some ⟨w5.heap.size + 1 + 1, 0, none⟩), .pointer (some ⟨w5.heap.size + 1 + 1 + 1, 0, none⟩)], .func (.func 46) #[] #[]]
  rw [← hoS] at b4 ⊢
  have hB := ((((((Below.refl w5.heap.size w5).alloc (Nat.le_refl _) (.cells #[.int .i64 f] 3)).alloc (by simp) (.cells #[.string s] 9)).alloc (by simp; omega) (.cells #[.int .i64 0] 3)).alloc (by simp; omega) (.cells #[.string m] 9)).alloc (by simp; omega) oS)
  have hok := put_ok (S := S) (f := f) (s := s) (m := m) hp h3 hf hs hm
  generalize (((((w5.alloc (.cells #[.int .i64 f] 3)).alloc (.cells #[.string s] 9)).alloc (.cells #[.int .i64 0] 3)).alloc (.cells #[.string m] 9)).alloc oS) = W at *
  have hsz := hB.size
  refine (do_any (m := 4) (D := (S, [])) (fs := putFs f s m) most (h.below hB) (by omega) (KH.Reads.of_blk b4 rfl) (by omega) (by omega) (by unfold maxLen; omega) (fun k hk => ?_) ht).mono ?_
  · match k, hk with
    | 0, _ => exact ⟨_, _, rfl, rfl, (write_deed b0 b1).imp (fun X hX => by subst hX; have := hok 0 (by omega); exact ⟨this.1, by show f < (putD S f s m 0).1.length; rw [this.2.1]; omega, hs, by show (putD S f s m 0).2.length < 100; omega⟩)⟩
    | 1, _ => exact ⟨_, _, rfl, rfl, (sync_deed W).imp (fun X hX => by subst hX; exact (hok 1 (by omega)).1)⟩
    | 2, _ => exact ⟨_, _, rfl, rfl, (write_deed (i := 0) b2 b3).imp (fun X hX => by subst hX; have := hok 2 (by omega); exact ⟨this.1, by show 0 < (putD S f s m 2).1.length; rw [this.2.1]; omega, hm, by show (putD S f s m 2).2.length < 100; omega⟩)⟩
    | 3, _ => exact ⟨_, _, rfl, rfl, (sync_deed W).imp (fun X hX => by subst hX; exact (hok 3 (by omega)).1)⟩
  · rintro e w' ⟨v', rfl, h1, h2⟩
    exact ⟨v', rfl, h1, hB.trans (h2.mono hsz)⟩

set_option maxHeartbeats 1000000 in
set_option maxRecDepth 100000 in
theorem put_none {v : Value} {S : List ByteArray} {w : World} {lo t : Nat} (s : ByteArray) (most : Int) (h : PlIn w lo v S []) (hp : pOk S []) (h3 : 3 ≤ S.length) (hs : s.size ≤ 128) (hm : S.getD 0 ⟨#[]⟩ = ⟨#[]⟩) (ht : most < 0 ∧ t = 4 ∨ most = t ∧ t ≤ 4) :
    Calls Tryz.prog 21 #[v, .int .i64 0, .string s, .int .i64 most] w fun e w' => ∃ v', e = .returned (.tuple #[v', .bool (decide (t = 4)), .int .i64 0]) ∧ PlIn w' w.heap.size v' (putD S 1 s ⟨#[48]⟩ t).1 (putD S 1 s ⟨#[48]⟩ t).2 ∧ Below w.heap.size w w' := by
  have h0 := h
  obtain ⟨A1, c1, A2, c2, rfl, -, -, -, -⟩ := h
  have hb1 := ((Below.refl w.heap.size w).alloc (Nat.le_refl _) (.cells #[.slice A1 S.length c1, .slice A2 0 c2] 35)).alloc (by simp) (.cells #[.slice none 0 0, .slice none 0 0] 35)
  have h1 := h0.below hb1
  have hk1 := (KH.Blk.new w 35 #[.slice A1 S.length c1, .slice A2 0 c2]).alloc (.cells #[.slice none 0 0, .slice none 0 0] 35)
  have hk2 := blk1 w (.cells #[.slice A1 S.length c1, .slice A2 0 c2] 35) 35 #[.slice none 0 0, .slice none 0 0]
  have hrd : readV S [] 0 = ⟨#[]⟩ := hm
  have HH := KH.hid (And.intro h1 (And.intro hp (And.intro hrd (And.intro ht (And.intro hs h3)))))
  have HP := KH.hid (put_ok (f := 1) (m := ⟨#[48]⟩) hp h3 (by omega) hs (by decide))
  have hz1 : ((w.alloc (.cells #[.slice A1 S.length c1, .slice A2 0 c2] 35)).alloc (.cells #[.slice none 0 0, .slice none 0 0] 35)).heap.size = w.heap.size + 2 := by simp
  clear h0 h1 hp hrd hm ht hs h3
  go_enter Tryz.func21, Tryz.ntmps21
  go_wp2_with fail
  generalize ((w.alloc (.cells #[.slice A1 S.length c1, .slice A2 0 c2] 35)).alloc (.cells #[.slice none 0 0, .slice none 0 0] 35)) = w1 at *
  refine (get_none HH.out.1 HH.out.2.1 HH.out.2.2.1).mono ?_; rintro e w2 ⟨rfl, hb2⟩
  have j1 := hk1.below hb2 hk1.lt
  have j2 := hk2.below hb2 hk2.lt
  have f1 : w2.cell? ⟨w.heap.size, 0, none⟩ = some (.slice A1 S.length c1) := j1.cell 0
  have f2 : w2.cell? ⟨w.heap.size, 1, none⟩ = some (.slice A2 0 c2) := j1.cell 1
  have hP2 := HH.out.1.below hb2
  go_wp2_with fail
  refine (read_at 0 0 rfl hP2 HH.out.2.1 (by have := HH.out.2.2.2.2.2; omega) HH.out.2.2.1).mono ?_; rintro e w3 ⟨rfl, hb3⟩
  have hB3 : Below w1.heap.size w1 w3 := hb2.trans (hb3.mono hb2.size)
  clear f1 f2 j1 j2 hb2 hb3 hP2
  go_wp2_with fail
  refine (body_zero _).mono ?_; rintro e w4 ⟨rfl, hb4⟩
  have hB4 : Below w1.heap.size w1 w4 := hB3.trans (hb4.mono hB3.size)
  have j1 := hk1.below hB4 hk1.lt
  have f1 : w4.cell? ⟨w.heap.size, 0, none⟩ = some (.slice A1 S.length c1) := j1.cell 0
  have f2 : w4.cell? ⟨w.heap.size, 1, none⟩ = some (.slice A2 0 c2) := j1.cell 1
  have hP4 := HH.out.1.below hB4
  have hs4 := hB4.size
  clear hB3 hb4
  go_wp2_with fail
  refine (tcopied_any hP4 HH.out.2.1).mono ?_; rintro e w5 ⟨v', rfl, hP5, hb5⟩
  have hs5 := hb5.size
  have hB5 : Below w1.heap.size w1 w5 := hB4.trans (hb5.mono hs4)
  clear f1 f2 j1 hP4
  go_wp2_with fail
  refine (wclos_any _ _ _).mono ?_; rintro e w6 ⟨rfl, rfl⟩
  go_wp2_with fail
  refine (wclos_any _ _ _).mono ?_; rintro e w7 ⟨rfl, rfl⟩
  go_wp2_with fail
  refine (put_do (t := t) (f := 1) hP5 (by omega) HH.out.2.1 HH.out.2.2.2.2.2 (by omega) HH.out.2.2.2.2.1 (by decide) HH.out.2.2.2.1 _ (by rfl)).mono ?_; rintro e w9 ⟨v9, rfl, hP9, hb9⟩
  have hB9 : Below w1.heap.size w1 w9 := hB5.trans (hb9.mono (by omega))
  have j2 := hk2.below hB9 hk2.lt
  have e1 : w9.cell? ⟨w.heap.size + 1, 0, none⟩ = some (.slice none 0 0) := j2.cell 0
  have e2 : w9.cell? ⟨w.heap.size + 1, 1, none⟩ = some (.slice none 0 0) := j2.cell 1
  have e3 : w9.frozen? ⟨w.heap.size + 1, 0, none⟩ = false := j2.frozen 0
  have e4 : w9.frozen? ⟨w.heap.size + 1, 1, none⟩ = false := j2.frozen 1
  have hPL := hP9
  obtain ⟨B1, b1, B2, b2, rfl, -, -, -, -⟩ := hP9
  have hlo : w.heap.size + 1 < w4.heap.size := by omega
  go_wp2_with fail
  exact ret_pl3 Tryz.results21 rfl rfl rfl rfl rfl j2 hPL.plB (.inl hlo) (Nat.le_refl _) (by omega) (hb1.trans (hB9.mono (by omega))) (by omega)

set_option maxHeartbeats 1000000 in
set_option maxRecDepth 100000 in
theorem put_zero {v : Value} {S : List ByteArray} {w : World} {lo t : Nat} (s : ByteArray) (most : Int) (h : PlIn w lo v S []) (hp : pOk S []) (h3 : 3 ≤ S.length) (hs : s.size ≤ 128) (hm : S.getD 0 ⟨#[]⟩ = ⟨#[48]⟩) (ht : most < 0 ∧ t = 4 ∨ most = t ∧ t ≤ 4) :
    Calls Tryz.prog 21 #[v, .int .i64 0, .string s, .int .i64 most] w fun e w' => ∃ v', e = .returned (.tuple #[v', .bool (decide (t = 4)), .int .i64 0]) ∧ PlIn w' w.heap.size v' (putD S 2 s ⟨#[49]⟩ t).1 (putD S 2 s ⟨#[49]⟩ t).2 ∧ Below w.heap.size w w' := by
  have h0 := h
  obtain ⟨A1, c1, A2, c2, rfl, -, -, -, -⟩ := h
  have hb1 := ((Below.refl w.heap.size w).alloc (Nat.le_refl _) (.cells #[.slice A1 S.length c1, .slice A2 0 c2] 35)).alloc (by simp) (.cells #[.slice none 0 0, .slice none 0 0] 35)
  have h1 := h0.below hb1
  have hk1 := (KH.Blk.new w 35 #[.slice A1 S.length c1, .slice A2 0 c2]).alloc (.cells #[.slice none 0 0, .slice none 0 0] 35)
  have hk2 := blk1 w (.cells #[.slice A1 S.length c1, .slice A2 0 c2] 35) 35 #[.slice none 0 0, .slice none 0 0]
  have hrd : readV S [] 0 = ⟨#[48]⟩ := hm
  have HH := KH.hid (And.intro h1 (And.intro hp (And.intro hrd (And.intro ht (And.intro hs h3)))))
  have HP := KH.hid (put_ok (f := 2) (m := ⟨#[49]⟩) hp h3 (by omega) hs (by decide))
  have hz1 : ((w.alloc (.cells #[.slice A1 S.length c1, .slice A2 0 c2] 35)).alloc (.cells #[.slice none 0 0, .slice none 0 0] 35)).heap.size = w.heap.size + 2 := by simp
  clear h0 h1 hp hrd hm ht hs h3
  go_enter Tryz.func21, Tryz.ntmps21
  go_wp2_with fail
  generalize ((w.alloc (.cells #[.slice A1 S.length c1, .slice A2 0 c2] 35)).alloc (.cells #[.slice none 0 0, .slice none 0 0] 35)) = w1 at *
  refine (get_zero HH.out.1 HH.out.2.1 HH.out.2.2.2.2.2 HH.out.2.2.1 rfl).mono ?_; rintro e w2 ⟨rfl, hb2⟩
  have j1 := hk1.below hb2 hk1.lt
  have j2 := hk2.below hb2 hk2.lt
  have f1 : w2.cell? ⟨w.heap.size, 0, none⟩ = some (.slice A1 S.length c1) := j1.cell 0
  have f2 : w2.cell? ⟨w.heap.size, 1, none⟩ = some (.slice A2 0 c2) := j1.cell 1
  have hP2 := HH.out.1.below hb2
  go_wp2_with fail
  refine (read_at 0 0 rfl hP2 HH.out.2.1 (by have := HH.out.2.2.2.2.2; omega) HH.out.2.2.1).mono ?_; rintro e w3 ⟨rfl, hb3⟩
  have hB3 : Below w1.heap.size w1 w3 := hb2.trans (hb3.mono hb2.size)
  clear f1 f2 j1 j2 hb2 hb3 hP2
  go_wp2_with fail
  refine (body_one _).mono ?_; rintro e w4 ⟨rfl, hb4⟩
  have hB4 : Below w1.heap.size w1 w4 := hB3.trans (hb4.mono hB3.size)
  have j1 := hk1.below hB4 hk1.lt
  have f1 : w4.cell? ⟨w.heap.size, 0, none⟩ = some (.slice A1 S.length c1) := j1.cell 0
  have f2 : w4.cell? ⟨w.heap.size, 1, none⟩ = some (.slice A2 0 c2) := j1.cell 1
  have hP4 := HH.out.1.below hB4
  have hs4 := hB4.size
  clear hB3 hb4
  go_wp2_with fail
  refine (tcopied_any hP4 HH.out.2.1).mono ?_; rintro e w5 ⟨v', rfl, hP5, hb5⟩
  have hs5 := hb5.size
  have hB5 : Below w1.heap.size w1 w5 := hB4.trans (hb5.mono hs4)
  clear f1 f2 j1 hP4
  go_wp2_with fail
  refine (wclos_any _ _ _).mono ?_; rintro e w6 ⟨rfl, rfl⟩
  go_wp2_with fail
  refine (wclos_any _ _ _).mono ?_; rintro e w7 ⟨rfl, rfl⟩
  go_wp2_with fail
  refine (put_do (t := t) (f := 2) hP5 (by omega) HH.out.2.1 HH.out.2.2.2.2.2 (by omega) HH.out.2.2.2.2.1 (by decide) HH.out.2.2.2.1 _ (by rfl)).mono ?_; rintro e w9 ⟨v9, rfl, hP9, hb9⟩
  have hB9 : Below w1.heap.size w1 w9 := hB5.trans (hb9.mono (by omega))
  have j2 := hk2.below hB9 hk2.lt
  have e1 : w9.cell? ⟨w.heap.size + 1, 0, none⟩ = some (.slice none 0 0) := j2.cell 0
  have e2 : w9.cell? ⟨w.heap.size + 1, 1, none⟩ = some (.slice none 0 0) := j2.cell 1
  have e3 : w9.frozen? ⟨w.heap.size + 1, 0, none⟩ = false := j2.frozen 0
  have e4 : w9.frozen? ⟨w.heap.size + 1, 1, none⟩ = false := j2.frozen 1
  have hPL := hP9
  obtain ⟨B1, b1, B2, b2, rfl, -, -, -, -⟩ := hP9
  have hlo : w.heap.size + 1 < w4.heap.size := by omega
  go_wp2_with fail
  exact ret_pl3 Tryz.results21 rfl rfl rfl rfl rfl j2 hPL.plB (.inl hlo) (Nat.le_refl _) (by omega) (hb1.trans (hB9.mono (by omega))) (by omega)

set_option maxHeartbeats 1000000 in
set_option maxRecDepth 100000 in
theorem put_one {v : Value} {S : List ByteArray} {w : World} {lo t : Nat} (s : ByteArray) (most : Int) (h : PlIn w lo v S []) (hp : pOk S []) (h3 : 3 ≤ S.length) (hs : s.size ≤ 128) (hm : S.getD 0 ⟨#[]⟩ = ⟨#[49]⟩) (ht : most < 0 ∧ t = 4 ∨ most = t ∧ t ≤ 4) :
    Calls Tryz.prog 21 #[v, .int .i64 0, .string s, .int .i64 most] w fun e w' => ∃ v', e = .returned (.tuple #[v', .bool (decide (t = 4)), .int .i64 0]) ∧ PlIn w' w.heap.size v' (putD S 1 s ⟨#[48]⟩ t).1 (putD S 1 s ⟨#[48]⟩ t).2 ∧ Below w.heap.size w w' := by
  have h0 := h
  obtain ⟨A1, c1, A2, c2, rfl, -, -, -, -⟩ := h
  have hb1 := ((Below.refl w.heap.size w).alloc (Nat.le_refl _) (.cells #[.slice A1 S.length c1, .slice A2 0 c2] 35)).alloc (by simp) (.cells #[.slice none 0 0, .slice none 0 0] 35)
  have h1 := h0.below hb1
  have hk1 := (KH.Blk.new w 35 #[.slice A1 S.length c1, .slice A2 0 c2]).alloc (.cells #[.slice none 0 0, .slice none 0 0] 35)
  have hk2 := blk1 w (.cells #[.slice A1 S.length c1, .slice A2 0 c2] 35) 35 #[.slice none 0 0, .slice none 0 0]
  have hrd : readV S [] 0 = ⟨#[49]⟩ := hm
  have HH := KH.hid (And.intro h1 (And.intro hp (And.intro hrd (And.intro ht (And.intro hs h3)))))
  have HP := KH.hid (put_ok (f := 1) (m := ⟨#[48]⟩) hp h3 (by omega) hs (by decide))
  have hz1 : ((w.alloc (.cells #[.slice A1 S.length c1, .slice A2 0 c2] 35)).alloc (.cells #[.slice none 0 0, .slice none 0 0] 35)).heap.size = w.heap.size + 2 := by simp
  clear h0 h1 hp hrd hm ht hs h3
  go_enter Tryz.func21, Tryz.ntmps21
  go_wp2_with fail
  generalize ((w.alloc (.cells #[.slice A1 S.length c1, .slice A2 0 c2] 35)).alloc (.cells #[.slice none 0 0, .slice none 0 0] 35)) = w1 at *
  refine (get_one HH.out.1 HH.out.2.1 HH.out.2.2.2.2.2 HH.out.2.2.1 rfl).mono ?_; rintro e w2 ⟨rfl, hb2⟩
  have j1 := hk1.below hb2 hk1.lt
  have j2 := hk2.below hb2 hk2.lt
  have f1 : w2.cell? ⟨w.heap.size, 0, none⟩ = some (.slice A1 S.length c1) := j1.cell 0
  have f2 : w2.cell? ⟨w.heap.size, 1, none⟩ = some (.slice A2 0 c2) := j1.cell 1
  have hP2 := HH.out.1.below hb2
  go_wp2_with fail
  refine (read_at 0 0 rfl hP2 HH.out.2.1 (by have := HH.out.2.2.2.2.2; omega) HH.out.2.2.1).mono ?_; rintro e w3 ⟨rfl, hb3⟩
  have hB3 : Below w1.heap.size w1 w3 := hb2.trans (hb3.mono hb2.size)
  clear f1 f2 j1 j2 hb2 hb3 hP2
  go_wp2_with fail
  refine (body_zero _).mono ?_; rintro e w4 ⟨rfl, hb4⟩
  have hB4 : Below w1.heap.size w1 w4 := hB3.trans (hb4.mono hB3.size)
  have j1 := hk1.below hB4 hk1.lt
  have f1 : w4.cell? ⟨w.heap.size, 0, none⟩ = some (.slice A1 S.length c1) := j1.cell 0
  have f2 : w4.cell? ⟨w.heap.size, 1, none⟩ = some (.slice A2 0 c2) := j1.cell 1
  have hP4 := HH.out.1.below hB4
  have hs4 := hB4.size
  clear hB3 hb4
  go_wp2_with fail
  refine (tcopied_any hP4 HH.out.2.1).mono ?_; rintro e w5 ⟨v', rfl, hP5, hb5⟩
  have hs5 := hb5.size
  have hB5 : Below w1.heap.size w1 w5 := hB4.trans (hb5.mono hs4)
  clear f1 f2 j1 hP4
  go_wp2_with fail
  refine (wclos_any _ _ _).mono ?_; rintro e w6 ⟨rfl, rfl⟩
  go_wp2_with fail
  refine (wclos_any _ _ _).mono ?_; rintro e w7 ⟨rfl, rfl⟩
  go_wp2_with fail
  refine (put_do (t := t) (f := 1) hP5 (by omega) HH.out.2.1 HH.out.2.2.2.2.2 (by omega) HH.out.2.2.2.2.1 (by decide) HH.out.2.2.2.1 _ (by rfl)).mono ?_; rintro e w9 ⟨v9, rfl, hP9, hb9⟩
  have hB9 : Below w1.heap.size w1 w9 := hB5.trans (hb9.mono (by omega))
  have j2 := hk2.below hB9 hk2.lt
  have e1 : w9.cell? ⟨w.heap.size + 1, 0, none⟩ = some (.slice none 0 0) := j2.cell 0
  have e2 : w9.cell? ⟨w.heap.size + 1, 1, none⟩ = some (.slice none 0 0) := j2.cell 1
  have e3 : w9.frozen? ⟨w.heap.size + 1, 0, none⟩ = false := j2.frozen 0
  have e4 : w9.frozen? ⟨w.heap.size + 1, 1, none⟩ = false := j2.frozen 1
  have hPL := hP9
  obtain ⟨B1, b1, B2, b2, rfl, -, -, -, -⟩ := hP9
  have hlo : w.heap.size + 1 < w4.heap.size := by omega
  go_wp2_with fail
  exact ret_pl3 Tryz.results21 rfl rfl rfl rfl rfl j2 hPL.plB (.inl hlo) (Nat.le_refl _) (by omega) (hb1.trans (hB9.mono (by omega))) (by omega)
end Go.Proofs.YtlnilfcjcoclhaaGreatDoor
