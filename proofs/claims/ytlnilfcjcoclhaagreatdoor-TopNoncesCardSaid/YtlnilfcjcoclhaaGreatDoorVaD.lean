import Derived.Test.YtlnilfcjcoclhaaGreatDoorVaA
/- Package vault: open. -/
namespace Go.Proofs.YtlnilfcjcoclhaaGreatDoor
open Go.RowKit

/-- what Get tells -/
def GetIs (S : List ByteArray) (o : ByteArray) : Prop := ∀ (v : Value) (w : World) (lo : Nat), PlIn w lo v S [] →
  Calls Tryz.prog 23 #[v, .int .i64 0] w fun e w' => e = .returned (.tuple #[.string o, .bool true, .int .i64 0]) ∧ Below w.heap.size w w'
/-- a vault on a disk -/
structure VaOk (K : Nat → Nat) (S : List ByteArray) (n g a : Nat) (Bl : List ByteArray) : Prop where
  ok : pOk S []
  cnt : cntB n = true
  size : S.length = 3 + 2 * n
  gen : g < 200
  area : a ≤ 1
  len : Bl.length = n
  small : vSz Bl
  get : GetIs S (hdS g a (rootV K Bl))
  blocks : ∀ i, i < n → S.getD (3 + a * n + i) ⟨#[]⟩ = Bl.getD i ⟨#[]⟩
theorem load_chest {fn : Func} {p u : Nat} {tmps : Array Value} {w : World} {h : Nat} {a b c d e : Value} {k : Int}
    (hr : fn.results = #[.cell p 73, .tmp u]) (hp : tmps.getD p undef = .pointer (some ⟨h, 0, none⟩)) (hu : tmps.getD u undef = .int .i64 k)
    (h0 : w.cell? ⟨h, 0, none⟩ = some a) (h1 : w.cell? ⟨h, 1, none⟩ = some b) (h2 : w.cell? ⟨h, 2, none⟩ = some c) (h3 : w.cell? ⟨h, 3, none⟩ = some d) (h4 : w.cell? ⟨h, 4, none⟩ = some e) : (results fn tmps).run Tryz.prog w = .ok (.tuple #[.agg #[a, b, c, d, e], .int .i64 k]) w := by
  rw [Array.getD_eq_getD_getElem?] at hp hu
  simp [results, hr, hp, hu, go_sem, h0, h1, h2, h3, h4]
theorem set5c {w : World} {h : Nat} {t : TypeId} {x0 x1 x2 x3 x4 : Value} (hk : KH.Blk w h t #[x0, x1, x2, x3, x4]) (a b c d e : Value) :
    KH.Blk (((((w.setCell ⟨h, 0, none⟩ a).setCell ⟨h, 1, none⟩ b).setCell ⟨h, 2, none⟩ c).setCell ⟨h, 3, none⟩ d).setCell ⟨h, 4, none⟩ e) h t #[a, b, c, d, e] := by
  have := ((((hk.set_ 0 a).set_ 1 b).set_ 2 c).set_ 3 d).set_ 4 e
  simpa using this
theorem below5c {w0 w : World} {h B : Nat} (hB : Below B w0 w) (hh : B ≤ h) (a b c d e : Value) :
    Below B w0 (((((w.setCell ⟨h, 0, none⟩ a).setCell ⟨h, 1, none⟩ b).setCell ⟨h, 2, none⟩ c).setCell ⟨h, 3, none⟩ d).setCell ⟨h, 4, none⟩ e) :=
  ((((hB.setCell (p := ⟨h, 0, none⟩) hh a).setCell (p := ⟨h, 1, none⟩) hh b).setCell (p := ⟨h, 2, none⟩) hh c).setCell (p := ⟨h, 3, none⟩) hh d).setCell (p := ⟨h, 4, none⟩) hh e
theorem own5c {w : World} {h base n : Nat} {e : TypeId} {size : Nat} {v : Value} {xs : List Value} (ho : w.ownsRow base e size v n xs) (hh : v.ownBlock ≠ some h) (x0 x1 x2 x3 x4 : Value) :
    (((((w.setCell ⟨h, 0, none⟩ x0).setCell ⟨h, 1, none⟩ x1).setCell ⟨h, 2, none⟩ x2).setCell ⟨h, 3, none⟩ x3).setCell ⟨h, 4, none⟩ x4).ownsRow base e size v n xs :=
  ownsRow_setCell_other (a := ⟨h, 4, none⟩) (ownsRow_setCell_other (a := ⟨h, 3, none⟩) (ownsRow_setCell_other (a := ⟨h, 2, none⟩) (ownsRow_setCell_other (a := ⟨h, 1, none⟩) (ownsRow_setCell_other (a := ⟨h, 0, none⟩) ho hh x0) hh x1) hh x2) hh x3) hh x4
theorem readV_nil (S : List ByteArray) (i : Nat) : readV S [] i = S.getD i ⟨#[]⟩ := rfl
/-- the blocks that are read so far -/
def tkR (Bl : List ByteArray) (k : Nat) : List Value := (Bl.take k).map .string
theorem tk_snoc {Bl : List ByteArray} {k : Nat} (hk : k < Bl.length) : tkR Bl (k + 1) = tkR Bl k ++ [.string (Bl.getD k ⟨#[]⟩)] := by
  unfold tkR
  rw [List.take_add_one, List.getD_eq_getElem?_getD, List.getElem?_eq_getElem hk]; simp only [Option.toList_some, List.map_append, List.map_cons, List.map_nil, Option.getD_some]
theorem tk_all (Bl : List ByteArray) : tkR Bl Bl.length = Bl.map .string := by unfold tkR; rw [List.take_length]
/-- what the reading region keeps -/
abbrev OpS (wr : World) (h0 h2 : Nat) (x y a b : Value) (w' : World) : Prop :=
  w'.cell? ⟨h0, 0, none⟩ = some x ∧ w'.cell? ⟨h0, 1, none⟩ = some y ∧ w'.cell? ⟨h2, 0, none⟩ = some a ∧ w'.cell? ⟨h2, 1, none⟩ = some b ∧ Below wr.heap.size wr w'
theorem opS_of {wr w' : World} {h0 h2 : Nat} {t0 t2 : TypeId} {x y a b c d e : Value} (k0 : KH.Blk wr h0 t0 #[x, y]) (k2 : KH.Blk wr h2 t2 #[a, b, c, d, e]) (hb : Below wr.heap.size wr w') : OpS wr h0 h2 x y a b w' :=
  ⟨(k0.below hb k0.lt).cell 0, (k0.below hb k0.lt).cell 1, (k2.below hb k2.lt).cell 0, (k2.below hb k2.lt).cell 1, hb⟩
theorem opS_b {wr w' : World} {h0 h2 : Nat} {x y a b : Value} (hs : OpS wr h0 h2 x y a b w') : Below wr.heap.size wr w' := hs.2.2.2.2
theorem opS_call {wr w' w'' : World} {h0 h2 : Nat} {t0 t2 : TypeId} {x y a b c d e : Value} (hs : OpS wr h0 h2 x y a b w') (k0 : KH.Blk wr h0 t0 #[x, y]) (k2 : KH.Blk wr h2 t2 #[a, b, c, d, e]) (hb : Below w'.heap.size w' w'') : OpS wr h0 h2 x y a b w'' :=
  opS_of k0 k2 ((opS_b hs).trans (hb.mono (opS_b hs).size))
set_option maxHeartbeats 2000000 in
set_option maxRecDepth 100000 in
theorem open_vault (K : Nat → Nat) {w : World} {v : Value} {S : List ByteArray} {lo n g a : Nat} {Bl : List ByteArray} (h : PlIn w lo v S []) (hv : VaOk K S n g a Bl) (hK : RoundsAt K w) :
    Calls Tryz.prog 25 #[v] w fun e w' => ∃ A c, e = .returned (.tuple #[.agg #[.int .i64 n, .int .i64 a, .int .i64 g, .slice A n c, .string (rootV K Bl)], .int .i64 0]) ∧ VlIn w' (.agg #[.slice A n c, .string (rootV K Bl)]) Bl (rootV K Bl) ∧ (∀ ad, A = some ad → w.heap.size ≤ ad.block) ∧ Below w.heap.size w w' := by
  obtain ⟨i0, hi, hz0, hz1, hz2⟩ := info_parts str_info
  have h00 := h
  obtain ⟨A1, c1, A2, c2, rfl, -, -, -, -⟩ := h
  have hn' : 1 ≤ n ∧ n ≤ 64 := by obtain ⟨m, hm, h⟩ := cntB_nat hv.cnt; omega
  obtain ⟨k0, k1, k2, hb3, hz3⟩ := alloc3v w 35 73 73 #[.slice A1 S.length c1, .slice A2 0 c2] #[.int .i64 0, .int .i64 0, .int .i64 0, .slice none 0 0, .string ⟨#[]⟩] #[.int .i64 0, .int .i64 0, .int .i64 0, .slice none 0 0, .string ⟨#[]⟩] _ rfl
  have HX := KH.hid (And.intro h00 (And.intro hv hK))
  have hg1 := hK.1
  have HSZ := KH.hid fun w => vsize_yes S.length n w hv.cnt hv.size
  obtain ⟨rv, hrv⟩ : ∃ r, r = rootV K Bl := ⟨_, rfl⟩
  have hr32 : rv.size = 32 := by rw [hrv]; exact rootV_size K Bl (by rw [hv.len]; omega)
  have HRH := KH.hid fun w => readHead_yes g a rv w (by have := hv.gen; omega) hv.area hr32
  have HG := KH.hid hv.get
  rw [← hrv] at HG ⊢
  have HRV := KH.hid hrv
  clear h00 hv hK hrv hr32
  go_enter Tryz.func25, Tryz.ntmps25
  go_wp2_with fail
  generalize ((w.alloc (.cells #[.slice A1 S.length c1, .slice A2 0 c2] 35)).alloc (.cells #[.int .i64 0, .int .i64 0, .int .i64 0, .slice none 0 0, .string ⟨#[]⟩] 73)).alloc (.cells #[.int .i64 0, .int .i64 0, .int .i64 0, .slice none 0 0, .string ⟨#[]⟩] 73) = W at *
  have hgg : w.heap.size < w.heap.size + 1 ∧ w.heap.size + 1 < w.heap.size + 1 + 1 ∧ w.heap.size + 1 + 1 < W.heap.size := by omega
  generalize w.heap.size + 1 + 1 = h2 at *
  generalize w.heap.size + 1 = h1 at *
  obtain ⟨hgg1, hgg2, hgg3⟩ := hgg
  refine (HSZ.out W).mono ?_; rintro e w1 ⟨rfl, rfl⟩
  have s2 := k2.set_ 0 (.int .i64 n)
  simp only [List.setIfInBounds_toArray, List.set_cons_zero] at s2
  have s0 := k0.far (p := ⟨h2, 0, none⟩) (by show w.heap.size ≠ h2; omega) (.int .i64 n)
  have s1 := k1.far (p := ⟨h2, 0, none⟩) (by show h1 ≠ h2; omega) (.int .i64 n)
  have hbS := hb3.setCell (p := ⟨h2, 0, none⟩) (by show w.heap.size ≤ h2; omega) (.int .i64 n)
  have e0 : W.cell? ⟨h2, 0, none⟩ = some (.int .i64 0) := k2.cell 0
  have e1 : W.frozen? ⟨h2, 0, none⟩ = false := k2.frozen 0
  have e2 : (W.setCell ⟨h2, 0, none⟩ (.int .i64 n)).cell? ⟨w.heap.size, 0, none⟩ = some (.slice A1 S.length c1) := s0.cell 0
  have e3 : (W.setCell ⟨h2, 0, none⟩ (.int .i64 n)).cell? ⟨w.heap.size, 1, none⟩ = some (.slice A2 0 c2) := s0.cell 1
  have HGW := KH.hid (HG.out _ _ _ (HX.out.1.below hbS))
  clear k0 k1 k2 hb3
  go_wp2_with fail
  generalize W.setCell ⟨h2, 0, none⟩ (.int .i64 n) = W2 at *
  refine HGW.out.mono ?_; rintro e w4 ⟨rfl, hb4⟩
  have t0 := s0.below hb4 s0.lt
  have t1 := s1.below hb4 s1.lt
  have t2 := s2.below hb4 s2.lt
  have hB4 := hbS.trans (hb4.mono hbS.size)
  clear s0 s1 s2 hbS hb4 HGW e0 e1 e2 e3
  go_wp2_with fail
  refine (HRH.out w4).mono ?_; rintro e w5 ⟨rfl, hb5⟩
  have u0 := t0.below hb5 t0.lt
  have u1 := t1.below hb5 t1.lt
  have u2 := t2.below hb5 t2.lt
  have hB5 := hB4.trans (hb5.mono hB4.size)
  clear t0 t1 t2 hB4 hb5
  have n02 : w.heap.size ≠ h2 := by omega
  have n12 : h1 ≠ h2 := by omega
  have x2 := ((u2.set_ 2 (.int .i64 g)).set_ 1 (.int .i64 a)).set_ 4 (.string rv)
  simp only [List.setIfInBounds_toArray, List.set_cons_zero, List.set_cons_succ] at x2
  have x0 := ((u0.far (p := ⟨h2, 2, none⟩) n02 (.int .i64 g)).far (p := ⟨h2, 1, none⟩) n02 (.int .i64 a)).far (p := ⟨h2, 4, none⟩) n02 (.string rv)
  have x1 := ((u1.far (p := ⟨h2, 2, none⟩) n12 (.int .i64 g)).far (p := ⟨h2, 1, none⟩) n12 (.int .i64 a)).far (p := ⟨h2, 4, none⟩) n12 (.string rv)
  have hB6 := ((hB5.setCell (p := ⟨h2, 2, none⟩) (by show w.heap.size ≤ h2; omega) (.int .i64 g)).setCell (p := ⟨h2, 1, none⟩) (by show w.heap.size ≤ h2; omega) (.int .i64 a)).setCell (p := ⟨h2, 4, none⟩) (by show w.heap.size ≤ h2; omega) (.string rv)
  have e0 : w5.cell? ⟨h2, 2, none⟩ = some (.int .i64 0) := u2.cell 2
  have e1 : w5.cell? ⟨h2, 1, none⟩ = some (.int .i64 0) := u2.cell 1
  have e2 : w5.cell? ⟨h2, 4, none⟩ = some (.string ⟨#[]⟩) := u2.cell 4
  have e3 : w5.frozen? ⟨h2, 2, none⟩ = false := u2.frozen 2
  have e4 : w5.frozen? ⟨h2, 1, none⟩ = false := u2.frozen 1
  have e5 : w5.frozen? ⟨h2, 4, none⟩ = false := u2.frozen 4
  have e6 : (((w5.setCell ⟨h2, 2, none⟩ (.int .i64 g)).setCell ⟨h2, 1, none⟩ (.int .i64 a)).setCell ⟨h2, 4, none⟩ (.string rv)).cell? ⟨h2, 0, none⟩ = some (.int .i64 n) := x2.cell 0
  clear u0 u1 u2 hB5
  go_wp2_with fail
  generalize ((w5.setCell ⟨h2, 2, none⟩ (.int .i64 g)).setCell ⟨h2, 1, none⟩ (.int .i64 a)).setCell ⟨h2, 4, none⟩ (.string rv) = W6 at *
  have HL := KH.hid HX.out.2.1.len
  clear e0 e1 e2 e3 e4 e5
  have HI0 : Hid (KH.Blk W6 h2 73 #[.int .i64 n, .int .i64 a, .int .i64 g, .slice none 0 0, .string rv] ∧ W6.ownsRow h2 9 1 (.slice none 0 0) 0 (tkR Bl 0) ∧ KH.Blk W6 w.heap.size 35 #[.slice A1 S.length c1, .slice A2 0 c2] ∧
      KH.Blk W6 h1 73 #[.int .i64 0, .int .i64 0, .int .i64 0, .slice none 0 0, .string ⟨#[]⟩] ∧ Below w.heap.size w W6) := ⟨x2, ⟨by simp [tkR], .inl ⟨rfl, rfl⟩⟩, x0, x1, hB6⟩
  clear x0 x1 x2 hB6 e6 HG HRH HSZ
  go_loopw [10, 11, 12, 58] (fun _ _ _ t wr => ∃ k : Nat, k ≤ n ∧ t = .int .i64 k ∧ ∃ A c, Hid (KH.Blk wr h2 73 #[.int .i64 n, .int .i64 a, .int .i64 g, .slice A k c, .string rv] ∧ wr.ownsRow h2 9 1 (.slice A k c) k (tkR Bl k) ∧ KH.Blk wr w.heap.size 35 #[.slice A1 S.length c1, .slice A2 0 c2] ∧
      KH.Blk wr h1 73 #[.int .i64 0, .int .i64 0, .int .i64 0, .slice none 0 0, .string ⟨#[]⟩] ∧ Below w.heap.size w wr)) (fun _ _ _ t _ => n - (intOf t).toNat)
  case atStart => exact ⟨0, Nat.zero_le _, rfl, none, 0, HI0⟩
  case round =>
    obtain ⟨k, hk, rfl, A, c, HI⟩ := hrel
    clear HI0
    by_cases hlt : k < n
    · obtain ⟨y2, yo, y0, y1, hB⟩ := HI.out
      obtain ⟨q, hq⟩ : ∃ q, q = 3 + a * n + k := ⟨_, rfl⟩
      have HVA := KH.hid HX.out.2.1
      have har := HVA.out.area
      have han : a * n + k < 2 * n := by
        have : a * n ≤ 1 * n := Nat.mul_le_mul_right n har
        omega
      have hqS : q < S.length := by rw [HVA.out.size]; omega
      have hbl : S.getD q ⟨#[]⟩ = Bl.getD k ⟨#[]⟩ := by rw [hq]; exact HVA.out.blocks k hlt
      have HSC : Hid (∀ w' : World, Calls Tryz.prog 50 #[.agg #[.int .i64 n, .int .i64 a], .int .i64 a, .int .i64 k] w' fun e w'' => e = .returned (.int .i64 (q : Nat)) ∧ Below w'.heap.size w' w'') := fun w' => by
        rw [hq]; exact sector_any n a a k w' hn'.2 har (by omega)
      have HRD : Hid (∀ w' : World, Below wr.heap.size wr w' → Calls Tryz.prog 39 #[.agg #[.slice A1 S.length c1, .slice A2 0 c2], .int .i64 (q : Nat)] w' fun e w'' => e = .returned (.tuple #[.string (Bl.getD k ⟨#[]⟩), .int .i64 0]) ∧ Below w'.heap.size w' w'') := fun w' hb => by
        rw [← hbl]
        exact read_any q (HX.out.1.below (hB.trans (hb.mono hB.size))) HVA.out.ok hqS
      have HSN := KH.hid (tk_snoc (Bl := Bl) (k := k) (by rw [HL.out]; exact hlt))
      have HK := KH.hid (And.intro y0 y2)
      have HM := KH.hid (opS_of y0 y2 (Below.refl wr.heap.size wr).drew)
      have g0 : wr.cell? ⟨w.heap.size, 0, none⟩ = some (.slice A1 S.length c1) := y0.cell 0
      have g1 : wr.cell? ⟨w.heap.size, 1, none⟩ = some (.slice A2 0 c2) := y0.cell 1
      have g2 : wr.cell? ⟨h2, 0, none⟩ = some (.int .i64 n) := y2.cell 0
      have g3 : wr.cell? ⟨h2, 1, none⟩ = some (.int .i64 a) := y2.cell 1
      have d1 : decide ((k : Int) < (n : Int)) = true := by rw [decide_eq_true_iff]; omega
      clear hbl hq hqS han HVA har
      generalize Bl.getD k ⟨#[]⟩ = b0 at *
      clear y0 y1 y2 hB yo
      go_wp2_with fail
      go_region_held3 (fun w' => w'.cell? ⟨w.heap.size, 0, none⟩ = some (.slice A1 S.length c1) ∧ w'.cell? ⟨w.heap.size, 1, none⟩ = some (.slice A2 0 c2) ∧ w'.cell? ⟨h2, 0, none⟩ = some (.int .i64 n) ∧ w'.cell? ⟨h2, 1, none⟩ = some (.int .i64 a) ∧ Below wr.heap.size wr w')
        (first | (with_reducible exact HM.out) | (with_reducible refine opS_call ?_ HK.out.1 HK.out.2 hb7 <;> assumption) | (with_reducible refine opS_call ?_ HK.out.1 HK.out.2 hb8 <;> assumption))
        (first
          | (go_at_call 50; refine (HSC.out _).mono ?_; rintro e w7 ⟨rfl, hb7⟩)
          | (go_at_call 39; refine (HRD.out _ (opS_b (wr := wr) (h0 := w.heap.size) (h2 := h2) (x := .slice A1 S.length c1) (y := .slice A2 0 c2) (a := .int .i64 n) (b := .int .i64 a) (by assumption))).mono ?_; rintro e w8 ⟨rfl, hb8⟩))
      have hB8 : Below wr.heap.size wr w8 := ((Below.refl wr.heap.size wr).drew.trans hb7).trans (hb8.mono (Nat.le_trans (Below.refl wr.heap.size wr).drew.size hb7.size))
      obtain ⟨y2, yo, y0, y1, hB⟩ := HI.out
      have z0 := y0.below hB8 y0.lt
      have z1 := y1.below hB8 y1.lt
      have z2 := y2.below hB8 y2.lt
      have zo := KH.own_below yo hB8
      have hBB := hB.trans (hB8.mono hB.size)
      have l2 := z2.lt
      have f0 : w8.cell? ⟨h2, 3, none⟩ = some (.slice A k c) := z2.cell 3
      have f1 : w8.frozen? ⟨h2, 3, none⟩ = false := z2.frozen 3
      have HZ := KH.hid (And.intro z0 (And.intro z1 (And.intro z2 hBB)))
      have hk100 : k ≤ 64 := by omega
      clear z0 z1 z2 y0 y1 y2 hB hBB yo hb7 hb8 HSC HRD HM HK g0 g1 g2 g3
      go_wp2_with (at_builtin; refine KH.wpList_append_any _ rfl _ _ _ rfl h2 9 i0 _ 1 16 Tryz.underlying30 hi hz0 hz1 hz2 rfl (by omega) (.slice A k c) k _ rfl (zo.alloc _) (w8.heap.size + 1) (some ⟨w8.heap.size, 0, none⟩) 1 1 _ rfl (one_reads w8 (.string b0) _) (by intro u hu; simp at hu; subst hu; rfl) (by unfold maxLen; omega) (by omega) (by simp; omega) ?_; intro v9 w9 hown9 hgrow9 hlies9; obtain ⟨A9, c9, rfl⟩ := KH.own_form hown9; have hk9 := (HZ.out.2.2.1.alloc (.cells #[.string b0] 9)).grown hgrow9 (Ne.symm (KH.own_blk_ne zo HZ.out.2.2.1 (by decide))); have f4 : w9.cell? ⟨h2, 3, none⟩ = some (.slice A k c) := hk9.cell 3; have f5 : w9.frozen? ⟨h2, 3, none⟩ = false := hk9.frozen 3)
      have hb9 : Below h2 w8 w9 := ((Below.refl w8.heap.size w8).alloc (Nat.le_refl _) (.cells #[.string b0] 9)).mono (by omega) |>.grown hgrow9 (by simp; omega) fun q hq => (zo.lt q hq).1
      rw [← HSN.out] at hown9
      have j0 := (HZ.out.1.below hb9 (by omega)).far (p := ⟨h2, 3, none⟩) (by show w.heap.size ≠ h2; omega) (.slice A9 (k + 1) c9)
      have j1 := (HZ.out.2.1.below hb9 (by omega)).far (p := ⟨h2, 3, none⟩) (by show h1 ≠ h2; omega) (.slice A9 (k + 1) c9)
      have j2 := hk9.set_ 3 (.slice A9 (k + 1) c9)
      simp only [List.setIfInBounds_toArray, List.set_cons_zero, List.set_cons_succ] at j2
      have jo := ownsRow_setCell_other (a := ⟨h2, 3, none⟩) hown9 (KH.own_blk_ne hown9 hk9 (by decide)) (.slice A9 (k + 1) c9)
      have jB := (HZ.out.2.2.2.trans (hb9.mono (by omega))).setCell (p := ⟨h2, 3, none⟩) (by show w.heap.size ≤ h2; omega) (.slice A9 (k + 1) c9)
      exact ⟨⟨k + 1, by omega, by go_num, A9, c9, j2, jo, j0, j1, jB⟩, by simp [intOf]; omega⟩
    · obtain rfl : k = n := by omega
      obtain ⟨y2, yo, y0, y1, hB⟩ := HI.out
      have d1 : decide ((k : Int) < (k : Int)) = false := by rw [decide_eq_false_iff_not]; omega
      have hHL := HL.out
      have hyo : wr.ownsRow h2 9 1 (.slice A k c) k (Bl.map .string) := by rw [← tk_all, hHL]; exact yo
      have hrd := KH.Reads.of_own hyo
      have hvl : VlIn wr (.agg #[.slice A k c, .string rv]) Bl (rootV K Bl) := ⟨A, c, by rw [hHL, ← HRV.out], by rw [hHL]; exact hrd⟩
      have HC := KH.hid (vcheck_yes hvl (by rw [hHL]; exact HX.out.2.1.cnt) (rootV_size K Bl (by omega)) HX.out.2.1.small)
      have g0 : wr.cell? ⟨h2, 3, none⟩ = some (.slice A k c) := y2.cell 3
      have g1 : wr.cell? ⟨h2, 4, none⟩ = some (.string rv) := y2.cell 4
      have HZ := KH.hid (And.intro y1 (And.intro y2 (And.intro hyo (And.intro hvl hB))))
      clear y0 y1 y2 yo hyo hrd hvl hB HI
      go_wp2_with fail
      refine HC.out.mono ?_; rintro e w4 ⟨rfl, hb4⟩
      have z1 := HZ.out.1.below hb4 HZ.out.1.lt
      have z2 := HZ.out.2.1.below hb4 HZ.out.2.1.lt
      have zo := KH.own_below HZ.out.2.2.1 hb4
      have zv := HZ.out.2.2.2.1.below hb4
      have zB := HZ.out.2.2.2.2.trans (hb4.mono HZ.out.2.2.2.2.size)
      have f0 : w4.cell? ⟨h2, 3, none⟩ = some (.slice A k c) := z2.cell 3
      have f1 : w4.cell? ⟨h2, 4, none⟩ = some (.string rv) := z2.cell 4
      have HRO := KH.hid (rooted_yes K zv (by rw [hHL]; exact HX.out.2.1.cnt) HX.out.2.1.small (rounds_below HX.out.2.2 zB hg1))
      have HZ4 := KH.hid (And.intro z1 (And.intro z2 (And.intro zo zB)))
      clear z1 z2 zo zv zB hb4 HZ HC g0 g1
      go_wp2_with fail
      refine HRO.out.mono ?_; rintro e w5 ⟨rfl, hb5⟩
      have z1 := HZ4.out.1.below hb5 HZ4.out.1.lt
      have z2 := HZ4.out.2.1.below hb5 HZ4.out.2.1.lt
      have zo := KH.own_below HZ4.out.2.2.1 hb5
      have zB := HZ4.out.2.2.2.trans (hb5.mono HZ4.out.2.2.2.size)
      have f2 : w5.cell? ⟨h2, 0, none⟩ = some (.int .i64 k) := z2.cell 0
      have f3 : w5.cell? ⟨h2, 1, none⟩ = some (.int .i64 a) := z2.cell 1
      have f4 : w5.cell? ⟨h2, 2, none⟩ = some (.int .i64 g) := z2.cell 2
      have f5 : w5.cell? ⟨h2, 3, none⟩ = some (.slice A k c) := z2.cell 3
      have f6 : w5.cell? ⟨h2, 4, none⟩ = some (.string rv) := z2.cell 4
      have q0 : w5.cell? ⟨h1, 0, none⟩ = some (.int .i64 0) := z1.cell 0
      have q1 : w5.cell? ⟨h1, 1, none⟩ = some (.int .i64 0) := z1.cell 1
      have q2 : w5.cell? ⟨h1, 2, none⟩ = some (.int .i64 0) := z1.cell 2
      have q3 : w5.cell? ⟨h1, 3, none⟩ = some (.slice none 0 0) := z1.cell 3
      have q4 : w5.cell? ⟨h1, 4, none⟩ = some (.string ⟨#[]⟩) := z1.cell 4
      have r0 : w5.frozen? ⟨h1, 0, none⟩ = false := z1.frozen 0
      have r1 : w5.frozen? ⟨h1, 1, none⟩ = false := z1.frozen 1
      have r2 : w5.frozen? ⟨h1, 2, none⟩ = false := z1.frozen 2
      have r3 : w5.frozen? ⟨h1, 3, none⟩ = false := z1.frozen 3
      have r4 : w5.frozen? ⟨h1, 4, none⟩ = false := z1.frozen 4
      have HF := KH.hid (And.intro z1 (And.intro zo zB))
      clear z1 z2 zo zB hb5 HZ4 f0 f1
      go_wp2_with fail
      have c5 := set5c HF.out.1 (.int .i64 k) (.int .i64 a) (.int .i64 g) (.slice A k c) (.string rv)
      have b5 := below5c HF.out.2.2 (show w.heap.size ≤ h1 by omega) (.int .i64 k) (.int .i64 a) (.int .i64 g) (.slice A k c) (.string rv)
      have o5 := own5c (h := h1) HF.out.2.1 (KH.own_blk_ne HF.out.2.1 HF.out.1 (by decide)) (.int .i64 k) (.int .i64 a) (.int .i64 g) (.slice A k c) (.string rv)
      generalize ((((w5.setCell ⟨h1, 0, none⟩ (.int .i64 k)).setCell ⟨h1, 1, none⟩ (.int .i64 a)).setCell ⟨h1, 2, none⟩ (.int .i64 g)).setCell ⟨h1, 3, none⟩ (.slice A k c)).setCell ⟨h1, 4, none⟩ (.string rv) = W9 at *
      have g0 : W9.cell? ⟨h1, 0, none⟩ = some (.int .i64 k) := c5.cell 0
      have g1 : W9.cell? ⟨h1, 1, none⟩ = some (.int .i64 a) := c5.cell 1
      have g2 : W9.cell? ⟨h1, 2, none⟩ = some (.int .i64 g) := c5.cell 2
      have g3 : W9.cell? ⟨h1, 3, none⟩ = some (.slice A k c) := c5.cell 3
      have g4 : W9.cell? ⟨h1, 4, none⟩ = some (.string rv) := c5.cell 4
      have hrd9 := KH.Reads.of_own o5
      exact bodyPost_ret (load_chest (p := 2) (u := 3) rfl rfl rfl g0 g1 g2 g3 g4) rfl ⟨A, c, rfl, ⟨A, c, by rw [hHL], by rw [hHL]; exact hrd9⟩, fun ad e => by
        subst e
        have := (o5.lt ad.block rfl).1
        omega, b5⟩
end Go.Proofs.YtlnilfcjcoclhaaGreatDoor
/- Package vault: Load. -/
namespace Go.Proofs.YtlnilfcjcoclhaaGreatDoor
open Go.RowKit

theorem load_ld {fn : Func} {p u u2 : Nat} {tmps : Array Value} {w : World} {h : Nat} {x y : Value} {k k2 : Int}
    (hr : fn.results = #[.cell p 48, .tmp u, .tmp u2]) (hp : tmps.getD p undef = .pointer (some ⟨h, 0, none⟩)) (hu : tmps.getD u undef = .int .i64 k) (hu2 : tmps.getD u2 undef = .int .i64 k2)
    (h0 : w.cell? ⟨h, 0, none⟩ = some x) (h1 : w.cell? ⟨h, 1, none⟩ = some y) : (results fn tmps).run Tryz.prog w = .ok (.tuple #[.agg #[x, y], .int .i64 k, .int .i64 k2]) w := by
  rw [Array.getD_eq_getD_getElem?] at hp hu hu2
  simp [results, hr, hp, hu, hu2, go_sem, h0, h1]
set_option maxHeartbeats 1000000 in
set_option maxRecDepth 100000 in
theorem vload_any (K : Nat → Nat) {w : World} {v : Value} {S : List ByteArray} {lo n g a : Nat} {Bl : List ByteArray} (h : PlIn w lo v S []) (hv : VaOk K S n g a Bl) (hK : RoundsAt K w) :
    Calls Tryz.prog 12 #[v] w fun e w' => ∃ A c, e = .returned (.tuple #[.agg #[.slice A n c, .string (rootV K Bl)], .int .i64 g, .int .i64 0]) ∧ VlIn w' (.agg #[.slice A n c, .string (rootV K Bl)]) Bl (rootV K Bl) ∧ (∀ ad, A = some ad → w.heap.size ≤ ad.block) ∧ Below w.heap.size w w' := by
  have h00 := h
  obtain ⟨A1, c1, A2, c2, rfl, -, -, -, -⟩ := h
  obtain ⟨k0, k1, hb2, hz2⟩ := alloc2 w 35 48 #[.slice A1 S.length c1, .slice A2 0 c2] #[.slice none 0 0, .string ⟨#[]⟩] _ rfl
  have HO := KH.hid (open_vault K (h00.below hb2) hv (rounds_below hK hb2 hK.1))
  have e0 : ((w.alloc (.cells #[.slice A1 S.length c1, .slice A2 0 c2] 35)).alloc (.cells #[.slice none 0 0, .string ⟨#[]⟩] 48)).cell? ⟨w.heap.size, 0, none⟩ = some (.slice A1 S.length c1) := k0.cell 0
  have e1 : ((w.alloc (.cells #[.slice A1 S.length c1, .slice A2 0 c2] 35)).alloc (.cells #[.slice none 0 0, .string ⟨#[]⟩] 48)).cell? ⟨w.heap.size, 1, none⟩ = some (.slice A2 0 c2) := k0.cell 1
  clear h00 hK
  obtain ⟨rv, hrv⟩ : ∃ r, r = rootV K Bl := ⟨_, rfl⟩
  rw [← hrv] at HO ⊢
  clear hrv
  go_enter Tryz.func12, Tryz.ntmps12
  go_wp2_with fail
  generalize (w.alloc (.cells #[.slice A1 S.length c1, .slice A2 0 c2] 35)).alloc (.cells #[.slice none 0 0, .string ⟨#[]⟩] 48) = W at *
  have hgg : w.heap.size < w.heap.size + 1 ∧ w.heap.size + 1 < W.heap.size := by omega
  generalize w.heap.size + 1 = h1 at *
  obtain ⟨hgg1, hgg2⟩ := hgg
  refine HO.out.mono ?_; rintro e w3 ⟨A, c, rfl, hvl, hlo, hb3⟩
  have x1 := k1.below hb3 k1.lt
  have hB3 := hb2.trans (hb3.mono hb2.size)
  have l1 := x1.lt
  have y1 := x1.alloc (.cells #[.int .i64 n, .int .i64 a, .int .i64 g, .slice A n c, .string rv] 73)
  have y5 := KH.Blk.new w3 73 #[.int .i64 n, .int .i64 a, .int .i64 g, .slice A n c, .string rv]
  have hB4 := hB3.alloc hB3.size (.cells #[.int .i64 n, .int .i64 a, .int .i64 g, .slice A n c, .string rv] 73)
  have hv4 := hvl.below ((Below.refl w3.heap.size w3).alloc (Nat.le_refl _) (.cells #[.int .i64 n, .int .i64 a, .int .i64 g, .slice A n c, .string rv] 73))
  clear k0 k1 hb2 hb3 x1 hB3 e0 e1 HO hvl
  go_wp2_with fail
  generalize w3.alloc (.cells #[.int .i64 n, .int .i64 a, .int .i64 g, .slice A n c, .string rv] 73) = w4 at *
  obtain ⟨h5, e5⟩ : ∃ h, h = w3.heap.size := ⟨_, rfl⟩
  rw [← e5] at y5 ⊢
  have n15 : h5 ≠ h1 := by omega
  clear e5
  have f2 : w4.cell? ⟨h5, 2, none⟩ = some (.int .i64 g) := y5.cell 2
  have f3 : w4.cell? ⟨h5, 3, none⟩ = some (.slice A n c) := y5.cell 3
  have f4 : w4.cell? ⟨h5, 4, none⟩ = some (.string rv) := y5.cell 4
  have q0 : w4.cell? ⟨h1, 0, none⟩ = some (.slice none 0 0) := y1.cell 0
  have q1 : w4.cell? ⟨h1, 1, none⟩ = some (.string ⟨#[]⟩) := y1.cell 1
  have r0 : w4.frozen? ⟨h1, 0, none⟩ = false := y1.frozen 0
  have r1 : w4.frozen? ⟨h1, 1, none⟩ = false := y1.frozen 1
  have HS : Hid ((w4.drew.cell? ⟨h5, 2, none⟩ = some (.int .i64 g) ∧ w4.drew.cell? ⟨h5, 3, none⟩ = some (.slice A n c) ∧ w4.drew.cell? ⟨h5, 4, none⟩ = some (.string rv)) ∧
      ∀ u0 u1, (((w4.setCell ⟨h1, 0, none⟩ u0).setCell ⟨h1, 1, none⟩ u1).drew.cell? ⟨h5, 2, none⟩ = some (.int .i64 g) ∧ ((w4.setCell ⟨h1, 0, none⟩ u0).setCell ⟨h1, 1, none⟩ u1).drew.cell? ⟨h5, 3, none⟩ = some (.slice A n c) ∧ ((w4.setCell ⟨h1, 0, none⟩ u0).setCell ⟨h1, 1, none⟩ u1).drew.cell? ⟨h5, 4, none⟩ = some (.string rv))) :=
    ⟨⟨f2, f3, f4⟩, fun u0 u1 => by
      have z := (y5.far (p := ⟨h1, 0, none⟩) n15 u0).far (p := ⟨h1, 1, none⟩) n15 u1
      exact ⟨z.cell 2, z.cell 3, z.cell 4⟩⟩
  have HZ := KH.hid (And.intro y1 (And.intro hB4 hv4))
  clear y1 y5 hB4 hv4
  go_region_held3 (fun w' => w'.cell? ⟨h5, 2, none⟩ = some (.int .i64 g) ∧ w'.cell? ⟨h5, 3, none⟩ = some (.slice A n c) ∧ w'.cell? ⟨h5, 4, none⟩ = some (.string rv)) (first | with_reducible exact HS.out.1 | with_reducible exact HS.out.2 _ _) (fail)
  go_wp2_with fail
  have z1 := ((HZ.out.1.set_ 0 (.slice A n c)).set_ 1 (.string rv)).drew
  simp only [List.setIfInBounds_toArray, List.set_cons_zero, List.set_cons_succ] at z1
  have zB := ((HZ.out.2.1.setCell (p := ⟨h1, 0, none⟩) (by show w.heap.size ≤ h1; omega) (.slice A n c)).setCell (p := ⟨h1, 1, none⟩) (by show w.heap.size ≤ h1; omega) (.string rv)).drew
  have zv : VlIn ((w4.setCell ⟨h1, 0, none⟩ (.slice A n c)).setCell ⟨h1, 1, none⟩ (.string rv)).drew (.agg #[.slice A n c, .string rv]) Bl rv := by
    obtain ⟨A', c', e, hr⟩ := HZ.out.2.2
    obtain ⟨rfl, rfl⟩ := vl_eq e
    refine ⟨A, c, e, ?_⟩
    have := KH.Reads.setFar (KH.Reads.setFar hr (p := ⟨h1, 0, none⟩) (fun ad h => by have := hlo ad h; show ad.block ≠ h1; omega) (.slice A n c)) (p := ⟨h1, 1, none⟩) (fun ad h => by have := hlo ad h; show ad.block ≠ h1; omega) (.string rv)
    exact (this.more (by simp)).drew
  generalize ((w4.setCell ⟨h1, 0, none⟩ (.slice A n c)).setCell ⟨h1, 1, none⟩ (.string rv)).drew = W9 at *
  have g0 : W9.cell? ⟨h1, 0, none⟩ = some (.slice A n c) := z1.cell 0
  have g1 : W9.cell? ⟨h1, 1, none⟩ = some (.string rv) := z1.cell 1
  refine bodyPost_ret (load_ld (p := 2) (u := 3) (u2 := 4) rfl rfl rfl rfl g0 g1) rfl ⟨A, c, rfl, ?_, fun ad e => by have := hlo ad e; omega, zB⟩
  exact zv
end Go.Proofs.YtlnilfcjcoclhaaGreatDoor
/- Package vault: a deed that lays a block. -/
namespace Go.Proofs.YtlnilfcjcoclhaaGreatDoor
open Go.RowKit

/-- what a deed's region keeps -/
abbrev DdS (w1 : World) (h4 h5 hc gi gs : Nat) (x y n a i s : Value) (w' : World) : Prop :=
  w'.cell? ⟨h4, 0, none⟩ = some x ∧ w'.cell? ⟨h4, 1, none⟩ = some y ∧ w'.cell? ⟨hc, 0, none⟩ = some n ∧ w'.cell? ⟨hc, 1, none⟩ = some a ∧ w'.cell? ⟨gi, 0, none⟩ = some i ∧ w'.cell? ⟨gs, 0, none⟩ = some s ∧ Below h5 w1 w'
theorem ddS_of {w1 w' : World} {h4 h5 hc gi gs : Nat} {t1 t2 t3 t4 : TypeId} {x y n a g b r i s : Value} (k4 : KH.Blk w1 h4 t1 #[x, y]) (kc : KH.Blk w1 hc t2 #[n, a, g, b, r]) (ki : KH.Blk w1 gi t3 #[i]) (ks : KH.Blk w1 gs t4 #[s]) (hl : h4 < h5 ∧ hc < h5 ∧ gi < h5 ∧ gs < h5) (hb : Below h5 w1 w') :
    DdS w1 h4 h5 hc gi gs x y n a i s w' :=
  ⟨(k4.below hb hl.1).cell 0, (k4.below hb hl.1).cell 1, (kc.below hb hl.2.1).cell 0, (kc.below hb hl.2.1).cell 1, (ki.below hb hl.2.2.1).cell 0, (ks.below hb hl.2.2.2).cell 0, hb⟩
theorem ddS_b {w1 w' : World} {h4 h5 hc gi gs : Nat} {x y n a i s : Value} (h : DdS w1 h4 h5 hc gi gs x y n a i s w') : Below h5 w1 w' := h.2.2.2.2.2.2
set_option maxHeartbeats 2000000 in
set_option maxRecDepth 100000 in
theorem vdeed_any {w : World} {v : Value} {S : List ByteArray} {C : List (Int × ByteArray)} {lo hc gi gs n a i q : Nat} {g b r : Value} {s : ByteArray} (h : PlIn w lo v S C) (hp : pOk S C)
    (kc : KH.Blk w hc 73 #[.int .i64 n, .int .i64 a, g, b, r]) (ki : KH.Blk w gi 3 #[.int .i64 i]) (ks : KH.Blk w gs 9 #[.string s]) (ha : a ≤ 1) (hn : n ≤ 64) (hi : i < n) (hq : q = 3 + (1 - a) * n + i) (hqS : q < S.length) (hs : s.size ≤ 128) (hC : C.length < 100) :
    Calls Tryz.prog 56 #[v, .pointer (some ⟨hc, 0, none⟩), .pointer (some ⟨gi, 0, none⟩), .pointer (some ⟨gs, 0, none⟩)] w fun e w' => ∃ v', e = .returned (.tuple #[v', .int .i64 0]) ∧ PlIn w' w.heap.size v' S (C ++ [(((q : Nat) : Int), s)]) ∧ Below w.heap.size w w' := by
  have h00 := h
  obtain ⟨A1, c1, A2, c2, rfl, -, -, -, -⟩ := h
  obtain ⟨k4, k5, hb2, hz2⟩ := alloc2 w 35 35 #[.slice A1 S.length c1, .slice A2 C.length c2] #[.slice none 0 0, .slice none 0 0] _ rfl
  have lc := kc.lt
  have li := ki.lt
  have ls := ks.lt
  have kc1 := kc.below hb2 lc
  have ki1 := ki.below hb2 li
  have ks1 := ks.below hb2 ls
  have hpl := h00.below hb2
  have HX := KH.hid (And.intro hpl (And.intro hp hs))
  have HSC : Hid (∀ w' : World, Calls Tryz.prog 50 #[.agg #[.int .i64 n, .int .i64 a], .int .i64 (1 - (a : Int)), .int .i64 i] w' fun e w'' => e = .returned (.int .i64 (q : Nat)) ∧ Below w'.heap.size w' w'') := fun w' => by
    rw [hq, show 1 - (a : Int) = ((1 - a : Nat) : Int) by omega]; exact sector_any n a (1 - a) i w' hn (by omega) (by omega)
  clear h00 hp hs kc ki ks hq hpl
  go_enter Tryz.func56, Tryz.ntmps56
  go_wp2_with fail
  generalize (w.alloc (.cells #[.slice A1 S.length c1, .slice A2 C.length c2] 35)).alloc (.cells #[.slice none 0 0, .slice none 0 0] 35) = W at *
  have hgg : w.heap.size < w.heap.size + 1 ∧ w.heap.size + 1 < W.heap.size := by omega
  generalize w.heap.size + 1 = h5 at *
  obtain ⟨hgg1, hgg2⟩ := hgg
  have e1 : IntKind.i64.wrap (1 - (a : Int)) = 1 - (a : Int) := IntWalk.i64_in _ (by omega)
  have hl4 : w.heap.size < h5 ∧ hc < h5 ∧ gi < h5 ∧ gs < h5 := by omega
  have HL4 := KH.hid hl4
  have HM := KH.hid (ddS_of k4 kc1 ki1 ks1 hl4 (Below.refl h5 W).drew)
  have HB := KH.hid (And.intro k4 (And.intro k5 (And.intro kc1 (And.intro ki1 (And.intro ks1 hb2)))))
  have f0 : W.cell? ⟨w.heap.size, 0, none⟩ = some (.slice A1 S.length c1) := k4.cell 0
  have f1 : W.cell? ⟨w.heap.size, 1, none⟩ = some (.slice A2 C.length c2) := k4.cell 1
  have f2 : W.cell? ⟨hc, 0, none⟩ = some (.int .i64 n) := kc1.cell 0
  have f3 : W.cell? ⟨hc, 1, none⟩ = some (.int .i64 a) := kc1.cell 1
  have f4 : W.cell? ⟨gi, 0, none⟩ = some (.int .i64 i) := ki1.cell 0
  have f5 : W.cell? ⟨gs, 0, none⟩ = some (.string s) := ks1.cell 0
  clear k4 k5 kc1 ki1 ks1 hb2 hl4
  go_region_held3 (fun w' => w'.cell? ⟨w.heap.size, 0, none⟩ = some (.slice A1 S.length c1) ∧ w'.cell? ⟨w.heap.size, 1, none⟩ = some (.slice A2 C.length c2) ∧ w'.cell? ⟨hc, 0, none⟩ = some (.int .i64 n) ∧ w'.cell? ⟨hc, 1, none⟩ = some (.int .i64 a) ∧ w'.cell? ⟨gi, 0, none⟩ = some (.int .i64 i) ∧ w'.cell? ⟨gs, 0, none⟩ = some (.string s) ∧ Below h5 W w')
    (first | (with_reducible exact HM.out) | (with_reducible exact ddS_of HB.out.1 HB.out.2.2.1 HB.out.2.2.2.1 HB.out.2.2.2.2.1 HL4.out hB7) | (with_reducible exact ddS_of HB.out.1 HB.out.2.2.1 HB.out.2.2.2.1 HB.out.2.2.2.2.1 HL4.out hB8) | (with_reducible exact ddS_of HB.out.1 HB.out.2.2.1 HB.out.2.2.2.1 HB.out.2.2.2.2.1 HL4.out hB9))
    (first
      | (go_at_call 50; refine (HSC.out _).mono ?_; rintro e w7 ⟨rfl, hb7⟩; have hB7 : Below h5 W w7 := ((Below.refl h5 W).drew).trans (hb7.mono (Nat.le_of_lt hgg2)))
      | (go_at_call 43; refine (write_any q s (HX.out.1.below (((Below.refl W.heap.size W).drew).trans hb7)) HX.out.2.1 hqS HX.out.2.2 hC).mono ?_; rintro e w8 ⟨v', rfl, hP8, hb8⟩; have hs7 : W.heap.size ≤ w7.heap.size := hb7.size; have hB8 : Below h5 W w8 := hB7.trans (hb8.mono (Nat.le_trans (Nat.le_of_lt hgg2) hs7)); have hP9 := hP8; obtain ⟨B1, b1, B2, b2, rfl, -, -, -, -⟩ := hP8; have k58 := (HB.out.2.1.below (((Below.refl W.heap.size W).drew).trans (hb7.trans (hb8.mono hb7.size))) HB.out.2.1.lt); have q0 : w8.cell? ⟨h5, 0, none⟩ = some (.slice none 0 0) := k58.cell 0; have q1 : w8.cell? ⟨h5, 1, none⟩ = some (.slice none 0 0) := k58.cell 1; have q2 : w8.frozen? ⟨h5, 0, none⟩ = false := k58.frozen 0; have q3 : w8.frozen? ⟨h5, 1, none⟩ = false := k58.frozen 1; have hB9 : Below h5 W ((w8.setCell ⟨h5, 0, none⟩ (.slice B1 S.length b1)).setCell ⟨h5, 1, none⟩ (.slice B2 (C.length + 1) b2)) := (hB8.setCell (p := ⟨h5, 0, none⟩) (Nat.le_refl _) _).setCell (p := ⟨h5, 1, none⟩) (Nat.le_refl _) _))
  have hW8 : Below W.heap.size W w8 := ((Below.refl W.heap.size W).drew).trans (hb7.trans (hb8.mono hs7))
  have hlt5 : h5 < w7.heap.size := by omega
  have hk5 := HB.out.2.1.below hW8 HB.out.2.1.lt
  have hP10 : PlIn w8 w7.heap.size (.agg #[.slice B1 S.length b1, .slice B2 (C.length + 1) b2]) S (C ++ [(((q : Nat) : Int), s)]) := by
    rw [show C.length + 1 = (C ++ [(((q : Nat) : Int), s)]).length by simp]; exact hP9
  have HF := KH.hid (And.intro hP10 hk5)
  clear hP9 hP10 hk5 hb7 hb8 hB7 hB8 hB9 k58 HM HSC HX
  go_wp2_with fail
  exact ret_pl Tryz.results56 rfl rfl rfl HF.out.2 HF.out.1 hlt5 (by omega) (HB.out.2.2.2.2.2.trans (hW8.mono (by omega))) (by omega)
end Go.Proofs.YtlnilfcjcoclhaaGreatDoor
