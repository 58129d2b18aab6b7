import Derived.Test.YtlnilfcjcoclhaaGreatDoorHsC
import Derived.Test.YtlnilfcjcoclhaaGreatDoorHoC
/- Package keyholetop: house. -/
namespace Go.Proofs.YtlnilfcjcoclhaaGreatDoor
open Go.RowKit Go.Shelf
attribute [local go_sem] Oper.semAt_some

theorem PlIn.form {w : World} {lo : Nat} {v : Value} {S : List ByteArray} (h : PlIn w lo v S []) : ∃ A1 c1 A2 c2, v = .agg #[.slice A1 S.length c1, .slice A2 0 c2] ∧ (∀ ad, A1 = some ad → lo ≤ ad.block) ∧ KH.Reads w w.heap.size 1 A1 S.length (S.map .string) := by
  obtain ⟨A1, c1, A2, c2, rfl, h1, -, h2, -⟩ := h
  exact ⟨A1, c1, A2, c2, rfl, h1, h2⟩
/-- what house's last region keeps -/
abbrev HoS (w0 : World) (g2 g4 g5 : Nat) (x y z u a b c : Value) (w' : World) : Prop :=
  w'.cell? ⟨g2, 0, none⟩ = some x ∧ w'.cell? ⟨g2, 1, none⟩ = some y ∧ w'.cell? ⟨g4, 0, none⟩ = some z ∧ w'.cell? ⟨g4, 1, none⟩ = some u ∧
    w'.cell? ⟨g5, 0, none⟩ = some a ∧ w'.cell? ⟨g5, 1, none⟩ = some b ∧ w'.cell? ⟨g5, 2, none⟩ = some c ∧ Below w0.heap.size w0 w'
theorem hoS_of {w0 w' : World} {g2 g4 g5 : Nat} {t2 t4 t5 : TypeId} {x y z u a b c : Value} (k2 : KH.Blk w0 g2 t2 #[x, y]) (k4 : KH.Blk w0 g4 t4 #[z, u]) (k5 : KH.Blk w0 g5 t5 #[a, b, c]) (hb : Below w0.heap.size w0 w') : HoS w0 g2 g4 g5 x y z u a b c w' :=
  ⟨(k2.below hb k2.lt).cell 0, (k2.below hb k2.lt).cell 1, (k4.below hb k4.lt).cell 0, (k4.below hb k4.lt).cell 1, (k5.below hb k5.lt).cell 0, (k5.below hb k5.lt).cell 1, (k5.below hb k5.lt).cell 2, hb⟩
theorem hoS_b {w0 w' : World} {g2 g4 g5 : Nat} {x y z u a b c : Value} (hs : HoS w0 g2 g4 g5 x y z u a b c w') : Below w0.heap.size w0 w' := hs.2.2.2.2.2.2.2
theorem hoS_alloc {w0 w' : World} {g2 g4 g5 : Nat} {t2 t4 t5 : TypeId} {x y z u a b c : Value} (hs : HoS w0 g2 g4 g5 x y z u a b c w') (k2 : KH.Blk w0 g2 t2 #[x, y]) (k4 : KH.Blk w0 g4 t4 #[z, u]) (k5 : KH.Blk w0 g5 t5 #[a, b, c]) (o : Obj) : HoS w0 g2 g4 g5 x y z u a b c (w'.alloc o) :=
  hoS_of k2 k4 k5 ((hoS_b hs).alloc (hoS_b hs).size o)
theorem hoS_grown {w0 w' w'' : World} {g2 g4 g5 : Nat} {t2 t4 t5 : TypeId} {x y z u a b c : Value} (hs : HoS w0 g2 g4 g5 x y z u a b c w') (k2 : KH.Blk w0 g2 t2 #[x, y]) (k4 : KH.Blk w0 g4 t4 #[z, u]) (k5 : KH.Blk w0 g5 t5 #[a, b, c]) (hg : w'.grownBy w'' none) : HoS w0 g2 g4 g5 x y z u a b c w'' :=
  hoS_of k2 k4 k5 ((hoS_b hs).grown hg (hoS_b hs).size (fun _ h => by cases h))
theorem PlIn.row {w : World} {lo : Nat} {Q : Nat → Prop} {S : List ByteArray} {A1 A2 : Option Addr} {c1 c2 : Nat} (h : PlIn w lo (.agg #[.slice A1 S.length c1, .slice A2 0 c2]) S []) (hq : ∀ b, lo ≤ b → b < w.heap.size → Q b) : RowN w Q A1 S.length S := by
  obtain ⟨B1, d1, B2, d2, e, l1, -, r1, -⟩ := h
  injection e with e; injection e with e; injection e with e e2; injection e with e3 e4 e5
  subst e3
  exact RowN.of_reads r1 fun ad ha hb => hq _ (l1 ad ha) hb
theorem house_of {w w6 w7 : World} {S0 R3 : List ByteArray} {A1 A2 A3 A4 : Option Addr} {c1 c2 c3 c4 n lo lo' : Nat} {key : ByteArray} (hP : PlIn w6 lo (.agg #[.slice A1 S0.length c1, .slice A2 0 c2]) S0 []) (hN : PlIn w6 lo' (.agg #[.slice A3 R3.length c3, .slice A4 0 c4]) R3 [])
    (hB : Below w.heap.size w w6) (ho : w7.ownsRow w6.heap.size 9 1 (.slice (some ⟨w6.heap.size, 0, none⟩) n n) n ((List.replicate n (⟨#[]⟩ : ByteArray)).map .string)) (hg : w6.drew.grownBy w7 none) :
    House (w7.alloc (.cells #[.slice A1 S0.length c1, .slice A2 0 c2, .slice A3 R3.length c3, .slice A4 0 c4, .int .i64 0, .int .i64 0, .int .i64 0, .string key, .slice (some ⟨w6.heap.size, 0, none⟩) n n, .slice none 0 0] 39))
      w.heap.size w7.heap.size 0 0 S0 R3 0 0 key (List.replicate n ⟨#[]⟩) [] ⟨A1, c1, A2, c2, A3, c3, A4, c4, some ⟨w6.heap.size, 0, none⟩, n, none, 0⟩ ∧
    Below w.heap.size w (w7.alloc (.cells #[.slice A1 S0.length c1, .slice A2 0 c2, .slice A3 R3.length c3, .slice A4 0 c4, .int .i64 0, .int .i64 0, .int .i64 0, .string key, .slice (some ⟨w6.heap.size, 0, none⟩) n n, .slice none 0 0] 39)) := by
  have hb7 : Below w6.heap.size w6 w7 := (Below.refl w6.heap.size w6).drew.grown hg (Nat.le_refl _) (fun _ h => by cases h)
  have hB7 := hB.trans (hb7.mono hB.size)
  have hs := hb7.size
  have hQ : ∀ b, b < w7.heap.size → HQ w7.heap.size 0 0 none b := fun b hb => ⟨by omega, (fun _ e => by cases e), .inr (Nat.zero_le _)⟩
  refine ⟨⟨?_, hB7.size, ?_, ?_, ?_, ⟨by simp, .inl ⟨rfl, rfl⟩⟩, fun _ e => by cases e⟩, hB7.alloc hB7.size _⟩
  · have := KH.Blk.new w7 39 #[.slice A1 S0.length c1, .slice A2 0 c2, .slice A3 R3.length c3, .slice A4 0 c4, .int .i64 0, .int .i64 0, .int .i64 0, .string key, .slice (some ⟨w6.heap.size, 0, none⟩) n n, .slice none 0 0]
    simpa [hsC, rep_len] using this
  · exact (((hP.row (Q := HQ w7.heap.size 0 0 none) fun b _ hb => hQ b (by omega)).below hb7)).below ((Below.refl w7.heap.size w7).alloc (Nat.le_refl _) _)
  · exact (((hN.row (Q := HQ w7.heap.size 0 0 none) fun b _ hb => hQ b (by omega)).below hb7)).below ((Below.refl w7.heap.size w7).alloc (Nat.le_refl _) _)
  · rw [rep_len]
    exact (RowN.of_reads (Q := HQ w7.heap.size 0 0 none) (KH.Reads.of_own ho) fun ad _ hb => hQ _ hb).below ((Below.refl w7.heap.size w7).alloc (Nat.le_refl _) _)
set_option maxHeartbeats 1000000 in
set_option maxRecDepth 100000 in
theorem house_yes (K : Nat → Nat) (n : Nat) (key : ByteArray) {w : World} (hn : cntB n = true) (hK : RoundsAt K w) :
    Calls Tryz.prog 4 #[.int .i64 n, .string key] w fun e w' => ∃ h x, e = .returned (.tuple #[.pointer (some ⟨h, 0, none⟩), .bool true]) ∧ House w' w.heap.size h 0 0 (fmtD K n).1 (List.replicate 3 ⟨#[]⟩) 0 0 key (List.replicate n ⟨#[]⟩) [] x ∧ Below w.heap.size w w' := by
  obtain ⟨i0, hi, hz0, hz1, hz2⟩ := info_parts str_info
  have hn' : 1 ≤ n ∧ n ≤ 64 := by obtain ⟨m, hm, h⟩ := cntB_nat hn; omega
  obtain ⟨h0C, h0V⟩ := fmt_vaS K hn
  have HF := KH.hid (vfmt_any K n hn hK)
  rw [h0C] at HF
  obtain ⟨S0, hS0⟩ : ∃ q, q = (fmtD K n).1 := ⟨_, rfl⟩
  rw [← hS0] at HF h0V ⊢
  have hpos : 0 < S0.length := by rw [h0V.size]; omega
  have HP3 : Hid (∀ W : World, Calls Tryz.prog 9 #[.int .i64 3] W fun e w' => ∃ v', e = .returned (.tuple #[v', .int .i64 0]) ∧ PlIn w' W.heap.size v' (List.replicate 3 ⟨#[]⟩) [] ∧ Below W.heap.size W w') := fun W => pnew_any (w := W) 3 (by omega) (by omega)
  clear h0C h0V hS0 hK
  obtain ⟨R3, hR3⟩ : ∃ q, q = List.replicate 3 (⟨#[]⟩ : ByteArray) := ⟨_, rfl⟩
  have hR3l : Hid (R3.length = 3) := KH.hid (by rw [hR3]; rfl)
  have hNo : NoOk R3 (0 : Nat) := by rw [hR3]; exact noOk_new
  rw [← hR3] at HP3 ⊢
  clear hR3
  go_enter Tryz.func4, Tryz.ntmps4
  go_wp2_with fail
  refine HF.out.mono ?_; rintro e w1 ⟨v1, rfl, hP1, hb1⟩
  have hP1' := hP1
  obtain ⟨A1, c1, A2, c2, rfl, l1, r1⟩ := hP1'.form
  clear hP1'
  have k2 := KH.Blk.new w1 35 #[.slice A1 S0.length c1, .slice A2 0 c2]
  have hP2 := hP1.below ((Below.refl w1.heap.size w1).alloc (Nat.le_refl _) (.cells #[.slice A1 S0.length c1, .slice A2 0 c2] 35))
  have hB2 := hb1.alloc hb1.size (.cells #[.slice A1 S0.length c1, .slice A2 0 c2] 35)
  clear HF hP1 hb1
  go_wp2_with fail
  refine (HP3.out _).mono ?_; rintro e w3 ⟨v3, rfl, hP3, hb3⟩
  have hP3' := hP3
  obtain ⟨A3, c3, A4, c4, rfl, l3, r3⟩ := hP3'.form
  clear hP3'
  have k3 := k2.below hb3 k2.lt
  have hP23 := hP2.below hb3
  have hB3 := hB2.trans (hb3.mono hB2.size)
  have k4 := k3.alloc (.cells #[.slice A3 R3.length c3, .slice A4 0 c4] 35)
  have j4 := KH.Blk.new w3 35 #[.slice A3 R3.length c3, .slice A4 0 c4]
  have hP24 := hP23.below ((Below.refl w3.heap.size w3).alloc (Nat.le_refl _) (.cells #[.slice A3 R3.length c3, .slice A4 0 c4] 35))
  have hN4 := hP3.below ((Below.refl w3.heap.size w3).alloc (Nat.le_refl _) (.cells #[.slice A3 R3.length c3, .slice A4 0 c4] 35))
  have hB4 := hB3.alloc hB3.size (.cells #[.slice A3 R3.length c3, .slice A4 0 c4] 35)
  have e0 : (w3.alloc (.cells #[.slice A3 R3.length c3, .slice A4 0 c4] 35)).cell? ⟨w3.heap.size, 0, none⟩ = some (.slice A3 R3.length c3) := j4.cell 0
  have e1 : (w3.alloc (.cells #[.slice A3 R3.length c3, .slice A4 0 c4] 35)).cell? ⟨w3.heap.size, 1, none⟩ = some (.slice A4 0 c4) := j4.cell 1
  have HO := KH.hid (nopen_any hN4 hNo (by omega))
  clear k2 hP2 hB2 hP3 hb3 hP23 hB3 k3
  go_wp2_with fail
  refine HO.out.mono ?_; rintro e w5 ⟨rfl, hb5⟩
  have k5 := k4.below hb5 k4.lt
  have j5 := j4.below hb5 j4.lt
  have hP5 := hP24.below hb5
  have hN5 := hN4.below hb5
  have hB5 := hB4.trans (hb5.mono hB4.size)
  have k6 := k5.alloc (.cells #[.int .i64 0, .int .i64 0, .int .i64 0] 37)
  have j6 := j5.alloc (.cells #[.int .i64 0, .int .i64 0, .int .i64 0] 37)
  have s6 := KH.Blk.new w5 37 #[.int .i64 0, .int .i64 0, .int .i64 0]
  have hP6 := hP5.below ((Below.refl w5.heap.size w5).alloc (Nat.le_refl _) (.cells #[.int .i64 0, .int .i64 0, .int .i64 0] 37))
  have hN6 := hN5.below ((Below.refl w5.heap.size w5).alloc (Nat.le_refl _) (.cells #[.int .i64 0, .int .i64 0, .int .i64 0] 37))
  have hB6 := hB5.alloc hB5.size (.cells #[.int .i64 0, .int .i64 0, .int .i64 0] 37)
  clear k4 j4 hP24 hN4 hB4 HO hb5 k5 j5 hP5 hN5 hB5 e0 e1
  go_upto_region 4 with fail
  obtain ⟨g5, hg5⟩ : ∃ q, q = w5.heap.size := ⟨_, rfl⟩
  obtain ⟨w6, hw6⟩ : ∃ W, W = w5.alloc (.cells #[.int .i64 0, .int .i64 0, .int .i64 0] 37) := ⟨_, rfl⟩
  rw [← hw6] at k6 j6 s6 hP6 hN6 hB6
  rw [← hg5] at s6
  rw [← hw6, ← hg5]
  have HE := KH.hid (And.intro hw6 hg5)
  clear hw6 hg5
  obtain ⟨g4, hg4⟩ : ∃ q, q = w3.heap.size := ⟨_, rfl⟩
  obtain ⟨g2, hg2⟩ : ∃ q, q = w1.heap.size := ⟨_, rfl⟩
  rw [← hg4] at j6
  rw [← hg2] at k6
  rw [← hg4, ← hg2]
  clear hg4 hg2 r1 r3 l1 l3
  have hm1 : min (n : Int) 64 = n := by omega
  have hm2 : max (0 : Int) n = n := by omega
  have c0 : w6.cell? ⟨g2, 0, none⟩ = some (.slice A1 S0.length c1) := k6.cell 0
  have c1' : w6.cell? ⟨g2, 1, none⟩ = some (.slice A2 0 c2) := k6.cell 1
  have c2' : w6.cell? ⟨g4, 0, none⟩ = some (.slice A3 R3.length c3) := j6.cell 0
  have c3' : w6.cell? ⟨g4, 1, none⟩ = some (.slice A4 0 c4) := j6.cell 1
  have c4' : w6.cell? ⟨g5, 0, none⟩ = some (.int .i64 0) := s6.cell 0
  have c5' : w6.cell? ⟨g5, 1, none⟩ = some (.int .i64 0) := s6.cell 1
  have c6' : w6.cell? ⟨g5, 2, none⟩ = some (.int .i64 0) := s6.cell 2
  have HX := KH.hid (And.intro hP6 (And.intro hN6 hB6))
  clear hP6 hN6 hB6
  obtain ⟨w7, hrun, hown7, hg7⟩ := run_make_full (P := Tryz.prog) w6.drew w6.heap.size 30 9 i0 (.string ⟨#[]⟩) 1 Tryz.underlying30 hi hz0 hz1 .i64 .i64 n (by rw [hz2]; omega) (by unfold maxLen; omega) (Nat.le_refl _)
  have HO7 := KH.hid hown7
  have HG7 := KH.hid hg7
  clear hown7 hg7
  go_region_held3 (fun w' => w'.cell? ⟨g2, 0, none⟩ = some (.slice A1 S0.length c1) ∧ w'.cell? ⟨g2, 1, none⟩ = some (.slice A2 0 c2) ∧ w'.cell? ⟨g4, 0, none⟩ = some (.slice A3 R3.length c3) ∧ w'.cell? ⟨g4, 1, none⟩ = some (.slice A4 0 c4) ∧
    w'.cell? ⟨g5, 0, none⟩ = some (.int .i64 0) ∧ w'.cell? ⟨g5, 1, none⟩ = some (.int .i64 0) ∧ w'.cell? ⟨g5, 2, none⟩ = some (.int .i64 0) ∧ Below w6.heap.size w6 w')
    (first | exact hoS_of k6 j6 s6 (Below.refl w6.heap.size w6).drew | exact hoS_grown (hoS_of k6 j6 s6 (Below.refl w6.heap.size w6).drew) k6 j6 s6 HG7.out | exact hoS_alloc (by assumption) k6 j6 s6 _)
    (fail)
  go_wp2
  go_ret2
  have ho := HO7.out
  rw [made_none] at ho
  obtain ⟨q1, q2⟩ := house_of (key := key) HX.out.1 HX.out.2.1 HX.out.2.2 ho HG7.out
  exact ⟨_, _, rfl, q1, q2⟩
set_option maxHeartbeats 1000000 in
set_option maxRecDepth 100000 in
theorem house_no (n : Int) (key : ByteArray) {w : World} (hn : cntB n = false) :
    Calls Tryz.prog 4 #[.int .i64 n, .string key] w fun e w' => ∃ v, e = .returned (.tuple #[v, .bool false]) ∧ Below w.heap.size w w' := by
  obtain ⟨i0, hi, hz0, hz1, hz2⟩ := info_parts str_info
  obtain ⟨m, hm, hm64⟩ : ∃ m : Nat, max 0 (min n 64) = (m : Int) ∧ m ≤ 64 := ⟨(max 0 (min n 64)).toNat, by omega, by omega⟩
  obtain ⟨q, hq⟩ : ∃ q, q = min n 64 := ⟨_, rfl⟩
  have HF := KH.hid (vfmt_no n hn (w := w))
  rw [← hq] at hm
  have HP3 : Hid (∀ W : World, Calls Tryz.prog 9 #[.int .i64 3] W fun e w' => ∃ v', e = .returned (.tuple #[v', .int .i64 0]) ∧ PlIn w' W.heap.size v' (List.replicate 3 ⟨#[]⟩) [] ∧ Below W.heap.size W w') := fun W => pnew_any (w := W) 3 (by omega) (by omega)
  obtain ⟨R3, hR3⟩ : ∃ q, q = List.replicate 3 (⟨#[]⟩ : ByteArray) := ⟨_, rfl⟩
  have hR3l : Hid (R3.length = 3) := KH.hid (by rw [hR3]; rfl)
  have hNo : NoOk R3 (0 : Nat) := by rw [hR3]; exact noOk_new
  rw [← hR3] at HP3
  clear hR3
  go_enter Tryz.func4, Tryz.ntmps4
  go_wp2_with fail
  refine HF.out.mono ?_; rintro e w1 ⟨rfl, hb1⟩
  have k2 := KH.Blk.new w1 35 #[.slice none 0 0, .slice none 0 0]
  have hB2 := hb1.alloc hb1.size (.cells #[.slice none 0 0, .slice none 0 0] 35)
  clear HF hb1
  go_wp2_with fail
  refine (HP3.out _).mono ?_; rintro e w3 ⟨v3, rfl, hP3, hb3⟩
  have hP3' := hP3
  obtain ⟨A3, c3, A4, c4, rfl, l3, r3⟩ := hP3'.form
  clear hP3'
  have k3 := k2.below hb3 k2.lt
  have hB3 := hB2.trans (hb3.mono hB2.size)
  have k4 := k3.alloc (.cells #[.slice A3 R3.length c3, .slice A4 0 c4] 35)
  have j4 := KH.Blk.new w3 35 #[.slice A3 R3.length c3, .slice A4 0 c4]
  have hN4 := hP3.below ((Below.refl w3.heap.size w3).alloc (Nat.le_refl _) (.cells #[.slice A3 R3.length c3, .slice A4 0 c4] 35))
  have hB4 := hB3.alloc hB3.size (.cells #[.slice A3 R3.length c3, .slice A4 0 c4] 35)
  have e0 : (w3.alloc (.cells #[.slice A3 R3.length c3, .slice A4 0 c4] 35)).cell? ⟨w3.heap.size, 0, none⟩ = some (.slice A3 R3.length c3) := j4.cell 0
  have e1 : (w3.alloc (.cells #[.slice A3 R3.length c3, .slice A4 0 c4] 35)).cell? ⟨w3.heap.size, 1, none⟩ = some (.slice A4 0 c4) := j4.cell 1
  have HO := KH.hid (nopen_any hN4 hNo (by omega))
  clear k2 hB2 hP3 hb3 hB3 k3
  go_wp2_with fail
  refine HO.out.mono ?_; rintro e w5 ⟨rfl, hb5⟩
  have k5 := k4.below hb5 k4.lt
  have j5 := j4.below hb5 j4.lt
  have hN5 := hN4.below hb5
  have hB5 := hB4.trans (hb5.mono hB4.size)
  have k6 := k5.alloc (.cells #[.int .i64 0, .int .i64 0, .int .i64 0] 37)
  have j6 := j5.alloc (.cells #[.int .i64 0, .int .i64 0, .int .i64 0] 37)
  have s6 := KH.Blk.new w5 37 #[.int .i64 0, .int .i64 0, .int .i64 0]
  have hN6 := hN5.below ((Below.refl w5.heap.size w5).alloc (Nat.le_refl _) (.cells #[.int .i64 0, .int .i64 0, .int .i64 0] 37))
  have hB6 := hB5.alloc hB5.size (.cells #[.int .i64 0, .int .i64 0, .int .i64 0] 37)
  clear k4 j4 hN4 hB4 HO hb5 k5 j5 hN5 hB5 e0 e1 hN6
  go_upto_region 4 with fail
  obtain ⟨g5, hg5⟩ : ∃ q, q = w5.heap.size := ⟨_, rfl⟩
  obtain ⟨w6, hw6⟩ : ∃ W, W = w5.alloc (.cells #[.int .i64 0, .int .i64 0, .int .i64 0] 37) := ⟨_, rfl⟩
  rw [← hw6] at k6 j6 s6 hB6
  rw [← hg5] at s6
  rw [← hw6, ← hg5]
  have HE := KH.hid (And.intro hw6 hg5)
  clear hw6 hg5
  obtain ⟨g4, hg4⟩ : ∃ q, q = w3.heap.size := ⟨_, rfl⟩
  obtain ⟨g2, hg2⟩ : ∃ q, q = w1.heap.size := ⟨_, rfl⟩
  rw [← hg4] at j6
  rw [← hg2] at k6
  rw [← hg4, ← hg2]
  clear hg4 hg2 r3 l3
  have hm1 : min n 64 = q := hq.symm
  have hm2 : max (0 : Int) q = (m : Int) := hm
  clear hq hm
  have c0 : w6.cell? ⟨g2, 0, none⟩ = some (.slice none 0 0) := k6.cell 0
  have c1' : w6.cell? ⟨g2, 1, none⟩ = some (.slice none 0 0) := k6.cell 1
  have c2' : w6.cell? ⟨g4, 0, none⟩ = some (.slice A3 R3.length c3) := j6.cell 0
  have c3' : w6.cell? ⟨g4, 1, none⟩ = some (.slice A4 0 c4) := j6.cell 1
  have c4' : w6.cell? ⟨g5, 0, none⟩ = some (.int .i64 0) := s6.cell 0
  have c5' : w6.cell? ⟨g5, 1, none⟩ = some (.int .i64 0) := s6.cell 1
  have c6' : w6.cell? ⟨g5, 2, none⟩ = some (.int .i64 0) := s6.cell 2
  have HX := KH.hid hB6
  clear hB6
  obtain ⟨w7, hrun, hown7, hg7⟩ := run_make_full (P := Tryz.prog) w6.drew w6.heap.size 30 9 i0 (.string ⟨#[]⟩) 1 Tryz.underlying30 hi hz0 hz1 .i64 .i64 m (by rw [hz2]; omega) (by unfold maxLen; omega) (Nat.le_refl _)
  have HO7 := KH.hid hown7
  have HG7 := KH.hid hg7
  clear hown7 hg7
  have hh7 := hoS_grown (hoS_of k6 j6 s6 (Below.refl w6.heap.size w6).drew) k6 j6 s6 HG7.out
  obtain ⟨p0, p1, p2, p3, p4, p5, p6, p7⟩ := hh7
  go_big_region
  go_wp2
  go_ret2
  have hb7 : Below w6.heap.size w6 w7 := (Below.refl w6.heap.size w6).drew.grown HG7.out (Nat.le_refl _) (fun _ h => by cases h)
  have hB7 := HX.out.trans (hb7.mono HX.out.size)
  exact ⟨_, rfl, hB7.alloc hB7.size _⟩
end Go.Proofs.YtlnilfcjcoclhaaGreatDoor
