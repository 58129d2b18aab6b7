import Derived.Test.YtlnilfcjcoclhaaGreatDoorTwE
import Derived.Test.YtlnilfcjcoclhaaGreatDoorShelf
import Derived.Lib.AppendIntMem
/- Package nonce: Bytes. -/
namespace Go.Proofs.YtlnilfcjcoclhaaGreatDoor
open Go.RowKit

def nonF (n o : Nat) : Nat := if 4 ≤ o then n / 2 ^ (8 * (11 - o)) % 256 else 0
/-- the nonce of a number -/
def nonV (n : Nat) : ByteArray := tx 12 (nonF n)
theorem nonV_size (n : Nat) : (nonV n).size = 12 := tx_size _ _
theorem nonF_lt (n o : Nat) : nonF n o < 256 := by unfold nonF; split <;> omega
theorem nonV_inj {n m : Nat} (hn : n < 4294967296) (hm : m < 4294967296) (h : nonV n = nonV m) : n = m := by
  have e : ∀ o, o < 12 → nonF n o = nonF m o := fun o ho => by
    have h1 := tx_sb (fun o _ => nonF_lt n o) ho
    have h2 := tx_sb (fun o _ => nonF_lt m o) ho
    rw [← h1, ← h2]; exact congrArg (fun b => sb b o) h
  have e8 := e 8 (by omega)
  have e9 := e 9 (by omega)
  have e10 := e 10 (by omega)
  have e11 := e 11 (by omega)
  simp [nonF] at e8 e9 e10 e11
  omega

set_option maxRecDepth 100000 in
theorem bytes_yes (n : Nat) (hn : n ≤ 1000000000) (w : World) :
    Calls Tryz.prog 61 #[.int .i64 n] w fun e w' => e = .returned (.tuple #[.string (nonV n), .int .i64 0]) ∧ Below w.heap.size w w' := by
  obtain ⟨i0, hi, hz0, hz1, hz2⟩ := info_parts byte_info
  have d1 : decide ((n : Int) < 0) = false := by rw [decide_eq_false_iff_not]; omega
  have d2 : decide ((1000000000 : Int) < (n : Int)) = false := by rw [decide_eq_false_iff_not]; omega
  go_enter Tryz.func61, Tryz.ntmps61
  go_wp2_with (at_make; refine wpList_make_full _ rfl _ _ 84 rfl w.heap.size 5 i0 (.int .u8 0) 1 Tryz.underlying84 hi hz0 hz1 .i64 .i64 _ _ 12 rfl rfl rfl rfl (by rw [hz2]; omega) (by unfold maxLen; omega) (Nat.le_refl _) ?_; intro w3 hown3 hg3)
  have hb3 : Below w.heap.size w w3 := (Below.refl _ _).grown hg3 (Nat.le_refl _) (fun _ h => by cases h)
  rw [show (madeCells (Value.int .u8 0).cells (12 * 1)).toList = bl 12 (fun o => if 12 - 0 ≤ o then nonF n o else 0) by kernel_rfl] at hown3
  clear hg3
  go_loopw [13] (fun i wr => ∃ k : Nat, k ≤ 8 ∧ i = .int .i64 k ∧ wr.ownsRow w.heap.size 5 1 (.slice (some ⟨w.heap.size, 0, none⟩) 12 12) 12 (bl 12 fun o => if 12 - k ≤ o then nonF n o else 0) ∧ Below w.heap.size w wr) (fun i _ => 8 - (intOf i).toNat)
  case atStart => exact ⟨0, Nat.zero_le _, rfl, hown3, hb3⟩
  case round =>
    obtain ⟨k, hk, rfl, hown, hb⟩ := hrel
    clear hown3 hb3
    by_cases hlt : k < 8
    · have hm1 : (11 : Int) - (k : Int) = ((11 - k : Nat) : Int) := by omega
      have hm2 : (8 : Int) * (k : Int) = ((8 * k : Nat) : Int) := by omega
      have hl7 := (hown.cellAt (11 - k) (by omega)).trans (bl_get _ (by omega))
      have hf7 := hown.frozenAt (11 - k)
      have HS : Hid ((bl 12 fun o => if 12 - k ≤ o then nonF n o else 0).set (11 - k) (.int .u8 ((n / 2 ^ (8 * k) % 256 : Nat) : Nat)) = bl 12 fun o => if 12 - (k + 1) ≤ o then nonF n o else 0) := by
        unfold Hid
        rw [bl_set]
        refine bl_congr fun o ho => ?_
        by_cases e : o = 11 - k
        · subst e; rw [if_pos rfl, if_pos (by omega)]; unfold nonF; rw [if_pos (by omega), show 11 - (11 - k) = k by omega]
        · rw [if_neg e]
          by_cases h : 12 - k ≤ o
          · rw [if_pos h, if_pos (by omega)]
          · rw [if_neg h, if_neg (by omega)]
      have HO := KH.hid (hown.stored (11 - k) (.int .u8 ((n / 2 ^ (8 * k) % 256 : Nat) : Nat))).1
      have hval : ((n : Int) / 2 ^ (8 * k)) % 256 = ((n / 2 ^ (8 * k) % 256 : Nat) : Int) := by simp
      have h8 : 8 * k ≤ 64 := by omega
      generalize (if 12 - k ≤ 11 - k then nonF n (11 - k) else 0) = old at *
      generalize n / 2 ^ (8 * k) % 256 = y at *
      have HW := KH.hid (And.intro HS.out HO.out)
      have hq0 : (0 : Int) ≤ ((11 - k : Nat) : Int) ∧ ((11 - k : Nat) : Int) < 12 := by omega
      clear hown HS HO
      generalize hm : 8 * k = m at *
      generalize hq : 11 - k = q at *
      obtain ⟨hq0, hq1⟩ := hq0
      clear hm hq
      go_wp2
      go_roundw
      case rel => exact ⟨k + 1, by omega, by go_num, by rw [← HW.out.1]; exact HW.out.2, hb.setCell (p := ⟨w.heap.size, q, none⟩) (Nat.le_refl _) _⟩
      case measure => simp [intOf]; omega
    · obtain rfl : k = 8 := by omega
      rw [bl_congr (G := nonF n) (fun o ho => by
        by_cases h : 12 - 8 ≤ o
        · rw [if_pos h]
        · rw [if_neg h]; unfold nonF; rw [if_neg (by omega)]), bl_map] at hown
      have hback := conv_own hown
      have HV : Hid (strOfNums ((List.range 12).map fun o => ((nonF n o : Nat) : Int)) = nonV n) := rfl
      rw [HV.out] at hback
      clear hown
      go_wp2
      go_ret2
      exact ⟨rfl, hb⟩
end Go.Proofs.YtlnilfcjcoclhaaGreatDoor
/- Package nonce: read. -/
namespace Go.Proofs.YtlnilfcjcoclhaaGreatDoor
open Go.RowKit

/-- the number that the first k digits tell -/
def numN (s : ByteArray) : Nat → Nat
  | 0 => 0
  | k + 1 => 10 * numN s k + (sb s k - 48)
/-- a text of a number -/
def isNum (s : ByteArray) : Prop := 1 ≤ s.size ∧ s.size ≤ 10 ∧ (∀ k, k < s.size → 48 ≤ sb s k ∧ sb s k ≤ 57) ∧ (s.size = 1 ∨ sb s 0 ≠ 48)
theorem numN_lt (s : ByteArray) (h : isNum s) : ∀ k, k ≤ 10 → k ≤ s.size → numN s k < 10 ^ k
  | 0, _, _ => by simp [numN]
  | k + 1, hk, hs => by
    have h1 := numN_lt s h k (by omega) (by omega)
    have h2 := h.2.2.1 k (by omega)
    rw [numN, Nat.pow_succ]; omega
set_option maxRecDepth 100000 in
theorem nread_yes {g : Nat} {a b c : Int} (s : ByteArray) {w : World} (hk : KH.Blk w g 68 #[.int .i64 a, .int .i64 b, .int .i64 c]) (hs : isNum s) (hn : numN s s.size ≤ 1000000000) :
    Calls Tryz.prog 24 #[.pointer (some ⟨g, 0, none⟩), .string s] w fun e w' => e = .returned (.bool true) ∧ (w.setCell ⟨g, 1, none⟩ (.int .i64 (numN s s.size : Nat))).setCell ⟨g, 2, none⟩ (.int .i64 (numN s s.size : Nat)) = w' := by
  have f0 : w.cell? ⟨g, 1, none⟩ = some (.int .i64 b) := hk.cell 1
  have f1 : w.cell? ⟨g, 2, none⟩ = some (.int .i64 c) := hk.cell 2
  have f2 : w.frozen? ⟨g, 1, none⟩ = false := hk.frozen 1
  have f3 : w.frozen? ⟨g, 2, none⟩ = false := hk.frozen 2
  have HS := KH.hid (And.intro hs hn)
  obtain ⟨h1, h2, h3, h4⟩ := hs
  have h9 : s.size ≤ 9223372036854775807 := by omega
  have d1 : decide ((s.size : Int) < 1) = false := by rw [decide_eq_false_iff_not]; omega
  have d2 : decide ((10 : Int) < (s.size : Int)) = false := by rw [decide_eq_false_iff_not]; omega
  have h00 : 0 < s.size := by omega
  have k00 : (0 : Int) < (s.size : Int) := by omega
  have e0 : (s[0]'h00).toNat = sb s 0 := sb_get s 0 h00
  clear h3 hn hk
  by_cases h5 : s.size = 1
  · have d3 : decide ((1 : Int) < (s.size : Int)) = false := by rw [decide_eq_false_iff_not]; omega
    clear h5 h4
    go_enter Tryz.func24, Tryz.ntmps24
    go_wp2
    clear e0 k00
    go_loopw [5, 6, 27] (fun v _ i wr => ∃ k : Nat, k ≤ s.size ∧ i = .int .i64 k ∧ v = .int .i64 (numN s k : Nat) ∧ w = wr) (fun _ _ i _ => s.size - (intOf i).toNat)
    case atStart => exact ⟨0, Nat.zero_le _, rfl, rfl, rfl⟩
    case round =>
      obtain ⟨k, hk, rfl, rfl, rfl⟩ := hrel
      by_cases hlt : k < s.size
      · have hsk := HS.out.1.2.2.1 k hlt
        have hnl := numN_lt s HS.out.1 k (by omega) hk
        have hp10 : 10 ^ k ≤ 10 ^ 9 := Nat.pow_le_pow_right (by omega) (by omega)
        obtain ⟨d, hd⟩ : ∃ d, sb s k = d + 48 := ⟨sb s k - 48, by omega⟩
        have hd9 : d ≤ 9 := by omega
        have hst : Hid (numN s (k + 1) = 10 * numN s k + d) := KH.hid (by rw [numN, hd]; omega)
        have ek : (s[k]'hlt).toNat = d + 48 := (sb_get s k hlt).trans hd
        have k0 : (0 : Int) ≤ (k : Int) := by omega
        have k1 : (k : Int) < (s.size : Int) := by omega
        have hnb : numN s k ≤ 1000000000 := by omega
        generalize numN s k = x at *
        clear hsk hd hnl hp10
        go_wp2
        go_roundw
        case rel => exact ⟨k + 1, by omega, by go_num, by rw [hst.out]; simp, by first | rfl | trivial⟩
        case measure => simp [intOf]; omega
      · obtain rfl : k = s.size := by omega
        have hb : numN s s.size ≤ 1000000000 := HS.out.2
        have d9 : decide ((1000000000 : Int) < (numN s s.size : Nat)) = false := by rw [decide_eq_false_iff_not]; omega
        obtain ⟨x, hx⟩ : ∃ x, numN s s.size = x := ⟨_, rfl⟩
        rw [hx] at hb d9
        have HX := KH.hid hx
        rw [hx]
        clear hx
        go_wp2
        go_ret
        rw [HX.out]
        exact ⟨rfl, rfl⟩
  · have d3 : decide ((1 : Int) < (s.size : Int)) = true := by rw [decide_eq_true_iff]; omega
    have d4 : ((sb s 0 : Int) == 48) = false := by
      rw [beq_eq_false_iff_ne]
      intro e
      rcases h4 with h | h
      · exact h5 h
      · exact h (by omega)
    clear h5 h4
    go_enter Tryz.func24, Tryz.ntmps24
    go_wp2
    clear e0 k00
    go_loopw [5, 6, 27] (fun v _ i wr => ∃ k : Nat, k ≤ s.size ∧ i = .int .i64 k ∧ v = .int .i64 (numN s k : Nat) ∧ w = wr) (fun _ _ i _ => s.size - (intOf i).toNat)
    case atStart => exact ⟨0, Nat.zero_le _, rfl, rfl, rfl⟩
    case round =>
      obtain ⟨k, hk, rfl, rfl, rfl⟩ := hrel
      by_cases hlt : k < s.size
      · have hsk := HS.out.1.2.2.1 k hlt
        have hnl := numN_lt s HS.out.1 k (by omega) hk
        have hp10 : 10 ^ k ≤ 10 ^ 9 := Nat.pow_le_pow_right (by omega) (by omega)
        obtain ⟨d, hd⟩ : ∃ d, sb s k = d + 48 := ⟨sb s k - 48, by omega⟩
        have hd9 : d ≤ 9 := by omega
        have hst : Hid (numN s (k + 1) = 10 * numN s k + d) := KH.hid (by rw [numN, hd]; omega)
        have ek : (s[k]'hlt).toNat = d + 48 := (sb_get s k hlt).trans hd
        have k0 : (0 : Int) ≤ (k : Int) := by omega
        have k1 : (k : Int) < (s.size : Int) := by omega
        have hnb : numN s k ≤ 1000000000 := by omega
        generalize numN s k = x at *
        clear hsk hd hnl hp10
        go_wp2
        go_roundw
        case rel => exact ⟨k + 1, by omega, by go_num, by rw [hst.out]; simp, by first | rfl | trivial⟩
        case measure => simp [intOf]; omega
      · obtain rfl : k = s.size := by omega
        have hb : numN s s.size ≤ 1000000000 := HS.out.2
        have d9 : decide ((1000000000 : Int) < (numN s s.size : Nat)) = false := by rw [decide_eq_false_iff_not]; omega
        obtain ⟨x, hx⟩ : ∃ x, numN s s.size = x := ⟨_, rfl⟩
        rw [hx] at hb d9
        have HX := KH.hid hx
        rw [hx]
        clear hx
        go_wp2
        go_ret
        rw [HX.out]
        exact ⟨rfl, rfl⟩
end Go.Proofs.YtlnilfcjcoclhaaGreatDoor
/- Package nonce: Open. -/
namespace Go.Proofs.YtlnilfcjcoclhaaGreatDoor
open Go.RowKit

theorem load_src {fn : Func} {p u : Nat} {tmps : Array Value} {w : World} {h : Nat} {x y z : Value} {k : Int}
    (hr : fn.results = #[.cell p 37, .tmp u]) (hp : tmps.getD p undef = .pointer (some ⟨h, 0, none⟩)) (hu : tmps.getD u undef = .int .i64 k)
    (h0 : w.cell? ⟨h, 0, none⟩ = some x) (h1 : w.cell? ⟨h, 1, none⟩ = some y) (h2 : w.cell? ⟨h, 2, none⟩ = some z) : (results fn tmps).run Tryz.prog w = .ok (.tuple #[.agg #[x, y, z], .int .i64 k]) w := by
  rw [Array.getD_eq_getD_getElem?] at hp hu
  simp [results, hr, hp, hu, go_sem, h0, h1, h2]
theorem ret_src {fn : Func} {p u : Nat} {a : Act} {w w0 : World} {h : Nat} {x0 y0 z0 x y z : Value} {k : Int}
    (hr : fn.results = #[.cell p 37, .tmp u]) (hp : a.tmps.getD p undef = .pointer (some ⟨h, 0, none⟩)) (hu : a.tmps.getD u undef = .int .i64 k) (hd : a.defers = [])
    (hk : KH.Blk w h 37 #[x0, y0, z0]) (hB : Below w0.heap.size w0 w) (hh : w0.heap.size ≤ h) :
    bodyPost Tryz.prog fn (fun e w' => e = .returned (.tuple #[.agg #[x, y, z], .int .i64 k]) ∧ Below w0.heap.size w0 w') .ret a (((w.setCell ⟨h, 0, none⟩ x).setCell ⟨h, 1, none⟩ y).setCell ⟨h, 2, none⟩ z) := by
  have h2 := ((hk.set_ 0 x).set_ 1 y).set_ 2 z
  refine bodyPost_ret (v := .tuple #[.agg #[x, y, z], .int .i64 k]) (load_src hr hp hu ?_ ?_ ?_) hd ⟨rfl, ((hB.setCell (p := ⟨h, 0, none⟩) hh x).setCell (p := ⟨h, 1, none⟩) hh y).setCell (p := ⟨h, 2, none⟩) hh z⟩
  · have := h2.cell 0; simpa using this
  · have := h2.cell 1; simpa using this
  · have := h2.cell 2; simpa using this

set_option maxRecDepth 100000 in
theorem nopen_none {v : Value} {S : List ByteArray} {w : World} {lo : Nat} (h : PlIn w lo v S []) (hp : pOk S []) (hm : S.getD 0 ⟨#[]⟩ = ⟨#[]⟩) :
    Calls Tryz.prog 10 #[v, .int .i64 0] w fun e w' => e = .returned (.tuple #[.agg #[.int .i64 0, .int .i64 0, .int .i64 0], .int .i64 0]) ∧ Below w.heap.size w w' := by
  have h0 := h
  obtain ⟨A1, c1, A2, c2, rfl, -, -, -, -⟩ := h
  have hb1 := ((Below.refl w.heap.size w).alloc (Nat.le_refl _) (.cells #[.slice A1 S.length c1, .slice A2 0 c2] 35)).alloc (by simp) (.cells #[.int .i64 0, .int .i64 0, .int .i64 0] 37)
  have h1 := h0.below hb1
  have hk2 := blk1 w (.cells #[.slice A1 S.length c1, .slice A2 0 c2] 35) 37 #[.int .i64 0, .int .i64 0, .int .i64 0]
  have HH := KH.hid (And.intro h1 (And.intro hp (show readV S [] 0 = ⟨#[]⟩ from hm)))
  clear h0 h1 hp hm
  go_enter Tryz.func10, Tryz.ntmps10
  go_wp2_with fail
  generalize ((w.alloc (.cells #[.slice A1 S.length c1, .slice A2 0 c2] 35)).alloc (.cells #[.int .i64 0, .int .i64 0, .int .i64 0] 37)) = w1 at *
  refine (get_none HH.out.1 HH.out.2.1 HH.out.2.2).mono ?_; rintro e w2 ⟨rfl, hb2⟩
  have j2 := hk2.below hb2 hk2.lt
  have hs2 := hb2.size
  have e1 : ∀ o, (w2.alloc o).cell? ⟨w.heap.size + 1, 0, none⟩ = some (.int .i64 0) := fun o => (j2.alloc o).cell 0
  have e2 : ∀ o, (w2.alloc o).cell? ⟨w.heap.size + 1, 1, none⟩ = some (.int .i64 0) := fun o => (j2.alloc o).cell 1
  have e3 : ∀ o, (w2.alloc o).cell? ⟨w.heap.size + 1, 2, none⟩ = some (.int .i64 0) := fun o => (j2.alloc o).cell 2
  have e4 : ∀ o, (w2.alloc o).frozen? ⟨w.heap.size + 1, 0, none⟩ = false := fun o => (j2.alloc o).frozen 0
  have e5 : ∀ o, (w2.alloc o).frozen? ⟨w.heap.size + 1, 1, none⟩ = false := fun o => (j2.alloc o).frozen 1
  have e6 : ∀ o, (w2.alloc o).frozen? ⟨w.heap.size + 1, 2, none⟩ = false := fun o => (j2.alloc o).frozen 2
  have hz := hb1.size
  have hz2 := hk2.lt
  go_wp2_with fail
  exact ret_src Tryz.results10 rfl rfl rfl (j2.alloc _) ((hb1.trans (hb2.mono hz)).alloc (by omega) _) (by omega)

set_option maxRecDepth 100000 in
theorem nopen_zero {v : Value} {S : List ByteArray} {w : World} {lo L : Nat} {o : ByteArray} (h : PlIn w lo v S []) (hp : pOk S []) (h3 : 3 ≤ S.length) (hm : S.getD 0 ⟨#[]⟩ = ⟨#[48]⟩) (ho : S.getD 1 ⟨#[]⟩ = o) (hn : isNum o) (hL : numN o o.size = L) (hL9 : L ≤ 1000000000) :
    Calls Tryz.prog 10 #[v, .int .i64 0] w fun e w' => e = .returned (.tuple #[.agg #[.int .i64 0, .int .i64 L, .int .i64 L], .int .i64 0]) ∧ Below w.heap.size w w' := by
  have h0 := h
  obtain ⟨A1, c1, A2, c2, rfl, -, -, -, -⟩ := h
  have hb1 := ((Below.refl w.heap.size w).alloc (Nat.le_refl _) (.cells #[.slice A1 S.length c1, .slice A2 0 c2] 35)).alloc (by simp) (.cells #[.int .i64 0, .int .i64 0, .int .i64 0] 37)
  have h1 := h0.below hb1
  have hk2 := blk1 w (.cells #[.slice A1 S.length c1, .slice A2 0 c2] 35) 37 #[.int .i64 0, .int .i64 0, .int .i64 0]
  have HH := KH.hid (And.intro h1 (And.intro hp (And.intro (show readV S [] 0 = ⟨#[48]⟩ from hm) (And.intro (show readV S [] 1 = o from ho) (And.intro hn (And.intro hL hL9))))))
  clear h0 h1 hp hm ho hn hL hL9
  go_enter Tryz.func10, Tryz.ntmps10
  go_wp2_with fail
  generalize ((w.alloc (.cells #[.slice A1 S.length c1, .slice A2 0 c2] 35)).alloc (.cells #[.int .i64 0, .int .i64 0, .int .i64 0] 37)) = w1 at *
  refine (get_zero HH.out.1 HH.out.2.1 h3 HH.out.2.2.1 HH.out.2.2.2.1).mono ?_; rintro e w2 ⟨rfl, hb2⟩
  have j2 := hk2.below hb2 hk2.lt
  have hs2 := hb2.size
  have e1 : ∀ o, (w2.alloc o).cell? ⟨w.heap.size + 1, 0, none⟩ = some (.int .i64 0) := fun o => (j2.alloc o).cell 0
  have e2 : ∀ o, (w2.alloc o).cell? ⟨w.heap.size + 1, 1, none⟩ = some (.int .i64 0) := fun o => (j2.alloc o).cell 1
  have e3 : ∀ o, (w2.alloc o).cell? ⟨w.heap.size + 1, 2, none⟩ = some (.int .i64 0) := fun o => (j2.alloc o).cell 2
  have e4 : ∀ o, (w2.alloc o).frozen? ⟨w.heap.size + 1, 0, none⟩ = false := fun o => (j2.alloc o).frozen 0
  have e5 : ∀ o, (w2.alloc o).frozen? ⟨w.heap.size + 1, 1, none⟩ = false := fun o => (j2.alloc o).frozen 1
  have e6 : ∀ o, (w2.alloc o).frozen? ⟨w.heap.size + 1, 2, none⟩ = false := fun o => (j2.alloc o).frozen 2
  have hz := hb1.size
  have hz2 := hk2.lt
  have hkn := KH.Blk.new w2 68 #[.int .i64 0, .int .i64 0, .int .i64 0]
  go_wp2_with (go_at_call 24; refine (nread_yes o hkn HH.out.2.2.2.2.1 (by rw [HH.out.2.2.2.2.2.1]; exact HH.out.2.2.2.2.2.2)).mono ?_; rw [HH.out.2.2.2.2.2.1]; rintro e w3 ⟨rfl, rfl⟩)
  exact ret_src Tryz.results10 rfl rfl rfl (j2.alloc _) ((hb1.trans (hb2.mono hz)).alloc (by omega) _) (by omega)

set_option maxRecDepth 100000 in
theorem nopen_one {v : Value} {S : List ByteArray} {w : World} {lo L : Nat} {o : ByteArray} (h : PlIn w lo v S []) (hp : pOk S []) (h3 : 3 ≤ S.length) (hm : S.getD 0 ⟨#[]⟩ = ⟨#[49]⟩) (ho : S.getD 2 ⟨#[]⟩ = o) (hn : isNum o) (hL : numN o o.size = L) (hL9 : L ≤ 1000000000) :
    Calls Tryz.prog 10 #[v, .int .i64 0] w fun e w' => e = .returned (.tuple #[.agg #[.int .i64 0, .int .i64 L, .int .i64 L], .int .i64 0]) ∧ Below w.heap.size w w' := by
  have h0 := h
  obtain ⟨A1, c1, A2, c2, rfl, -, -, -, -⟩ := h
  have hb1 := ((Below.refl w.heap.size w).alloc (Nat.le_refl _) (.cells #[.slice A1 S.length c1, .slice A2 0 c2] 35)).alloc (by simp) (.cells #[.int .i64 0, .int .i64 0, .int .i64 0] 37)
  have h1 := h0.below hb1
  have hk2 := blk1 w (.cells #[.slice A1 S.length c1, .slice A2 0 c2] 35) 37 #[.int .i64 0, .int .i64 0, .int .i64 0]
  have HH := KH.hid (And.intro h1 (And.intro hp (And.intro (show readV S [] 0 = ⟨#[49]⟩ from hm) (And.intro (show readV S [] 2 = o from ho) (And.intro hn (And.intro hL hL9))))))
  clear h0 h1 hp hm ho hn hL hL9
  go_enter Tryz.func10, Tryz.ntmps10
  go_wp2_with fail
  generalize ((w.alloc (.cells #[.slice A1 S.length c1, .slice A2 0 c2] 35)).alloc (.cells #[.int .i64 0, .int .i64 0, .int .i64 0] 37)) = w1 at *
  refine (get_one HH.out.1 HH.out.2.1 h3 HH.out.2.2.1 HH.out.2.2.2.1).mono ?_; rintro e w2 ⟨rfl, hb2⟩
  have j2 := hk2.below hb2 hk2.lt
  have hs2 := hb2.size
  have e1 : ∀ o, (w2.alloc o).cell? ⟨w.heap.size + 1, 0, none⟩ = some (.int .i64 0) := fun o => (j2.alloc o).cell 0
  have e2 : ∀ o, (w2.alloc o).cell? ⟨w.heap.size + 1, 1, none⟩ = some (.int .i64 0) := fun o => (j2.alloc o).cell 1
  have e3 : ∀ o, (w2.alloc o).cell? ⟨w.heap.size + 1, 2, none⟩ = some (.int .i64 0) := fun o => (j2.alloc o).cell 2
  have e4 : ∀ o, (w2.alloc o).frozen? ⟨w.heap.size + 1, 0, none⟩ = false := fun o => (j2.alloc o).frozen 0
  have e5 : ∀ o, (w2.alloc o).frozen? ⟨w.heap.size + 1, 1, none⟩ = false := fun o => (j2.alloc o).frozen 1
  have e6 : ∀ o, (w2.alloc o).frozen? ⟨w.heap.size + 1, 2, none⟩ = false := fun o => (j2.alloc o).frozen 2
  have hz := hb1.size
  have hz2 := hk2.lt
  have hkn := KH.Blk.new w2 68 #[.int .i64 0, .int .i64 0, .int .i64 0]
  go_wp2_with (go_at_call 24; refine (nread_yes o hkn HH.out.2.2.2.2.1 (by rw [HH.out.2.2.2.2.2.1]; exact HH.out.2.2.2.2.2.2)).mono ?_; rw [HH.out.2.2.2.2.2.1]; rintro e w3 ⟨rfl, rfl⟩)
  exact ret_src Tryz.results10 rfl rfl rfl (j2.alloc _) ((hb1.trans (hb2.mono hz)).alloc (by omega) _) (by omega)
end Go.Proofs.YtlnilfcjcoclhaaGreatDoor
/- Package nonce: copied. -/
namespace Go.Proofs.YtlnilfcjcoclhaaGreatDoor
open Go.RowKit

set_option maxRecDepth 100000 in
theorem ncopied_any {v : Value} {S : List ByteArray} {C : List (Int × ByteArray)} {w : World} {lo : Nat} (h : PlIn w lo v S C) (hp : pOk S C) :
    Calls Tryz.prog 59 #[v] w fun e w' => ∃ v', e = .returned v' ∧ PlIn w' w.heap.size v' S C ∧ Below w.heap.size w w' := by
  obtain ⟨A1, c1, A2, c2, rfl, -, -, hS, hC⟩ := h
  have hn1 := hp.len.1
  have hn2 := hp.len.2
  have h1 := hp.1
  obtain ⟨i0, hi, hz0, hz1, hz2⟩ := info_parts str_info
  obtain ⟨i1, hi1, hy0, hy1, hy2⟩ := info_parts put_info
  have hb1 := ((Below.refl w.heap.size w).alloc (Nat.le_refl _) (.cells #[.slice A1 S.length c1, .slice A2 C.length c2] 35)).alloc (by simp) (.cells #[.slice none 0 0, .slice none 0 0] 35)
  have hS1 := hS.below hb1
  have hC1 := KH.Reads.below hC hb1
  have hk1 := (KH.Blk.new w 35 #[.slice A1 S.length c1, .slice A2 C.length c2]).alloc (.cells #[.slice none 0 0, .slice none 0 0] 35)
  have hk2 := blk1 w (.cells #[.slice A1 S.length c1, .slice A2 C.length c2] 35) 35 #[.slice none 0 0, .slice none 0 0]
  have hW0 : ((w.alloc (.cells #[.slice A1 S.length c1, .slice A2 C.length c2] 35)).alloc (.cells #[.slice none 0 0, .slice none 0 0] 35)).heap.size = w.heap.size + 2 := by simp
  have h1c1 : ∀ u ∈ S.map Value.string, u.oneCell' = true := by intro u hu; obtain ⟨b, _, rfl⟩ := List.mem_map.1 hu; rfl
  have h2c1 : ∀ u ∈ shC C, u.oneCell' = true := by
    intro u hu; unfold shC at hu; obtain ⟨b, _, hb⟩ := List.mem_flatMap.1 hu
    simp at hb; rcases hb with rfl | rfl <;> rfl
  have hz : w.heap.size ≤ w.heap.size := Nat.le_refl _
  clear hS hC hp
  go_enter Tryz.func59, Tryz.ntmps59
  go_wp2
  generalize ((w.alloc (.cells #[.slice A1 S.length c1, .slice A2 C.length c2] 35)).alloc (.cells #[.slice none 0 0, .slice none 0 0] 35)) = w1 at *
  have hB1 : w.heap.size ≤ w1.heap.size := by omega
  go_region_held3 (fun w' => w'.cell? ⟨w.heap.size, 0, none⟩ = some (.slice A1 S.length c1) ∧ w'.cell? ⟨w.heap.size, 1, none⟩ = some (.slice A2 C.length c2) ∧ w'.cell? ⟨w.heap.size + 1, 0, none⟩ = some (valAt w' (w.heap.size + 1) 0) ∧ w'.cell? ⟨w.heap.size + 1, 1, none⟩ = some (valAt w' (w.heap.size + 1) 1) ∧ w'.frozen? ⟨w.heap.size + 1, 0, none⟩ = false ∧ w'.frozen? ⟨w.heap.size + 1, 1, none⟩ = false ∧ (Below (w.heap.size + 1) w1 w' ∧ ∃ a b, KH.Blk w' (w.heap.size + 1) 35 #[a, b])) (first | exact copT_start hk1 ⟨_, _, hk2⟩ | exact copT_grown (by assumption) (by assumption) hk1 | exact copT_set (by assumption) hk1) (first
    | (refine KH.step_append_any _ (by rfl) _ _ _ (by rfl) w.heap.size 9 i0 _ 1 16 Tryz.underlying30 hi hz0 hz1 hz2 rfl (by omega) (.slice none 0 0) 0 [] (by rfl) ⟨by simp, .inl ⟨rfl, rfl⟩⟩ w.heap.size A1 S.length c1 _ (by rfl) (hS1.below (copT_b (x := .slice A1 S.length c1) (y := .slice A2 C.length c2) (by assumption))) h1c1 (by unfold maxLen; omega) (by omega) (Nat.le_trans hB1 (copT_b (x := .slice A1 S.length c1) (y := .slice A2 C.length c2) (by assumption)).size) ?_; intro vs ws hown1 hgrow1 hlies1; obtain ⟨As, cs, rfl⟩ := KH.own_form hown1)
    | (refine KH.step_append_any _ (by rfl) _ _ _ (by rfl) w.heap.size 122 i1 _ 2 24 Tryz.underlying33 hi1 hy0 hy1 hy2 rfl (by omega) (.slice none 0 0) 0 [] (by rfl) ⟨by simp, .inl ⟨rfl, rfl⟩⟩ w.heap.size A2 C.length c2 _ (by rfl) (KH.Reads.below hC1 (copT_b (x := .slice A1 S.length c1) (y := .slice A2 C.length c2) (by assumption))) h2c1 (by unfold maxLen; omega) (by omega) (Nat.le_trans hB1 (copT_b (x := .slice A1 S.length c1) (y := .slice A2 C.length c2) (by assumption)).size) ?_; intro vc wc hown2 hgrow2 hlies2; obtain ⟨Ac, cc, rfl⟩ := KH.own_form hown2))
  go_wp2
  simp only [Nat.zero_add, List.nil_append] at hown1 hown2
  have hbA := (Below.refl ws.heap.size ws).grown hgrow2 (Nat.le_refl _) (fun _ h => by cases h)
  have hbS := ((Below.refl w1.heap.size w1).drew.grown hgrow1 (Nat.le_refl _) (fun _ h => by cases h))
  have hbW : Below w1.heap.size w1 wc := hbS.trans (hbA.mono hbS.size)
  have o1 := KH.own_below hown1 hbA
  have kw := hk2.below hbW hk2.lt
  exact ret_pl1 Tryz.results59 rfl rfl kw o1 hown2 (hb1.trans (hbW.mono hB1)) (by omega)
end Go.Proofs.YtlnilfcjcoclhaaGreatDoor
/- Package nonce: text, right. -/
namespace Go.Proofs.YtlnilfcjcoclhaaGreatDoor
open Go.RowKit

/-- the table of powers lies as it is listed -/
def PowAt (w : World) : Prop := Lib.TabIs Tryz.prog w "internal/strconv.uint64pow10" IntKind.u64 Lib.pow10Tab
theorem gPow : Tryz.prog.globalNamed "internal/strconv.uint64pow10" = some 2 := by kernel_rfl
theorem PowAt.below {w w' : World} {B : Nat} (h : PowAt w) (hb : Below B w w') (hB : 2 < B) : PowAt w' := by
  unfold PowAt Lib.TabIs World.var? at *
  rw [gPow] at *
  simp only [Option.bind_some] at *
  rw [hb.block _ hB]
  exact h
/-- the text of a number -/
def itoV (n : Nat) : ByteArray := ⟨(Lib.itoa n).toArray⟩
set_option maxRecDepth 100000 in
theorem ntext_any {g L : Nat} {a b : Value} {w : World} (hk : KH.Blk w g 68 #[a, b, .int .i64 L]) (hL : L ≤ 1000000000) (hP : PowAt w) :
    Calls Tryz.prog 60 #[.pointer (some ⟨g, 0, none⟩)] w fun e w' => e = .returned (.string (itoV (L + 16))) ∧ Below w.heap.size w w' := by
  have f0 : w.cell? ⟨g, 2, none⟩ = some (.int .i64 L) := hk.cell 2
  go_enter Tryz.func60, Tryz.ntmps60
  go_wp2_with (go_at_call 82; refine (Tryz.strconv_Itoa ((L : Int) + 16) (by omega) (by omega) _ hP).mono ?_; rintro e w2 ⟨rfl, k, os, rfl⟩)
  go_ret
  exact ⟨rfl, Lib.below_grow _ _ (Nat.le_refl _) _ _⟩
set_option maxRecDepth 100000 in
theorem nright_any {g N L : Nat} {a : Value} {w : World} (hk : KH.Blk w g 68 #[a, .int .i64 N, .int .i64 L]) (hN : N ≤ L) (hL : L ≤ 1000000000) :
    Calls Tryz.prog 58 #[.pointer (some ⟨g, 0, none⟩)] w fun e w' => e = .returned (.bool true) ∧ ∃ q, w' = w.drewN q := by
  have f0 : w.cell? ⟨g, 1, none⟩ = some (.int .i64 N) := hk.cell 1
  have f1 : w.cell? ⟨g, 2, none⟩ = some (.int .i64 L) := hk.cell 2
  have d1 : decide ((0 : Int) ≤ (N : Int)) = true := by rw [decide_eq_true_iff]; omega
  have d2 : decide ((N : Int) ≤ (L : Int)) = true := by rw [decide_eq_true_iff]; omega
  have d2' : decide (N ≤ L) = true := by rw [decide_eq_true_iff]; omega
  have d3 : decide ((L : Int) ≤ 1000000000) = true := by rw [decide_eq_true_iff]; omega
  go_enter Tryz.func58, Tryz.ntmps58
  go_wp2
  go_quiet (fail)
  go_wp2
  go_ret
  exact ⟨rfl, _, rfl⟩
end Go.Proofs.YtlnilfcjcoclhaaGreatDoor
