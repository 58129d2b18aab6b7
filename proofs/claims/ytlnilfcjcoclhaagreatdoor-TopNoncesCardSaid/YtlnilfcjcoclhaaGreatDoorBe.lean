import Derived.Test.YtlnilfcjcoclhaaGreatDoorBd
import Derived.RangeFuncNested
import Derived.RangeFuncBound
import Derived.RangeFuncCalls
import Derived.RangeFuncLeaves
import Derived.RangeFuncFrom
import Derived.Shelf.Abstract
import Derived.Shelf.RegionOpen
import Derived.WalkKit
import Derived.OwnWalkIn
import Derived.TacticsInMore
import Derived.LoopNIn
import Derived.LoopIn
/- The walks of digest.Pad, digest.Start, digest.blocks. -/
namespace Go.Proofs.YtlnilfcjcoclhaaGreatDoor
open Go.RowKit

/-- how many zeros are laid behind a text of n bytes -/
def padZ (n : Nat) : Nat := (119 - n % 64) % 64
def padF (n o : Nat) : Nat := if o = 0 then 128 else if o < 1 + padZ n then 0 else (8 * n / 2 ^ (56 - 8 * (o - (1 + padZ n)))) % 256
theorem padF_lt (n o : Nat) : padF n o < 256 := by
  unfold padF; split
  · omega
  · split
    · omega
    · exact Nat.mod_lt _ (by omega)
def padV (n : Nat) : ByteArray := tx (1 + padZ n + 8) (padF n)

def lenOf : Value → Nat
  | .slice _ n _ => n
  | _ => 0
set_option maxHeartbeats 1000000 in
set_option maxRecDepth 100000 in
theorem pad_yes (n : Nat) (w : World) (hn : n ≤ 1000000) :
    Calls Tryz.prog 121 #[.int .i64 n] w fun e w' => e = .returned (.tuple #[.string (padV n), .bool true]) ∧ Below w.heap.size w w' := by
  obtain ⟨i1, hi1, hy0, hy1, hy2⟩ := info_parts byte_info
  have hz : padZ n < 64 := Nat.mod_lt _ (by omega)
  have hown0 : (w.alloc (.cells #[.int .u8 128] 5)).ownsRow w.heap.size 5 1 (.slice (some ⟨w.heap.size, 0, none⟩) 1 1) (1 + 0) (bl (1 + 0) (padF n)) :=
    World.ownsRow_lit (base := w.heap.size) (size := 1) w #[.int .u8 128] 1 (e := 5) (Nat.le_refl _) (by unfold maxLen; omega) rfl
  have hb0 := (Below.refl w.heap.size w).alloc (Nat.le_refl _) (.cells #[.int .u8 128] 5)
  go_enter Tryz.func121, Tryz.ntmps121
  go_wp2
  go_loopw [4] (fun v wr => ∃ k : Nat, k ≤ padZ n ∧ wr.ownsRow w.heap.size 5 1 v (1 + k) (bl (1 + k) (padF n)) ∧ Below w.heap.size w wr) (fun v _ => padZ n + 1 - lenOf v)
  case atStart => exact ⟨0, Nat.zero_le _, hown0, hb0⟩
  case round =>
    obtain ⟨k, hk, hown, hb⟩ := hrel
    clear hown0 hb0
    have hsz := hb.size
    obtain ⟨g, cp, rfl, hg, hg'⟩ := hown.form (by omega)
    by_cases hlt : k < padZ n
    · have hne : (((n : Int) + (1 + (k : Int)) + 8) % 64 != 0) = true := by
        have : padZ n = (119 - n % 64) % 64 := rfl
        simp; omega
      have HS : Hid (bl (1 + (k + 1)) (padF n) = bl (1 + k) (padF n) ++ [.int .u8 0]) := by
        unfold Hid
        rw [show 1 + (k + 1) = (1 + k) + 1 by omega, bl_snoc]
        have : padF n (1 + k) = 0 := by unfold padF; rw [if_neg (by omega), if_pos (by omega)]
        rw [this]; rfl
      go_wp2_with (at_builtin; refine KH.wpList_append_one rfl (.tmp 20) (.tmp 21) 84 rfl w.heap.size 5 i1 _ 1 Tryz.underlying84 hi1 hy0 hy1 hy2 rfl _ (1 + k) _ rfl (hown.alloc _) wr.heap.size 1 (.int .u8 0) rfl ?c1 rfl ?c3 ?c4 ?c5 ?_)
      first | (case c1 => simp) | skip
      case c3 => unfold maxLen; omega
      case c4 => omega
      case c5 => first | omega | (simp; omega)
      intro v1 w1' hown1 hb1
      have hb2 := (hb.alloc hsz (.cells #[.int .u8 0] 5)).trans hb1
      clear hown hb
      go_wp2
      go_roundw
      case rel => exact ⟨k + 1, by omega, by rw [HS.out]; exact hown1, hb2⟩
      case measure =>
        obtain ⟨g1, cp1, rfl, _, _⟩ := hown1.form (by omega)
        simp [lenOf]; omega
    · have hkz : k = padZ n := by omega
      have hne : (((n : Int) + (1 + (k : Int)) + 8) % 64 != 0) = false := by
        have : padZ n = (119 - n % 64) % 64 := rfl
        simp; omega
      have HKZ := KH.hid hkz
      clear hkz
      have hown5 : wr.ownsRow w.heap.size 5 1 (.slice (some ⟨g, 0, none⟩) (1 + k) cp) (1 + k + 0) (bl (1 + k + 0) (padF n)) := hown
      clear hown
      go_wp2
      go_loopw [4, 23] (fun v t wr => ∃ i : Nat, i ≤ 8 ∧ t = .int .i64 i ∧ wr.ownsRow w.heap.size 5 1 v (1 + k + i) (bl (1 + k + i) (padF n)) ∧ Below w.heap.size w wr) (fun _ t _ => 8 - (intOf t).toNat)
      case atStart => exact ⟨0, Nat.zero_le _, rfl, hown5, hb⟩
      case round =>
        obtain ⟨i, hi, rfl, hown, hb⟩ := hrel
        clear hown5
        have hsz := hb.size
        by_cases hil : i < 8
        · have hm0 : (56 : Int) - 8 * (i : Int) = ((56 - 8 * i : Nat) : Int) := by omega
          have HS : Hid (bl (1 + k + (i + 1)) (padF n) = bl (1 + k + i) (padF n) ++ [.int .u8 ((8 * n / 2 ^ (56 - 8 * i)) % 256 : Nat)]) := by
            unfold Hid
            rw [show 1 + k + (i + 1) = (1 + k + i) + 1 by omega, bl_snoc]
            have : padF n (1 + k + i) = (8 * n / 2 ^ (56 - 8 * i)) % 256 := by
              unfold padF
              rw [if_neg (by omega), if_neg (by have := HKZ.out; omega), show 1 + k + i - (1 + padZ n) = i by have := HKZ.out; omega]
            rw [this]
          generalize hm : 56 - 8 * i = m at *
          have hm56 : m ≤ 56 := by omega
          clear hm
          have hval : (8 * (n : Int) / 2 ^ m) % 256 = ((8 * n / 2 ^ m % 256 : Nat) : Int) := by simp
          generalize 8 * n / 2 ^ m % 256 = y at *
          have hk64 : k ≤ 64 := by omega
          go_wp2_with (at_builtin; refine KH.wpList_append_one rfl (.tmp 26) (.tmp 34) 84 rfl w.heap.size 5 i1 _ 1 Tryz.underlying84 hi1 hy0 hy1 hy2 rfl _ (1 + k + i) _ rfl (hown.alloc _) wr.heap.size 1 (.int .u8 y) rfl ?d1 rfl ?d3 ?d4 ?d5 ?_)
          first | (case d1 => simp) | skip
          case d3 => unfold maxLen; omega
          case d4 => omega
          case d5 => first | omega | (simp; omega)
          intro v1 w1' hown1 hb1
          have hb2 := (hb.alloc hsz (.cells #[.int .u8 y] 5)).trans hb1
          clear hown hb hval
          go_wp2
          go_roundw
          case rel => exact ⟨i + 1, by omega, by go_num, by rw [HS.out]; exact hown1, hb2⟩
          case measure => simp [intOf]; omega
        · obtain rfl : i = 8 := by omega
          have HV : Hid (padV n = tx (1 + k + 8) (padF n)) := by unfold Hid padV; rw [HKZ.out]
          rw [bl_map] at hown
          have hback := conv_own hown
          have HTX : Hid (strOfNums ((List.range (1 + k + 8)).map fun o => ((padF n o : Nat) : Int)) = padV n) := HV.out.symm
          rw [HTX.out] at hback
          obtain ⟨A', c', rfl⟩ := KH.own_form hown
          clear hown
          have d8 : decide (((8 : Nat) : Int) < 8) = false := by decide
          go_wp2
          go_ret2
          exact ⟨rfl, hb⟩

def startV : Nat → Nat
  | 0 => 0x6a09e667
  | 1 => 0xbb67ae85
  | 2 => 0x3c6ef372
  | 3 => 0xa54ff53a
  | 4 => 0x510e527f
  | 5 => 0x9b05688c
  | 6 => 0x1f83d9ab
  | 7 => 0x5be0cd19
  | _ => 0
theorem startV_arr : (#[.int .i64 1779033703, .int .i64 3144134277, .int .i64 1013904242, .int .i64 2773480762, .int .i64 1359893119, .int .i64 2600822924, .int .i64 528734635, .int .i64 1541459225] : Array Value) = (bzW 8 startV).toArray := by kernel_rfl
set_option maxRecDepth 100000 in
theorem start_yes (w : World) : Calls Tryz.prog 122 #[] w fun e w' => e = .returned (.agg (bzW 8 startV).toArray) ∧ Below w.heap.size w w' := by
  go_enter Tryz.func122, Tryz.ntmps122
  go_wp2
  exact bodyPost_ret (v := .agg #[.int .i64 1779033703, .int .i64 3144134277, .int .i64 1013904242, .int .i64 2773480762, .int .i64 1359893119, .int .i64 2600822924, .int .i64 528734635, .int .i64 1541459225]) (by simp [results, Tryz.results122, go_sem]) rfl ⟨by rw [startV_arr], (Below.refl _ _).alloc (Nat.le_refl _) _⟩

set_option maxRecDepth 100000 in
theorem blocks_yes (s t : ByteArray) (w : World) : Calls Tryz.prog 123 #[.string s, .string t] w fun e w' => e = .returned (.func (.func 132) #[] #[.pointer (some ⟨w.heap.size, 0, none⟩), .pointer (some ⟨w.heap.size + 1, 0, none⟩)]) ∧ w' = (w.alloc (.cells #[.string s] 9)).alloc (.cells #[.string t] 9) := by
  go_enter Tryz.func123, Tryz.ntmps123
  go_wp2
  go_ret
  exact ⟨rfl, rfl⟩
end Go.Proofs.YtlnilfcjcoclhaaGreatDoor
/- The walks of digest.blocks' iterator and of digest.Sum. -/
namespace Go.Proofs.YtlnilfcjcoclhaaGreatDoor
open Go.RowKit Go.Shelf
attribute [local go_sem] Oper.semAt_some

/-- a block of 64 bytes -/
abbrev B64 := { b : ByteArray // b.size = 64 }
def z64B : B64 := ⟨tx 64 fun _ => 0, tx_size _ _⟩
def mkB (b : ByteArray) : B64 := if h : b.size = 64 then ⟨b, h⟩ else z64B
theorem mkB_val {b : ByteArray} (h : b.size = 64) : (mkB b).1 = b := by unfold mkB; rw [dif_pos h]
theorem str_none {v : ByteArray} (h : v.size = 0) : v.toList.isEmpty = true := by
  have : v = ⟨#[]⟩ := by
    obtain ⟨d⟩ := v
    have : d = #[] := Array.eq_empty_of_size_eq_zero h
    rw [this]
  rw [this]; decide +kernel
theorem str_some {v : ByteArray} (h : 0 < v.size) : v.toList.isEmpty = false := by
  rw [List.isEmpty_eq_false_iff]
  intro e
  have hne := bytes_ne (b := v) (b' := ⟨#[]⟩) (fun e => by rw [e] at h; exact absurd h (by decide))
  rw [e] at hne
  revert hne
  decide +kernel
/-- what is left of a text behind k blocks -/
def r1 (u : ByteArray) : Nat → ByteArray
  | 0 => u
  | k + 1 => (r1 u k).extract 64 (r1 u k).size
theorem r1_size (u : ByteArray) (k : Nat) : (r1 u k).size = u.size - 64 * k := by
  induction k with
  | zero => rfl
  | succ k ih => unfold r1; rw [ByteArray.size_extract, Nat.min_self, ih]; omega
theorem r1_block {u : ByteArray} {k : Nat} (h : 64 * (k + 1) ≤ u.size) : ((r1 u k).extract 0 64).size = 64 := by
  rw [ByteArray.size_extract, r1_size]; omega
/-- the first k blocks -/
def blkS (u : ByteArray) (k : Nat) : List B64 := (List.range k).map fun i => mkB ((r1 u i).extract 0 64)
theorem blkS_snoc (u : ByteArray) (k : Nat) : blkS u (k + 1) = blkS u k ++ [mkB ((r1 u k).extract 0 64)] := by
  unfold blkS; rw [List.range_succ, List.map_append]; rfl
theorem blkS_length (u : ByteArray) (k : Nat) : (blkS u k).length = k := by simp [blkS]
/-- what comes behind the whole blocks -/
def restR (s t : ByteArray) : ByteArray := r1 s (s.size / 64) ++ t
theorem restR_size (s t : ByteArray) : (restR s t).size = s.size % 64 + t.size := by
  unfold restR; rw [ByteArray.size_append, r1_size]; omega
/-- all blocks -/
def allB64 (s t : ByteArray) : List B64 := blkS s (s.size / 64) ++ blkS (restR s t) ((restR s t).size / 64)
/-- what a round leaves as it lay: a box -/
def KpB (b2 : Nat) (W W' : World) : Prop := W'.cell? ⟨b2, 0, none⟩ = W.cell? ⟨b2, 0, none⟩

set_option maxHeartbeats 2000000 in
set_option maxRecDepth 100000 in
theorem blocks_stops (F : Fence) (n : Nat) (h53 : F.fn 132) (hro : F.round = none) (hn : 1 ≤ n) (b1 b2 : Nat) (s t : ByteArray) (w : World) (hb1 : b1 < w.heap.size) (hb2 : b2 < w.heap.size)
    (hc1 : w.cell? ⟨b1, 0, none⟩ = some (.string s)) (hc2 : w.cell? ⟨b2, 0, none⟩ = some (.string t)) (hs : s.size ≤ 1000000) (ht : t.size ≤ 1000) (hd : (s.size + t.size) % 64 = 0) :
    SeqStopsK F n Tryz.prog 132 #[.pointer (some ⟨b1, 0, none⟩), .pointer (some ⟨b2, 0, none⟩)] (fun x : B64 => #[Value.string x.1]) (KpB b2) (fun xs => xs = allB64 s t) (fun _ => True) (allB64 s t).length w := fun l J Jx W hW hJ hJx hY h0 => by
  have hd1 := (hW.cell (p := ⟨b1, 0, none⟩) hb1).trans hc1
  have hd2 := (hW.cell (p := ⟨b2, 0, none⟩) hb2).trans hc2
  have HY := KH.hid hY
  have HN : Hid ((allB64 s t).length = s.size / 64 + (restR s t).size / 64) := by unfold Hid allB64; rw [List.length_append, blkS_length, blkS_length]
  have HR : Hid ((restR s t).size = s.size % 64 + t.size) := restR_size s t
  have HD := KH.hid hd
  clear hY hW hJ hJx hd
  refine callsIn_of_wp Tryz.func132 rfl h53 ?_ hro
  simp only [Tryz.ntmps132, List.size_toArray, List.length_cons, List.length_nil, Nat.reduceAdd, Nat.reduceSub, Array.replicate_succ, Array.replicate_zero, List.push_toArray, List.append_toArray, List.nil_append, List.cons_append]
  gi_wp2
  gi_loopw [4] (fun r wr => ∃ j : Nat, j ≤ s.size / 64 ∧ r = .string (r1 s j) ∧ J (blkS s j) wr ∧ wr.cell? ⟨b2, 0, none⟩ = some (.string t)) (fun r _ => (strOf r).size)
  case atStart => exact ⟨0, Nat.zero_le _, rfl, h0, hd2⟩
  case round =>
    obtain ⟨j, hj, rfl, hJj, hdb⟩ := hrel
    clear h0 hd1 hd2
    have hsz := r1_size s j
    have HSZ := KH.hid hsz
    by_cases hlt : j < s.size / 64
    · have hle : 64 ≤ (r1 s j).size := by omega
      have hbk := r1_block (u := s) (k := j) (by omega)
      obtain ⟨fn, tmps, assign, body, hy, hR⟩ := HY.out (blkS s j) (mkB ((r1 s j).extract 0 64)) wr hJj (by rw [blkS_length, HN.out]; omega)
      rw [mkB_val hbk] at hy
      rw [← blkS_snoc] at hR
      have hnx : r1 s (j + 1) = (r1 s j).extract 64 (r1 s j).size := rfl
      have HNX := KH.hid hnx
      have hm : (r1 s (j + 1)).size < (r1 s j).size := by rw [r1_size, r1_size]; omega
      have hb9 : (r1 s j).size ≤ 1000000 := by omega
      clear hsz hnx hbk
      generalize hu : r1 s j = u at *
      clear hu
      have hd : decide ((64 : Int) ≤ (u.size : Int)) = true := by rw [decide_eq_true_iff]; omega
      gi_wp2
      refine hR.mono ?_
      rintro e W1 (⟨rfl, hJ1, hk1⟩ | ⟨rfl, hx1⟩)
      · have hdb1 : W1.cell? ⟨b2, 0, none⟩ = some (.string t) := Eq.trans hk1 hdb
        gi_wp2
        exact ⟨⟨j + 1, by omega, by rw [HNX.out], hJ1, hdb1⟩, by rw [HNX.out] at hm; exact hm⟩
      · gi_wp2
        refine bodyPost_ret (results_none rfl _ _ _) rfl ?_
        exact ⟨⟨_, rfl⟩, .inr ⟨_, trivial, hx1⟩⟩
    · obtain rfl : j = s.size / 64 := by omega
      have hJ0 : J (blkS s (s.size / 64) ++ blkS (restR s t) 0) wr := by
        show J (blkS s (s.size / 64) ++ []) wr
        rw [List.append_nil]; exact hJj
      have hrR : restR s t = r1 s (s.size / 64) ++ t := rfl
      have HRR := KH.hid hrR
      have hle : (r1 s (s.size / 64)).size < 64 := by omega
      clear hrR hsz hJj
      have HQ : Hid (allB64 s t = blkS s (s.size / 64) ++ blkS (restR s t) ((restR s t).size / 64)) := rfl
      generalize blkS s (s.size / 64) = P1 at *
      have HP1 : Hid (P1.length + (restR s t).size / 64 = (allB64 s t).length) := by unfold Hid; rw [HQ.out, List.length_append, blkS_length]
      have HRZ : Hid ((restR s t).size % 64 = 0 ∧ (restR s t).size ≤ 2000000) := by unfold Hid; rw [HR.out]; have := HD.out; omega
      generalize hu : r1 s (s.size / 64) = u at *
      clear hu
      have hd : decide ((64 : Int) ≤ (u.size : Int)) = false := by rw [decide_eq_false_iff_not]; omega
      have hcat : u.size + t.size ≤ 9223372036854775807 := by omega
      gi_wp2
      rw [← HRR.out]
      gi_loopw [4] (fun r wr => ∃ k : Nat, k ≤ (restR s t).size / 64 ∧ r = .string (r1 (restR s t) k) ∧ J (P1 ++ blkS (restR s t) k) wr) (fun r _ => (strOf r).size)
      case atStart => exact ⟨0, Nat.zero_le _, rfl, hJ0⟩
      case round =>
        obtain ⟨k, hk, rfl, hJk⟩ := hrel
        clear hJ0
        have hsz := r1_size (restR s t) k
        have HSZ := KH.hid hsz
        by_cases hlt : k < (restR s t).size / 64
        · have hle : 64 ≤ (r1 (restR s t) k).size := by omega
          have hbk := r1_block (u := restR s t) (k := k) (by omega)
          obtain ⟨fn, tmps, assign, body, hy, hR⟩ := HY.out (P1 ++ blkS (restR s t) k) (mkB ((r1 (restR s t) k).extract 0 64)) wr hJk (by rw [List.length_append, blkS_length]; have := HP1.out; omega)
          rw [mkB_val hbk] at hy
          rw [List.append_assoc, ← blkS_snoc] at hR
          have hnx : r1 (restR s t) (k + 1) = (r1 (restR s t) k).extract 64 (r1 (restR s t) k).size := rfl
          have HNX := KH.hid hnx
          have hm : (r1 (restR s t) (k + 1)).size < (r1 (restR s t) k).size := by rw [r1_size, r1_size]; omega
          clear hsz hnx hbk
          generalize hv : r1 (restR s t) k = v at *
          clear hv
          have he1 : v.toList.isEmpty = false := str_some (by omega)
          gi_wp2
          refine hR.mono ?_
          rintro e W1 (⟨rfl, hJ1, hk1⟩ | ⟨rfl, hx1⟩)
          · gi_wp2
            exact ⟨⟨k + 1, by omega, by rw [HNX.out], hJ1⟩, by rw [HNX.out] at hm; exact hm⟩
          · gi_wp2
            refine bodyPost_ret (results_none rfl _ _ _) rfl ?_
            exact ⟨⟨_, rfl⟩, .inr ⟨_, trivial, hx1⟩⟩
        · obtain rfl : k = (restR s t).size / 64 := by omega
          have he0 : (r1 (restR s t) ((restR s t).size / 64)).size = 0 := by have := HRZ.out.1; omega
          have he1 : (r1 (restR s t) ((restR s t).size / 64)).toList.isEmpty = true := str_none he0
          rw [← HQ.out] at hJk
          clear hsz
          generalize r1 (restR s t) ((restR s t).size / 64) = v at *
          gi_wp2
          go_end0
          exact ⟨⟨_, rfl⟩, .inl ⟨_, rfl, hJk⟩⟩
end Go.Proofs.YtlnilfcjcoclhaaGreatDoor
/- The walk of digest.Sum. -/
namespace Go.Proofs.YtlnilfcjcoclhaaGreatDoor
open Go.RowKit Go.Shelf
attribute [local go_sem] Oper.semAt_some

abbrev startL : Array Value := #[.int .i64 1779033703, .int .i64 3144134277, .int .i64 1013904242, .int .i64 2773480762, .int .i64 1359893119, .int .i64 2600822924, .int .i64 528734635, .int .i64 1541459225]
theorem start_lit (w : World) : Calls Tryz.prog 122 #[] w fun e w' => e = .returned (.agg startL) ∧ Below w.heap.size w w' := by
  refine (start_yes w).mono fun e w' ⟨he, hb⟩ => ⟨?_, hb⟩
  rw [he, ← startV_arr]
/-- the state behind blocks -/
def stF (K : Nat → Nat) (pre : List B64) : Nat → Nat := pre.foldl (fun st (x : B64) => stepV K st x.1) startV
theorem stF_snoc (K : Nat → Nat) (pre : List B64) (x : B64) : stF K (pre ++ [x]) = stepV K (stF K pre) x.1 := by unfold stF; rw [List.foldl_append]; rfl
theorem startV_lt : W8 startV := by
  intro j hj
  match j, hj with
  | 0, _ => decide
  | 1, _ => decide
  | 2, _ => decide
  | 3, _ => decide
  | 4, _ => decide
  | 5, _ => decide
  | 6, _ => decide
  | 7, _ => decide
theorem stF_lt (K : Nat → Nat) (pre : List B64) : W8 (stF K pre) := by
  rcases List.eq_nil_or_concat pre with rfl | ⟨p, x, rfl⟩
  · exact startV_lt
  · rw [List.concat_eq_append, stF_snoc]; exact stepV_lt _ _ _
def L8 (s : Nat → Nat) : List Nat := [s 0, s 1, s 2, s 3, s 4, s 5, s 6, s 7]
/-- the digest of a text -/
def sumV (K : Nat → Nat) (s : ByteArray) : ByteArray := joV true (L8 (stF K (allB64 s (padV s.size))))
theorem sumV_size (K : Nat → Nat) (s : ByteArray) : (sumV K s).size = 32 := by unfold sumV; rw [joV_size]; rfl
theorem padV_size (n : Nat) : (padV n).size = 1 + padZ n + 8 := tx_size _ _
theorem pad_fits (n : Nat) : (n + (padV n).size) % 64 = 0 := by rw [padV_size]; unfold padZ; omega

theorem rounds_below {K : Nat → Nat} {B : Nat} {w w' : World} (h : RoundsAt K w) (hb : Below B w w') (hB : 1 < B) : RoundsAt K w' :=
  ⟨Nat.lt_of_lt_of_le h.1 hb.size, fun i hi => ⟨(hb.cell (p := ⟨1, i, none⟩) hB).trans (h.2 i hi).1, (h.2 i hi).2⟩⟩
theorem keeps_of_below {W W' : World} (h : Below W.heap.size W W') : KeepsOthers W W' :=
  ⟨h.size, fun k _ ho _ => (h.block k (Array.getElem?_eq_some_iff.1 ho).1).trans ho⟩
theorem set8 {W : World} {g : Nat} {t : TypeId} {s : Nat → Nat} (h : KH.Blk W g t (S8 s)) (v : Nat → Nat) :
    KH.Blk ((((((((W.setCell ⟨g, 0, none⟩ (.int .i64 (v 0 : Nat))).setCell ⟨g, 1, none⟩ (.int .i64 (v 1 : Nat))).setCell ⟨g, 2, none⟩ (.int .i64 (v 2 : Nat))).setCell ⟨g, 3, none⟩ (.int .i64 (v 3 : Nat))).setCell ⟨g, 4, none⟩ (.int .i64 (v 4 : Nat))).setCell ⟨g, 5, none⟩ (.int .i64 (v 5 : Nat))).setCell ⟨g, 6, none⟩ (.int .i64 (v 6 : Nat))).setCell ⟨g, 7, none⟩ (.int .i64 (v 7 : Nat))) g t (S8 v) ∧ KeepsOthers W ((((((((W.setCell ⟨g, 0, none⟩ (.int .i64 (v 0 : Nat))).setCell ⟨g, 1, none⟩ (.int .i64 (v 1 : Nat))).setCell ⟨g, 2, none⟩ (.int .i64 (v 2 : Nat))).setCell ⟨g, 3, none⟩ (.int .i64 (v 3 : Nat))).setCell ⟨g, 4, none⟩ (.int .i64 (v 4 : Nat))).setCell ⟨g, 5, none⟩ (.int .i64 (v 5 : Nat))).setCell ⟨g, 6, none⟩ (.int .i64 (v 6 : Nat))).setCell ⟨g, 7, none⟩ (.int .i64 (v 7 : Nat))) ∧ (∀ B, B ≤ g → Below B W ((((((((W.setCell ⟨g, 0, none⟩ (.int .i64 (v 0 : Nat))).setCell ⟨g, 1, none⟩ (.int .i64 (v 1 : Nat))).setCell ⟨g, 2, none⟩ (.int .i64 (v 2 : Nat))).setCell ⟨g, 3, none⟩ (.int .i64 (v 3 : Nat))).setCell ⟨g, 4, none⟩ (.int .i64 (v 4 : Nat))).setCell ⟨g, 5, none⟩ (.int .i64 (v 5 : Nat))).setCell ⟨g, 6, none⟩ (.int .i64 (v 6 : Nat))).setCell ⟨g, 7, none⟩ (.int .i64 (v 7 : Nat)))) ∧ (∀ p : Addr, p.block ≠ g → (((((((((W.setCell ⟨g, 0, none⟩ (.int .i64 (v 0 : Nat))).setCell ⟨g, 1, none⟩ (.int .i64 (v 1 : Nat))).setCell ⟨g, 2, none⟩ (.int .i64 (v 2 : Nat))).setCell ⟨g, 3, none⟩ (.int .i64 (v 3 : Nat))).setCell ⟨g, 4, none⟩ (.int .i64 (v 4 : Nat))).setCell ⟨g, 5, none⟩ (.int .i64 (v 5 : Nat))).setCell ⟨g, 6, none⟩ (.int .i64 (v 6 : Nat))).setCell ⟨g, 7, none⟩ (.int .i64 (v 7 : Nat)))).cell? p = W.cell? p) := by
  have h8 := (KH.Blk.set_ (KH.Blk.set_ (KH.Blk.set_ (KH.Blk.set_ (KH.Blk.set_ (KH.Blk.set_ (KH.Blk.set_ (KH.Blk.set_ h 0 (.int .i64 (v 0 : Nat))) 1 (.int .i64 (v 1 : Nat))) 2 (.int .i64 (v 2 : Nat))) 3 (.int .i64 (v 3 : Nat))) 4 (.int .i64 (v 4 : Nat))) 5 (.int .i64 (v 5 : Nat))) 6 (.int .i64 (v 6 : Nat))) 7 (.int .i64 (v 7 : Nat)))
  simp only [S8, List.setIfInBounds_toArray, List.set_cons_zero, List.set_cons_succ] at h8
  refine ⟨h8, ((((((((KeepsOthers.refl W).trans (KeepsOthers.setCell _ _ _)).trans (KeepsOthers.setCell _ _ _)).trans (KeepsOthers.setCell _ _ _)).trans (KeepsOthers.setCell _ _ _)).trans (KeepsOthers.setCell _ _ _)).trans (KeepsOthers.setCell _ _ _)).trans (KeepsOthers.setCell _ _ _)).trans (KeepsOthers.setCell _ _ _), fun B hB => ((((((((Below.refl B W).setCell (p := ⟨g, 0, none⟩) hB _).setCell (p := ⟨g, 1, none⟩) hB _).setCell (p := ⟨g, 2, none⟩) hB _).setCell (p := ⟨g, 3, none⟩) hB _).setCell (p := ⟨g, 4, none⟩) hB _).setCell (p := ⟨g, 5, none⟩) hB _).setCell (p := ⟨g, 6, none⟩) hB _).setCell (p := ⟨g, 7, none⟩) hB _, fun p hp => ?_⟩
  repeat rw [World.cell?_setCell_other _ _ _ _ (fun e => hp (by rw [← e]))]
/-- what the rounds keep -/
def SumI (K : Nat → Nat) (gS : Nat) (w : World) (pre : List B64) (W : World) : Prop := KH.Blk W gS 189 (S8 (stF K pre)) ∧ RoundsAt K W ∧ Below w.heap.size w W ∧ gS + 3 ≤ W.heap.size
theorem sumI_own (K : Nat → Nat) (gS : Nat) (w : World) (B : Nat) (hB : w.heap.size ≤ B) : OwnFrom B (SumI K gS w) := by
  intro s A A' row hs hg hr
  have hr' : ∀ r, row = some r → ∃ o : Obj, A.heap[r]? = some o ∧ o.isCells = false := fun r e => (hr r e).2
  refine ⟨hs.1.grown hg (fun e => ?_), ⟨Nat.lt_of_lt_of_le hs.2.1.1 hg.size, fun i hi => ⟨cell_kept (hs.2.1.2 i hi).1 hg hr', (hs.2.1.2 i hi).2⟩⟩, hs.2.2.1.grown hg hs.2.2.1.size (fun k e => Nat.le_trans hB (hr k e).1), Nat.le_trans hs.2.2.2 hg.size⟩
  obtain ⟨_, o, ho, hc⟩ := hr gS e.symm
  have h1 := hs.1
  unfold KH.Blk at h1
  rw [h1] at ho
  injection ho with ho
  rw [← ho] at hc
  exact absurd hc (by simp [Obj.isCells])
set_option maxHeartbeats 2000000 in
set_option maxRecDepth 100000 in
theorem dsum_any (K : Nat → Nat) (s : ByteArray) (w : World) (hK : RoundsAt K w) (hs : s.size ≤ 900000) :
    Calls Tryz.prog 104 #[.string s] w fun e w' => e = .returned (.string (sumV K s)) ∧ Below w.heap.size w w' := by
  refine (callsIn_wide (n := 5)).1 ?_
  refine callsIn_of_wp_marks Tryz.func104 rfl trivial ?_ rfl
  simp only [Tryz.ntmps104, List.size_toArray, List.length_cons, List.length_nil, Nat.reduceAdd, Nat.reduceSub, Array.replicate_succ, Array.replicate_zero, List.push_toArray, List.append_toArray, List.nil_append, List.cons_append]
  gi_wp2_with (first
    | (refine ⟨trivial, ?_⟩; gi_at_call 121; refine (callsIn_wide.2 (pad_yes s.size _ (by omega))).mono ?_; rintro e w1 ⟨rfl, hb1⟩)
    | (refine ⟨trivial, ?_⟩; gi_at_call 122; refine (callsIn_wide.2 (start_lit _)).mono ?_; rintro e w2 ⟨rfl, hb2⟩)
    | (refine ⟨trivial, ?_⟩; gi_at_call 123; refine (callsIn_wide.2 (blocks_yes _ _ _)).mono ?_; rintro e w3 ⟨rfl, rfl⟩))
  have hz2 : w.heap.size ≤ w2.heap.size := Nat.le_trans hb1.size hb2.size
  have hW0 : KH.Blk (((w2.alloc (.cells startL 189)).alloc (.cells #[.string s] 9)).alloc (.cells #[.string (padV s.size)] 9)) w2.heap.size 189 (S8 (stF K [])) := by
    have h1 := ((KH.Blk.new w2 189 startL).alloc (.cells #[.string s] 9)).alloc (.cells #[.string (padV s.size)] 9)
    have e : startL = S8 (stF K []) := startV_arr
    rw [e] at h1 ⊢
    exact h1
  have hc1 : (((w2.alloc (.cells startL 189)).alloc (.cells #[.string s] 9)).alloc (.cells #[.string (padV s.size)] 9)).cell? ⟨w2.heap.size + 1, 0, none⟩ = some (.string s) := by
    rw [World.cell?_alloc_lt _ _ _ (by show w2.heap.size + 1 < _; simp), World.cell?_alloc_at _ _ _ _ (by simp)]; rfl
  have hc2 : (((w2.alloc (.cells startL 189)).alloc (.cells #[.string s] 9)).alloc (.cells #[.string (padV s.size)] 9)).cell? ⟨w2.heap.size + 1 + 1, 0, none⟩ = some (.string (padV s.size)) := by
    rw [World.cell?_alloc_at _ _ _ _ (by simp)]; rfl
  have hB3 : Below w.heap.size w (((w2.alloc (.cells startL 189)).alloc (.cells #[.string s] 9)).alloc (.cells #[.string (padV s.size)] 9)) :=
    (((hb1.trans (hb2.mono hb1.size)).alloc hz2 (.cells startL 189)).alloc (by simp; omega) (.cells #[.string s] 9)).alloc (by simp; omega) (.cells #[.string (padV s.size)] 9)
  have hz3 : w2.heap.size + 3 ≤ (((w2.alloc (.cells startL 189)).alloc (.cells #[.string s] 9)).alloc (.cells #[.string (padV s.size)] 9)).heap.size := by simp
  have hp := padV_size s.size
  have hpz : padZ s.size < 64 := Nat.mod_lt _ (by omega)
  have hK0 := hK.1
  generalize (((w2.alloc (.cells startL 189)).alloc (.cells #[.string s] 9)).alloc (.cells #[.string (padV s.size)] 9)) = W3 at *
  have hI0 : SumI K w2.heap.size w [] W3 := ⟨hW0, rounds_below hK hB3 hK0, hB3, hz3⟩
  refine wpIn_rangeFunc_ownF rfl (by omega) (gf := 132) (lb := #[.pointer (some ⟨w2.heap.size + 1, 0, none⟩), .pointer (some ⟨w2.heap.size + 1 + 1, 0, none⟩)]) rfl trivial (enters_of Tryz.func132 (by kernel_rfl) rfl)
    (blocks_stops Fence.wide _ trivial rfl (by omega) (w2.heap.size + 1) (w2.heap.size + 1 + 1) s (padV s.size) W3 (by omega) (by omega) hc1 hc2 (by omega) (by omega) (pad_fits _)) (fun h k => Eq.trans k h) ?hKb (Below.refl _ _) (fun _ => rfl)
    (SumI K w2.heap.size w) (fun _ _ _ => False) (sumI_own K _ w _ (by omega)) (fun _ _ _ _ _ hs _ _ => hs) hI0
    (fun x => { tmps := #[.string s, undef, .string ⟨#[]⟩, .string (padV s.size), .bool true, .pointer (some ⟨w2.heap.size, 0, none⟩), .string x.1, undef, undef, .tuple #[.string (padV s.size), .bool true], .string s, .int .i64 s.size, .tuple #[.string (padV s.size), .bool true], .string (padV s.size), .bool true, .bool true, .bool false, .agg startL, .string s, .string (padV s.size), .func (.func 132) #[] #[.pointer (some ⟨w2.heap.size + 1, 0, none⟩), .pointer (some ⟨w2.heap.size + 1 + 1, 0, none⟩)], .string x.1, undef, undef, undef, undef, undef, undef, undef, undef, undef, undef, undef, undef], defers := [] }) ?assign ?body ?done ?stop
  case hKb =>
    intro W l o o' hl ho hc hw
    exact World.cell?_of_block (World.putObj_heap_other (by show w2.heap.size + 1 + 1 ≠ l; omega))
  case assign =>
    intro l x W K' hK'
    gi_wp2
    exact hK'
  case body =>
    rintro l pre x W ⟨hB, hR, hBl, hz3'⟩ _
    have hst := stF_lt K pre
    have hSt := stF_snoc K pre x
    have HS := KH.hid (And.intro hSt (And.intro hB (And.intro hR hBl)))
    have hw2 : w2.heap.size < W.heap.size := hB.lt
    have hw3 : w2.heap.size + 1 + 1 < W.heap.size := by omega
    have hcell : ∀ j, j < 8 → W.cell? ⟨w2.heap.size, j, none⟩ = some (.int .i64 (stF K pre j : Nat)) := fun j hj => (hB.cell j).trans ((List.getElem?_toArray).trans (bzW_get _ hj))
    have c0 := hcell 0 (by omega)
    have c1 := hcell 1 (by omega)
    have c2 := hcell 2 (by omega)
    have c3 := hcell 3 (by omega)
    have c4 := hcell 4 (by omega)
    have c5 := hcell 5 (by omega)
    have c6 := hcell 6 (by omega)
    have c7 := hcell 7 (by omega)
    have HStep : Hid (Calls Tryz.prog 124 #[.agg #[.int .i64 (stF K pre 0 : Nat), .int .i64 (stF K pre 1 : Nat), .int .i64 (stF K pre 2 : Nat), .int .i64 (stF K pre 3 : Nat), .int .i64 (stF K pre 4 : Nat), .int .i64 (stF K pre 5 : Nat), .int .i64 (stF K pre 6 : Nat), .int .i64 (stF K pre 7 : Nat)], .string x.1] W fun e w' => e = .returned (.tuple #[.agg #[.int .i64 (stepV K (stF K pre) x.1 0 : Nat), .int .i64 (stepV K (stF K pre) x.1 1 : Nat), .int .i64 (stepV K (stF K pre) x.1 2 : Nat), .int .i64 (stepV K (stF K pre) x.1 3 : Nat), .int .i64 (stepV K (stF K pre) x.1 4 : Nat), .int .i64 (stepV K (stF K pre) x.1 5 : Nat), .int .i64 (stepV K (stF K pre) x.1 6 : Nat), .int .i64 (stepV K (stF K pre) x.1 7 : Nat)], .bool true]) ∧ Below W.heap.size W w') := step_yes K (stF K pre) x.1 W hR hst x.2
    clear hcell hst hSt hB hR hBl
    gi_wp2_with (refine ⟨trivial, ?_⟩; gi_at_call 124; refine (CallsIn.inRound l (callsIn_wide.2 HStep.out)).mono ?_; rintro e W1 ⟨rfl, hb1⟩; have hB1 := HS.out.2.1.below hb1 hw2; have d0 := hB1.cell 0; have d1 := hB1.cell 1; have d2 := hB1.cell 2; have d3 := hB1.cell 3; have d4 := hB1.cell 4; have d5 := hB1.cell 5; have d6 := hB1.cell 6; have d7 := hB1.cell 7; have g0 := hB1.frozen 0; have g1 := hB1.frozen 1; have g2 := hB1.frozen 2; have g3 := hB1.frozen 3; have g4 := hB1.frozen 4; have g5 := hB1.frozen 5; have g6 := hB1.frozen 6; have g7 := hB1.frozen 7; simp only [S8, List.getElem?_toArray, List.getElem?_cons_zero, List.getElem?_cons_succ] at d0 d1 d2 d3 d4 d5 d6 d7)
    have hB1 := HS.out.2.1.below hb1 hw2
    obtain ⟨s1, s2, s3, s4⟩ := set8 hB1 (stepV K (stF K pre) x.1)
    have hz1 := hb1.size
    have hwb : w.heap.size ≤ W.heap.size := HS.out.2.2.2.size
    refine ⟨(keeps_of_below hb1).trans s2, ?_, ?_, ?_, ?_, ?_⟩
    · exact (s4 ⟨w2.heap.size + 1 + 1, 0, none⟩ (by show w2.heap.size + 1 + 1 ≠ w2.heap.size; omega)).trans (hb1.cell (p := ⟨w2.heap.size + 1 + 1, 0, none⟩) hw3)
    · rw [HS.out.1]; exact s1
    · exact rounds_below (rounds_below HS.out.2.2.1 hb1 (by omega)) (s3 w2.heap.size (Nat.le_refl _)) (by omega)
    · exact (HS.out.2.2.2.trans (hb1.mono hwb)).trans (s3 w.heap.size hz2)
    · exact Nat.le_trans (by omega) (s3 w.heap.size hz2).size
  case done =>
    rintro D xs W hD rfl ⟨hB, hR, hBl, hz3'⟩ hKD
    have hrd : KH.Reads W W.heap.size 1 (some ⟨w2.heap.size, 0, none⟩) 8 ((zi (L8 (stF K (allB64 s (padV s.size))))).map (.int .i64)) :=
      ⟨rfl, fun _ => ⟨_, rfl, hB.lt, fun j u hu => by rw [addr_at, hB.cell j]; exact (List.getElem?_toArray).trans hu⟩⟩
    have hlt := stF_lt K (allB64 s (padV s.size))
    have hL : ∀ x ∈ L8 (stF K (allB64 s (padV s.size))), x < 4294967296 := by
      intro x hx; unfold L8 at hx; simp at hx; rcases hx with rfl | rfl | rfl | rfl | rfl | rfl | rfl | rfl <;> exact hlt _ (by omega)
    have HJ := KH.hid (fun c => join_yes c hrd hL (by omega))
    have hsz := hBl.size
    have HV : Hid (joV true (L8 (stF K (allB64 s (padV s.size)))) = sumV K s) := rfl
    rw [HV.out] at HJ
    clear hrd hlt hL hB hR
    gi_wp2_with (refine ⟨trivial, ?_⟩; gi_at_call 47; refine (callsIn_wide.2 (HJ.out _)).mono ?_; rintro e W9 ⟨rfl, hb9⟩)
    have hDlt : D < W.heap.size := (Array.getElem?_eq_some_iff.1 hKD).1
    have hK9 : W9.heap[D]? = some (.deferred (some [])) := (hb9.block D hDlt).trans hKD
    refine ⟨by simp, .inl ⟨_, _, rfl, run_takeDeferred hK9, ?_⟩⟩
    refine ⟨_, results_tmp rfl _ _ _, rfl, ?_⟩
    exact (hBl.trans (hb9.mono hsz)).trans (belowK_b (n₀ := w.heap.size) (w := w) (Nat.le_refl _) W9 D _ _ (by have := hB3.size; omega) hK9 rfl rfl)
  case stop =>
    rintro D c pre W _ _ h _
    exact h.elim
end Go.Proofs.YtlnilfcjcoclhaaGreatDoor
