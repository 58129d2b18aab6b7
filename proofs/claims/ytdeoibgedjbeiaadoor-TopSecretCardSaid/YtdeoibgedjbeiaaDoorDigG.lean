/- The walks of digest.blocks' iterator and of digest.Sum. -/
import Derived.Test.YtdeoibgedjbeiaaDoorDigE
import Derived.Test.YtdeoibgedjbeiaaDoorDigF
import Derived.RangeFuncNested
import Derived.RangeFuncBound
import Derived.RangeFuncCalls
import Derived.RangeFuncLeaves
import Derived.RangeFuncFrom
import Derived.Shelf.Abstract
import Derived.Shelf.RegionOpen
import Derived.WalkKit
import Derived.OwnWalkIn
import Derived.TacticsInMore
import Derived.LoopNIn
import Derived.LoopIn
namespace Go.Proofs.YtdeoibgedjbeiaaDoor
open Go.RowKit Go.Shelf
attribute [local go_sem] Oper.semAt_some

/-- a block of 64 bytes -/
abbrev B64 := { b : ByteArray // b.size = 64 }
def z64B : B64 := ⟨tx 64 fun _ => 0, tx_size _ _⟩
def mkB (b : ByteArray) : B64 := if h : b.size = 64 then ⟨b, h⟩ else z64B
theorem mkB_val {b : ByteArray} (h : b.size = 64) : (mkB b).1 = b := by unfold mkB; rw [dif_pos h]
theorem str_none {v : ByteArray} (h : v.size = 0) : v.toList.isEmpty = true := by
  have : v = ⟨#[]⟩ := by
    obtain ⟨d⟩ := v
    have : d = #[] := Array.eq_empty_of_size_eq_zero h
    rw [this]
  rw [this]; decide +kernel
theorem str_some {v : ByteArray} (h : 0 < v.size) : v.toList.isEmpty = false := by
  rw [List.isEmpty_eq_false_iff]
  intro e
  have hne := bytes_ne (b := v) (b' := ⟨#[]⟩) (fun e => by rw [e] at h; exact absurd h (by decide))
  rw [e] at hne
  revert hne
  decide +kernel
/-- what is left of a text behind k blocks -/
def r1 (u : ByteArray) : Nat → ByteArray
  | 0 => u
  | k + 1 => (r1 u k).extract 64 (r1 u k).size
theorem r1_size (u : ByteArray) (k : Nat) : (r1 u k).size = u.size - 64 * k := by
  induction k with
  | zero => rfl
  | succ k ih => unfold r1; rw [ByteArray.size_extract, Nat.min_self, ih]; omega
theorem r1_block {u : ByteArray} {k : Nat} (h : 64 * (k + 1) ≤ u.size) : ((r1 u k).extract 0 64).size = 64 := by
  rw [ByteArray.size_extract, r1_size]; omega
/-- the first k blocks -/
def blkS (u : ByteArray) (k : Nat) : List B64 := (List.range k).map fun i => mkB ((r1 u i).extract 0 64)
theorem blkS_snoc (u : ByteArray) (k : Nat) : blkS u (k + 1) = blkS u k ++ [mkB ((r1 u k).extract 0 64)] := by
  unfold blkS; rw [List.range_succ, List.map_append]; rfl
theorem blkS_length (u : ByteArray) (k : Nat) : (blkS u k).length = k := by simp [blkS]
/-- what comes behind the whole blocks -/
def restR (s t : ByteArray) : ByteArray := r1 s (s.size / 64) ++ t
theorem restR_size (s t : ByteArray) : (restR s t).size = s.size % 64 + t.size := by
  unfold restR; rw [ByteArray.size_append, r1_size]; omega
/-- all blocks -/
def allB64 (s t : ByteArray) : List B64 := blkS s (s.size / 64) ++ blkS (restR s t) ((restR s t).size / 64)
/-- what a round leaves as it lay: a box -/
def KpB (b2 : Nat) (W W' : World) : Prop := W'.cell? ⟨b2, 0, none⟩ = W.cell? ⟨b2, 0, none⟩

set_option maxHeartbeats 2000000 in
set_option maxRecDepth 100000 in
theorem blocks_stops (F : Fence) (n : Nat) (h53 : F.fn 53) (hro : F.round = none) (hn : 1 ≤ n) (b1 b2 : Nat) (s t : ByteArray) (w : World) (hb1 : b1 < w.heap.size) (hb2 : b2 < w.heap.size)
    (hc1 : w.cell? ⟨b1, 0, none⟩ = some (.string s)) (hc2 : w.cell? ⟨b2, 0, none⟩ = some (.string t)) (hs : s.size ≤ 1000000) (ht : t.size ≤ 1000) (hd : (s.size + t.size) % 64 = 0) :
    SeqStopsK F n Tryd.prog 53 #[.pointer (some ⟨b1, 0, none⟩), .pointer (some ⟨b2, 0, none⟩)] (fun x : B64 => #[Value.string x.1]) (KpB b2) (fun xs => xs = allB64 s t) (fun _ => True) (allB64 s t).length w := fun l J Jx W hW hJ hJx hY h0 => by
  have hd1 := (hW.cell (p := ⟨b1, 0, none⟩) hb1).trans hc1
  have hd2 := (hW.cell (p := ⟨b2, 0, none⟩) hb2).trans hc2
  have HY := KH.hid hY
  have HN : Hid ((allB64 s t).length = s.size / 64 + (restR s t).size / 64) := by unfold Hid allB64; rw [List.length_append, blkS_length, blkS_length]
  have HR : Hid ((restR s t).size = s.size % 64 + t.size) := restR_size s t
  have HD := KH.hid hd
  clear hY hW hJ hJx hd
  refine callsIn_of_wp Tryd.func53 rfl h53 ?_ hro
  simp only [Tryd.ntmps53, List.size_toArray, List.length_cons, List.length_nil, Nat.reduceAdd, Nat.reduceSub, Array.replicate_succ, Array.replicate_zero, List.push_toArray, List.append_toArray, List.nil_append, List.cons_append]
  gi_wp2
  gi_loopw [4] (fun r wr => ∃ j : Nat, j ≤ s.size / 64 ∧ r = .string (r1 s j) ∧ J (blkS s j) wr ∧ wr.cell? ⟨b2, 0, none⟩ = some (.string t)) (fun r _ => (strOf r).size)
  case atStart => exact ⟨0, Nat.zero_le _, rfl, h0, hd2⟩
  case round =>
    obtain ⟨j, hj, rfl, hJj, hdb⟩ := hrel
    clear h0 hd1 hd2
    have hsz := r1_size s j
    have HSZ := KH.hid hsz
    by_cases hlt : j < s.size / 64
    · have hle : 64 ≤ (r1 s j).size := by omega
      have hbk := r1_block (u := s) (k := j) (by omega)
      obtain ⟨fn, tmps, assign, body, hy, hR⟩ := HY.out (blkS s j) (mkB ((r1 s j).extract 0 64)) wr hJj (by rw [blkS_length, HN.out]; omega)
      rw [mkB_val hbk] at hy
      rw [← blkS_snoc] at hR
      have hnx : r1 s (j + 1) = (r1 s j).extract 64 (r1 s j).size := rfl
      have HNX := KH.hid hnx
      have hm : (r1 s (j + 1)).size < (r1 s j).size := by rw [r1_size, r1_size]; omega
      have hb9 : (r1 s j).size ≤ 1000000 := by omega
      clear hsz hnx hbk
      generalize hu : r1 s j = u at *
      clear hu
      have hd : decide ((64 : Int) ≤ (u.size : Int)) = true := by rw [decide_eq_true_iff]; omega
      gi_wp2
      refine hR.mono ?_
      rintro e W1 (⟨rfl, hJ1, hk1⟩ | ⟨rfl, hx1⟩)
      · have hdb1 : W1.cell? ⟨b2, 0, none⟩ = some (.string t) := Eq.trans hk1 hdb
        gi_wp2
        exact ⟨⟨j + 1, by omega, by rw [HNX.out], hJ1, hdb1⟩, by rw [HNX.out] at hm; exact hm⟩
      · gi_wp2
        refine bodyPost_ret (results_none rfl _ _ _) rfl ?_
        exact ⟨⟨_, rfl⟩, .inr ⟨_, trivial, hx1⟩⟩
    · obtain rfl : j = s.size / 64 := by omega
      have hJ0 : J (blkS s (s.size / 64) ++ blkS (restR s t) 0) wr := by
        show J (blkS s (s.size / 64) ++ []) wr
        rw [List.append_nil]; exact hJj
      have hrR : restR s t = r1 s (s.size / 64) ++ t := rfl
      have HRR := KH.hid hrR
      have hle : (r1 s (s.size / 64)).size < 64 := by omega
      clear hrR hsz hJj
      have HQ : Hid (allB64 s t = blkS s (s.size / 64) ++ blkS (restR s t) ((restR s t).size / 64)) := rfl
      generalize blkS s (s.size / 64) = P1 at *
      have HP1 : Hid (P1.length + (restR s t).size / 64 = (allB64 s t).length) := by unfold Hid; rw [HQ.out, List.length_append, blkS_length]
      have HRZ : Hid ((restR s t).size % 64 = 0 ∧ (restR s t).size ≤ 2000000) := by unfold Hid; rw [HR.out]; have := HD.out; omega
      generalize hu : r1 s (s.size / 64) = u at *
      clear hu
      have hd : decide ((64 : Int) ≤ (u.size : Int)) = false := by rw [decide_eq_false_iff_not]; omega
      have hcat : u.size + t.size ≤ 9223372036854775807 := by omega
      gi_wp2
      rw [← HRR.out]
      gi_loopw [4] (fun r wr => ∃ k : Nat, k ≤ (restR s t).size / 64 ∧ r = .string (r1 (restR s t) k) ∧ J (P1 ++ blkS (restR s t) k) wr) (fun r _ => (strOf r).size)
      case atStart => exact ⟨0, Nat.zero_le _, rfl, hJ0⟩
      case round =>
        obtain ⟨k, hk, rfl, hJk⟩ := hrel
        clear hJ0
        have hsz := r1_size (restR s t) k
        have HSZ := KH.hid hsz
        by_cases hlt : k < (restR s t).size / 64
        · have hle : 64 ≤ (r1 (restR s t) k).size := by omega
          have hbk := r1_block (u := restR s t) (k := k) (by omega)
          obtain ⟨fn, tmps, assign, body, hy, hR⟩ := HY.out (P1 ++ blkS (restR s t) k) (mkB ((r1 (restR s t) k).extract 0 64)) wr hJk (by rw [List.length_append, blkS_length]; have := HP1.out; omega)
          rw [mkB_val hbk] at hy
          rw [List.append_assoc, ← blkS_snoc] at hR
          have hnx : r1 (restR s t) (k + 1) = (r1 (restR s t) k).extract 64 (r1 (restR s t) k).size := rfl
          have HNX := KH.hid hnx
          have hm : (r1 (restR s t) (k + 1)).size < (r1 (restR s t) k).size := by rw [r1_size, r1_size]; omega
          clear hsz hnx hbk
          generalize hv : r1 (restR s t) k = v at *
          clear hv
          have he1 : v.toList.isEmpty = false := str_some (by omega)
          gi_wp2
          refine hR.mono ?_
          rintro e W1 (⟨rfl, hJ1, hk1⟩ | ⟨rfl, hx1⟩)
          · gi_wp2
            exact ⟨⟨k + 1, by omega, by rw [HNX.out], hJ1⟩, by rw [HNX.out] at hm; exact hm⟩
          · gi_wp2
            refine bodyPost_ret (results_none rfl _ _ _) rfl ?_
            exact ⟨⟨_, rfl⟩, .inr ⟨_, trivial, hx1⟩⟩
        · obtain rfl : k = (restR s t).size / 64 := by omega
          have he0 : (r1 (restR s t) ((restR s t).size / 64)).size = 0 := by have := HRZ.out.1; omega
          have he1 : (r1 (restR s t) ((restR s t).size / 64)).toList.isEmpty = true := str_none he0
          rw [← HQ.out] at hJk
          clear hsz
          generalize r1 (restR s t) ((restR s t).size / 64) = v at *
          gi_wp2
          go_end0
          exact ⟨⟨_, rfl⟩, .inl ⟨_, rfl, hJk⟩⟩
end Go.Proofs.YtdeoibgedjbeiaaDoor
