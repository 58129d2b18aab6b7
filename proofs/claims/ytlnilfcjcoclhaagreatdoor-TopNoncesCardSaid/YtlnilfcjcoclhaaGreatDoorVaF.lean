import Derived.Test.YtlnilfcjcoclhaaGreatDoorVaD
import Derived.Test.YtlnilfcjcoclhaaGreatDoorRgA
/- Package vault: the deeds, one by one. -/
namespace Go.Proofs.YtlnilfcjcoclhaaGreatDoor
open Go.RowKit Go.Shelf
attribute [local go_sem] Oper.semAt_some

/-- a deed, by its number and the places of what it lays -/
abbrev DdX := Nat × Nat × Nat
def ddV (n hc : Nat) (x : DdX) : Value := if x.1 < n then .func (.func 56) #[] #[.pointer (some ⟨hc, 0, none⟩), .pointer (some ⟨x.2.1, 0, none⟩), .pointer (some ⟨x.2.2, 0, none⟩)] else .func (.func 46) #[] #[]
def ddE (n hc : Nat) (x : DdX) : Array Value := #[ddV n hc x]
def DdG (n : Nat) (Bl : List ByteArray) (pre : List DdX) (x : DdX) (W : World) : Prop := x.1 = pre.length ∧ (x.1 < n → KH.Blk W x.2.1 3 #[.int .i64 (x.1 : Nat)] ∧ KH.Blk W x.2.2 9 #[.string (Bl.getD x.1 ⟨#[]⟩)])
set_option maxRecDepth 100000 in
theorem deeds_yes (n a g c : Nat) (A : Option Addr) (c2 n2 : Nat) (A2 : Option Addr) (r r2 : ByteArray) (w : World) :
    Calls Tryz.prog 33 #[.agg #[.int .i64 n, .int .i64 a, .int .i64 g, .slice A n c, .string r], .agg #[.slice A2 n2 c2, .string r2]] w fun e w' =>
      e = .returned (.func (.func 55) #[] #[.pointer (some ⟨w.heap.size + 1, 0, none⟩), .pointer (some ⟨w.heap.size, 0, none⟩)]) ∧
        w' = (w.alloc (.cells #[.int .i64 n, .int .i64 a, .int .i64 g, .slice A n c, .string r] 73)).alloc (.cells #[.slice A2 n2 c2, .string r2] 48) := by
  go_enter Tryz.func33, Tryz.ntmps33
  go_wp2
  go_ret
  exact ⟨rfl, rfl⟩
set_option maxHeartbeats 2000000 in
set_option maxRecDepth 100000 in
theorem deeds_seq (F : Fence) (m : Nat) (h53 : F.fn 55) (hro : F.round = none) (hm : 1 ≤ m) (b hv hc n c : Nat) (A : Option Addr) (Bl : List ByteArray) (w : World) (hvl : hv < w.heap.size)
    (hcv : w.cell? ⟨hv, 0, none⟩ = some (.slice A n c)) (hrd : KH.Reads w b 1 A n (Bl.map .string)) (hb : b ≤ w.heap.size) (hn : n ≤ 64) :
    SeqG F m Tryz.prog 55 #[.pointer (some ⟨hv, 0, none⟩), .pointer (some ⟨hc, 0, none⟩)] (ddE n hc) (DdG n Bl) (Below b) (fun xs => xs.length = n + 1) (n + 1) w := fun l J Jx W hW hJ hJx hY h0 => by
  have hd1 : W.cell? ⟨hv, 0, none⟩ = some (.slice A n c) := (hW.cell (p := ⟨hv, 0, none⟩) hvl).trans hcv
  have hr1 := hrd.below (hW.mono hb)
  have hl : Bl.length = n := by have := hrd.1; simpa using this
  have HY := KH.hid hY
  have hbW : b ≤ W.heap.size := Nat.le_trans hb hW.size
  have HJ : Hid (∀ s (A : World) (o : Obj), W.heap.size ≤ A.heap.size → J s A → J s (A.alloc o)) := fun s A o _ hs => hJ s A _ none hs (World.grownBy_alloc A o none) (fun r e => by cases e)
  have HL := KH.hid hl
  clear hY hJ hJx hrd hcv hl
  refine callsIn_of_wp Tryz.func55 rfl h53 ?_ hro
  simp only [Tryz.ntmps55, List.size_toArray, List.length_cons, List.length_nil, Nat.reduceAdd, Nat.reduceSub, Array.replicate_succ, Array.replicate_zero, List.push_toArray, List.append_toArray, List.nil_append, List.cons_append]
  gi_wp2
  have HI0 : Hid (J [] W ∧ KH.Reads W b 1 A n (Bl.map .string) ∧ W.heap.size ≤ W.heap.size) := ⟨h0, hr1, Nat.le_refl _⟩
  clear h0 hr1 hd1
  gi_loopw [4, 5, 6, 10] (fun _ _ _ t wr => ∃ j : Nat, j ≤ n ∧ t = .int .i64 (j : Nat) ∧ Hid ((∃ pre, pre.length = j ∧ J pre wr) ∧ KH.Reads wr b 1 A n (Bl.map .string) ∧ W.heap.size ≤ wr.heap.size)) (fun _ _ _ t _ => n - (intOf t).toNat)
  case atStart => exact ⟨0, Nat.zero_le _, rfl, ⟨[], rfl, HI0.out.1⟩, HI0.out.2.1, HI0.out.2.2⟩
  case round =>
    obtain ⟨j, hj, rfl, hI⟩ := hrel
    clear HI0
    by_cases hlt : j < n
    · obtain ⟨⟨pre, hpl, hJp⟩, hr, hsz⟩ := hI.out
      obtain ⟨ad, u, rfl, hbl, hu, hcc⟩ := hr.at_ hlt
      rw [str_at (by rw [HL.out]; exact hlt)] at hu
      obtain rfl := (Option.some.inj hu).symm
      obtain ⟨k1, k2, hb2, hz2⟩ := alloc2 wr 3 9 #[.int .i64 (j : Nat)] #[.string (Bl.getD j ⟨#[]⟩)] _ rfl
      have hJ2 := HJ.out pre _ (.cells #[.string (Bl.getD j ⟨#[]⟩)] 9) (by simp; omega) (HJ.out pre wr (.cells #[.int .i64 (j : Nat)] 3) hsz hJp)
      obtain ⟨fn, tmps, assign, body, hy, hR⟩ := HY.out pre (j, wr.heap.size, wr.heap.size + 1) _ hJ2 ⟨hpl.symm, fun _ => ⟨k1, k2⟩⟩ (by omega)
      rw [show ddE n hc (j, wr.heap.size, wr.heap.size + 1) = #[.func (.func 56) #[] #[.pointer (some ⟨hc, 0, none⟩), .pointer (some ⟨wr.heap.size, 0, none⟩), .pointer (some ⟨wr.heap.size + 1, 0, none⟩)]] by unfold ddE ddV; rw [if_pos hlt]] at hy
      have hr2 := hr.below (hb2.mono (by omega))
      have d1 : decide ((j : Int) < (n : Int)) = true := by rw [decide_eq_true_iff]; omega
      have j0 : (0 : Int) ≤ (j : Int) := by omega
      have j1 : (j : Int) < (n : Int) := by omega
      have HP := KH.hid (And.intro hpl (And.intro hr2 hsz))
      clear hu hr hr2 hJ2 hJp hI k1 k2 hb2 hpl
      generalize Bl.getD j ⟨#[]⟩ = b0 at *
      gi_wp2
      refine hR.mono ?_
      rintro e W1 (⟨rfl, hJ1, hk1⟩ | ⟨rfl, hx1⟩)
      · obtain ⟨hpl, hr2, hsz⟩ := HP.out
        have hz1 : W.heap.size ≤ W1.heap.size := by have := hk1.size; simp at this; omega
        have HN : Hid ((∃ pre, pre.length = j + 1 ∧ J pre W1) ∧ KH.Reads W1 b 1 (some ad) n (Bl.map .string) ∧ W.heap.size ≤ W1.heap.size) := ⟨⟨pre ++ [(j, wr.heap.size, wr.heap.size + 1)], by rw [List.length_append, hpl]; rfl, hJ1⟩, hr2.below hk1, hz1⟩
        clear hJ1 hk1 hr2
        gi_wp2
        exact ⟨⟨j + 1, by omega, by go_num, HN⟩, by simp [intOf]; omega⟩
      · gi_wp2
        refine bodyPost_ret (results_none rfl _ _ _) rfl ?_
        exact ⟨⟨_, rfl⟩, .inr ⟨_, hx1⟩⟩
    · obtain rfl : j = n := by omega
      obtain ⟨⟨pre, hpl, hJp⟩, hr, hsz⟩ := hI.out
      obtain ⟨fn, tmps, assign, body, hy, hR⟩ := HY.out pre (j, 0, 0) wr hJp ⟨hpl.symm, fun h => absurd h (by show ¬ j < j; omega)⟩ (by omega)
      rw [show ddE j hc (j, 0, 0) = #[.func (.func 46) #[] #[]] by unfold ddE ddV; rw [if_neg (by show ¬ j < j; omega)]] at hy
      have d1 : decide ((j : Int) < (j : Int)) = false := by rw [decide_eq_false_iff_not]; omega
      have HP := KH.hid hpl
      clear hr hJp hI hpl
      gi_wp2
      refine hR.mono ?_
      rintro e W1 (⟨rfl, hJ1, hk1⟩ | ⟨rfl, hx1⟩)
      · gi_wp2
        go_end0
        exact ⟨⟨_, rfl⟩, .inl ⟨_, by rw [List.length_append, HP.out]; rfl, hJ1⟩⟩
      · gi_wp2
        go_end0
        exact ⟨⟨_, rfl⟩, .inr ⟨_, hx1⟩⟩
end Go.Proofs.YtlnilfcjcoclhaaGreatDoor
/- Package vault: what the deeds do to a disk; what Put does. -/
namespace Go.Proofs.YtlnilfcjcoclhaaGreatDoor
open Go.RowKit

/-- the writes that wait behind k deeds -/
def stC (n a : Nat) (Bl : List ByteArray) (k : Nat) : List (Int × ByteArray) := (List.range k).map fun i => (((3 + (1 - a) * n + i : Nat) : Int), Bl.getD i ⟨#[]⟩)
def stS (S : List ByteArray) (n a : Nat) (Bl : List ByteArray) : List ByteArray := settleS S (stC n a Bl n) (fun _ => 1) (stC n a Bl n).length
/-- the disk behind k deeds -/
def stD (S : List ByteArray) (n a : Nat) (Bl : List ByteArray) (k : Nat) : Dsk := if k ≤ n then (S, stC n a Bl k) else (stS S n a Bl, [])
theorem stC_length (n a : Nat) (Bl : List ByteArray) (k : Nat) : (stC n a Bl k).length = k := by simp [stC]
theorem stC_snoc (n a : Nat) (Bl : List ByteArray) (k : Nat) : stC n a Bl (k + 1) = stC n a Bl k ++ [(((3 + (1 - a) * n + k : Nat) : Int), Bl.getD k ⟨#[]⟩)] := by
  unfold stC; rw [List.range_succ, List.map_append]; rfl
theorem stC_mem {n a k : Nat} {Bl : List ByteArray} (ha : a ≤ 1) (hk : k ≤ n) (hs : vSz Bl) : ∀ p ∈ stC n a Bl k, p.2.size ≤ 128 ∧ 0 ≤ p.1 ∧ p.1 < ((3 + 2 * n : Nat) : Int) := fun p hp => by
  obtain ⟨i, hi, rfl⟩ := List.mem_map.1 hp
  have hi' : i < k := by simpa using hi
  have h1 := hs i
  have h2 : (1 - a) * n ≤ 1 * n := Nat.mul_le_mul_right n (by omega)
  refine ⟨by show (Bl.getD i ⟨#[]⟩).size ≤ 128; omega, by omega, ?_⟩
  show ((3 + (1 - a) * n + i : Nat) : Int) < _
  omega
theorem stS_length (S : List ByteArray) (n a : Nat) (Bl : List ByteArray) : (stS S n a Bl).length = S.length := settleS_length _ _ _ _
theorem stD_ok {S : List ByteArray} {n a k : Nat} {Bl : List ByteArray} (hp : pOk S []) (hl : S.length = 3 + 2 * n) (ha : a ≤ 1) (hn : n ≤ 64) (hs : vSz Bl) : pOk (stD S n a Bl k).1 (stD S n a Bl k).2 ∧ (stD S n a Bl k).1.length = S.length ∧ (stD S n a Bl k).2.length ≤ 64 := by
  unfold stD
  by_cases h : k ≤ n
  · rw [if_pos h]
    refine ⟨⟨hp.1, hp.2.1, by rw [stC_length]; omega, hp.2.2.2.1, fun p hq => ?_⟩, rfl, by rw [stC_length]; omega⟩
    have := stC_mem ha h hs p hq
    rw [hl]; exact this
  · rw [if_neg h]
    refine ⟨⟨by rw [stS_length]; exact hp.1, by rw [stS_length]; exact hp.2.1, Nat.zero_le _, ?_, by intro p hq; simp at hq⟩, stS_length _ _ _ _, Nat.zero_le _⟩
    exact settleS_size hp.2.2.2.1 (fun p hq => (stC_mem ha (Nat.le_refl _) hs p hq).1) _
theorem stD_next {S : List ByteArray} {n a k : Nat} {Bl : List ByteArray} (h : k < n) : stD S n a Bl (k + 1) = ((stD S n a Bl k).1, (stD S n a Bl k).2 ++ [(((3 + (1 - a) * n + k : Nat) : Int), Bl.getD k ⟨#[]⟩)]) := by
  unfold stD; rw [if_pos (by omega), if_pos (by omega), stC_snoc]
theorem stD_sync (S : List ByteArray) (n a : Nat) (Bl : List ByteArray) : stD S n a Bl (n + 1) = (settleS (stD S n a Bl n).1 (stD S n a Bl n).2 (fun _ => 1) (stD S n a Bl n).2.length, []) := by
  unfold stD; rw [if_neg (by omega), if_pos (Nat.le_refl _)]; rfl
theorem stD_zero (S : List ByteArray) (n a : Nat) (Bl : List ByteArray) : stD S n a Bl 0 = (S, []) := by unfold stD; rw [if_pos (Nat.zero_le _)]; rfl
/-- where the next head goes, and its mark -/
def fOf (S : List ByteArray) : Nat := if S.getD 0 ⟨#[]⟩ = ⟨#[48]⟩ then 2 else 1
def mOf (S : List ByteArray) : ByteArray := if S.getD 0 ⟨#[]⟩ = ⟨#[48]⟩ then ⟨#[49]⟩ else ⟨#[48]⟩
def MkIn (S : List ByteArray) : Prop := S.getD 0 ⟨#[]⟩ = ⟨#[48]⟩ ∨ S.getD 0 ⟨#[]⟩ = ⟨#[49]⟩
theorem put_at {v : Value} {S : List ByteArray} {w : World} {lo t : Nat} (s : ByteArray) (h : PlIn w lo v S []) (hp : pOk S []) (h3 : 3 ≤ S.length) (hs : s.size ≤ 128) (hm : MkIn S) (ht : t ≤ 4) :
    Calls Tryz.prog 21 #[v, .int .i64 0, .string s, .int .i64 (t : Nat)] w fun e w' => ∃ v', e = .returned (.tuple #[v', .bool (decide (t = 4)), .int .i64 0]) ∧ PlIn w' w.heap.size v' (putD S (fOf S) s (mOf S) t).1 (putD S (fOf S) s (mOf S) t).2 ∧ Below w.heap.size w w' := by
  rcases hm with h0 | h0
  · have e1 : fOf S = 2 := if_pos h0
    have e2 : mOf S = ⟨#[49]⟩ := if_pos h0
    rw [e1, e2]
    exact put_zero s t h hp h3 hs h0 (.inr ⟨rfl, ht⟩)
  · have hne : ¬ S.getD 0 ⟨#[]⟩ = (⟨#[48]⟩ : ByteArray) := by rw [h0]; intro e; injection e with e; injection e with e; injection e with e _; exact absurd e (by decide)
    have e1 : fOf S = 1 := if_neg hne
    have e2 : mOf S = ⟨#[48]⟩ := if_neg hne
    rw [e1, e2]
    exact put_one s t h hp h3 hs h0 (.inr ⟨rfl, ht⟩)
theorem readsN_kept {A A' : World} {n size : Nat} {P : Option Addr} {xs : List Value} {row : Option Nat} (h : KH.Reads A A.heap.size size P n xs) (hg : A.grownBy A' row) (hr : ∀ r, row = some r → ∃ o : Obj, A.heap[r]? = some o ∧ o.isCells = false) : KH.Reads A' A'.heap.size size P n xs := by
  refine ⟨h.1, fun hn => ?_⟩
  obtain ⟨ad, e, hb, hc⟩ := h.2 hn
  exact ⟨ad, e, Nat.lt_of_lt_of_le hb hg.size, fun j u hu => cell_kept (hc j u hu) hg hr⟩
theorem plIn_kept {A A' : World} {lo : Nat} {v : Value} {S : List ByteArray} {C : List (Int × ByteArray)} {row : Option Nat} (h : PlIn A lo v S C) (hg : A.grownBy A' row) (hr : ∀ r, row = some r → ∃ o : Obj, A.heap[r]? = some o ∧ o.isCells = false) : PlIn A' lo v S C := by
  obtain ⟨A1, c1, A2, c2, rfl, l1, l2, h1, h2⟩ := h
  exact ⟨A1, c1, A2, c2, rfl, l1, l2, readsN_kept h1 hg hr, readsN_kept h2 hg hr⟩
end Go.Proofs.YtlnilfcjcoclhaaGreatDoor
