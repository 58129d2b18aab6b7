/- The walks of the document's times and basis. -/
import Derived.Test.YtdeoibgedjbeiaaRefL
import Derived.StillTailTactics
import Derived.IntWalk
namespace Go.Proofs.Ytdeoibgedjbeiaa
open Go.RowKit

theorem still_eq {P : Program} {f : FuncId} {args : Array Value} {w : World} {v : Value} (h : Calls P f args w fun e w' => e = .returned v ∧ w = w') : Calls P f args w fun e w' => e = .returned v ∧ w' = w :=
  h.mono fun _ _ ⟨h1, h2⟩ => ⟨h1, h2.symm⟩

/-- the product after k rounds -/
def tsF (L : List Nat) (a k p : Nat) : Nat := (if p < k then KH.mul a (L.getD p 0) else 0) ^^^ (if 1 ≤ p ∧ p ≤ k then L.getD (p - 1) 0 else 0)
theorem tsF_zero (L : List Nat) (a p : Nat) : tsF L a 0 p = 0 := by
  unfold tsF; rw [if_neg (by omega), if_neg (by omega)]; rfl
theorem tsF_step (L : List Nat) (a k n : Nat) :
    (bz n fun p => if p = k + 1 then (if k + 1 = k then tsF L a k k ^^^ KH.mul (L.getD k 0) a else tsF L a k (k + 1)) ^^^ L.getD k 0 else if p = k then tsF L a k k ^^^ KH.mul (L.getD k 0) a else tsF L a k p) = bz n (tsF L a (k + 1)) := by
  refine bz_congr fun p _ => ?_
  rw [if_neg (show ¬ k + 1 = k by omega)]
  by_cases h1 : p = k + 1
  · subst h1
    rw [if_pos rfl]
    unfold tsF
    rw [if_neg (by omega), if_neg (by omega), if_neg (by omega), if_pos (by omega), Nat.add_sub_cancel]
    simp
  · rw [if_neg h1]
    by_cases h2 : p = k
    · subst h2
      rw [if_pos rfl]
      unfold tsF
      rw [if_neg (by omega), if_pos (show p < p + 1 by omega), Nat.zero_xor, Nat.xor_comm, KH.mul_comm]
      congr 1
      by_cases h : 1 ≤ p
      · rw [if_pos ⟨h, Nat.le_refl _⟩, if_pos (by omega)]
      · rw [if_neg (by omega), if_neg (by omega)]
    · rw [if_neg h2]
      unfold tsF
      congr 1
      · by_cases h : p < k
        · rw [if_pos h, if_pos (by omega)]
        · rw [if_neg h, if_neg (by omega)]
      · by_cases h : 1 ≤ p ∧ p ≤ k
        · rw [if_pos h, if_pos (by omega)]
        · rw [if_neg h, if_neg (by omega)]
theorem tsF_all (L : List Nat) (a p : Nat) (hp : p < L.length + 1) : tsF L a L.length p = (KH.ml L a).getD p 0 := by
  rw [ml_get L a p (by omega)]
  unfold tsF
  congr 1
  · by_cases h : p < L.length
    · rw [if_pos h]
    · rw [if_neg h]
      have : L.getD p 0 = 0 := by rw [List.getD, List.getElem?_eq_none (by omega)]; rfl
      rw [this, KH.mul_zero]
  · cases p with
    | zero => rw [if_neg (by omega)]; rfl
    | succ p => rw [if_pos (by omega)]; simp
theorem tsF_lt {L : List Nat} (h : KH.Dg L) (a k p : Nat) : tsF L a k p < 256 := by
  unfold tsF
  refine KH.xor_lt ?_ ?_
  · split
    · exact KH.mul_lt _ _
    · omega
  · split
    · exact h.getD _
    · omega

set_option maxHeartbeats 1000000 in
set_option maxRecDepth 100000 in
theorem rctimes_any {n a : Nat} {A : Option Addr} (c : Nat) {L : List Nat} {w : World} (h : KH.Reads w w.heap.size 1 A n (bz n fun o => L.getD o 0)) (hL : L.length = n) (hn : n ≤ 300) (hd : KH.Dg L) (ha : a < 256) :
    Calls Try.prog 87 #[.slice A n c, .int .i64 a] w fun e w' => ∃ g cr, e = .returned (.slice (some ⟨g, 0, none⟩) (n + 1) cr) ∧
      w'.ownsRow w.heap.size 3 1 (.slice (some ⟨g, 0, none⟩) (n + 1) cr) (n + 1) (bz (n + 1) fun o => (KH.ml L a).getD o 0) ∧ Below w.heap.size w w' := by
  obtain ⟨i0, hi, hz0, hz1, hz2⟩ := info_parts int_info
  have HL := KH.hid hL
  have HD := KH.hid hd
  clear hL hd
  go_enter Try.func87, Try.ntmps87
  go_wp2_with (at_make; refine wpList_make_full _ rfl _ _ 34 rfl w.heap.size 3 i0 (.int .i64 0) 1 Try.underlying34 hi hz0 hz1 .i64 .i64 _ _ (n + 1) rfl rfl rfl rfl (by rw [hz2]; omega) (by unfold maxLen; omega) (Nat.le_refl _) ?_; intro w3 hown3 hg3)
  have hb3 : Below w.heap.size w w3 := (Below.refl _ _).grown hg3 (Nat.le_refl _) (fun _ h => by cases h)
  rw [show (madeCells (Value.int .i64 0).cells ((n + 1) * 1)).toList = bz (n + 1) (tsF L a 0) by
    rw [Nat.mul_one]
    refine (toList_madeCells_one _ _).trans ?_
    refine List.ext_getElem (by simp [bz]) fun j h1 h2 => ?_
    simp [bz, tsF_zero]] at hown3
  clear hg3
  go_loopw [6] (fun i wr => ∃ k : Nat, k ≤ n ∧ i = .int .i64 k ∧ wr.ownsRow w.heap.size 3 1 (.slice (some ⟨w.heap.size, 0, none⟩) (n + 1) (n + 1)) (n + 1) (bz (n + 1) (tsF L a k)) ∧ Below w.heap.size w wr) (fun i _ => n - (intOf i).toNat)
  case atStart => exact ⟨0, Nat.zero_le _, rfl, hown3, hb3⟩
  case round =>
    obtain ⟨k, hk, rfl, ho, hb⟩ := hrel
    clear hown3 hb3
    have hsz := hb.size
    by_cases hlt : k < n
    · have hrr := h.below hb
      obtain ⟨ad, u, rfl, hab, hx, hc⟩ := KH.Reads.at_ hrr hlt
      rw [bz_get _ hlt] at hx
      injection hx with hx
      subst hx
      have hLk : L.getD k 0 < 256 := HD.out.getD k
      have hc0 := (ho.cellAt k (by omega)).trans (bz_get _ (show k < n + 1 by omega))
      have hc1 := (ho.cellAt (k + 1) (by omega)).trans (bz_get _ (show k + 1 < n + 1 by omega))
      have hf0 := ho.frozenAt k
      have hf1 := ho.frozenAt (k + 1)
      have ht0 := tsF_lt HD.out a k k
      have ht1 := tsF_lt HD.out a k (k + 1)
      have HST := KH.hid (tsF_step L a k (n + 1))
      rw [if_neg (show ¬ k + 1 = k by omega)] at HST
      have HS1 := KH.hid (bz_set (N := n + 1) (o := k) (v := tsF L a k k ^^^ KH.mul (L.getD k 0) a) (tsF L a k))
      have HS2 := KH.hid (bz_set (N := n + 1) (o := k + 1) (v := tsF L a k (k + 1) ^^^ L.getD k 0) fun p => if p = k then tsF L a k k ^^^ KH.mul (L.getD k 0) a else tsF L a k p)
      have hgk : ad.block ≠ w.heap.size := by omega
      have HO := KH.hid ho
      have HB := KH.hid hb
      clear ho hb hrr
      generalize L.getD k 0 = lk at *
      generalize tsF L a k k = t0 at *
      generalize hT0 : tsF L a k (k + 1) = t1 at *
      have HT0 := KH.hid hT0
      clear hT0
      have hml : KH.mul lk a < 256 := KH.mul_lt _ _
      have k0 : (0 : Int) ≤ (k : Int) := by omega
      have k1 : (k : Int) < (n : Int) := by omega
      have k2 : (k : Int) < ((n : Int) + 1) := by omega
      have k3 : (k : Int) + 1 < ((n : Int) + 1) := by omega
      have k4 : (0 : Int) ≤ (k : Int) + 1 := by omega
      go_wp2
      refine wp_region_still_tail 14 (by kernel_rfl) (by kernel_rfl) ?_
      simp only [List.take_succ_cons, List.take_zero, List.drop_succ_cons, List.drop_zero]
      repeat still_step
      still_call (still_eq (rtimes_nat lk a _ hLk ha))
      repeat still_step
      still_call (still_eq (rsum_nat t0 (KH.mul lk a) _ ht0 hml))
      repeat still_step
      refine wpStill_nil ?_
      go_wp2
      have ho5 : (wr.setCell ⟨w.heap.size, k, none⟩ (.int .i64 (t0 ^^^ KH.mul lk a : Nat))).drew.ownsRow w.heap.size 3 1 (.slice (some ⟨w.heap.size, 0, none⟩) (n + 1) (n + 1)) (n + 1) (bz (n + 1) fun p => if p = k then t0 ^^^ KH.mul lk a else tsF L a k p) := by
        rw [← HS1.out]; exact (HO.out.stored k (.int .i64 (t0 ^^^ KH.mul lk a : Nat))).1
      have hb5 : Below w.heap.size w (wr.setCell ⟨w.heap.size, k, none⟩ (.int .i64 (t0 ^^^ KH.mul lk a : Nat))).drew := (HB.out.setCell (p := ⟨w.heap.size, k, none⟩) (Nat.le_refl _) _).drew
      have hc5 : (wr.setCell ⟨w.heap.size, k, none⟩ (.int .i64 (t0 ^^^ KH.mul lk a : Nat))).drew.cell? (ad.add k) = some (.int .i64 lk) := by
        have h1 : (wr.setCell ⟨w.heap.size, k, none⟩ (.int .i64 (t0 ^^^ KH.mul lk a : Nat))).cell? (ad.add k) = some (.int .i64 lk) := by
          rw [World.cell?_setCell_other _ _ _ _ (fun e => hgk (by have := congrArg Addr.block e; rw [KH.block_of_add] at this; exact this.symm))]; exact hc
        exact h1
      clear hc hc0 hc1 hf0 hf1 HO HB HS1
      generalize (wr.setCell ⟨w.heap.size, k, none⟩ (.int .i64 (t0 ^^^ KH.mul lk a : Nat))).drew = wv at *
      have hc1 := (ho5.cellAt (k + 1) (by omega)).trans (bz_get _ (show k + 1 < n + 1 by omega))
      rw [if_neg (show ¬ k + 1 = k by omega)] at hc1
      have HT1 : Hid (tsF L a k (k + 1) = t1) := HT0
      rw [HT1.out] at hc1
      have hf1 := ho5.frozenAt (k + 1)
      have HO := KH.hid ho5
      have HB := KH.hid hb5
      clear ho5 hb5
      have kw : IntKind.i64.wrap ((k : Int) + 1) = (k : Int) + 1 := IntWalk.i64_in _ (by omega)
      have kt : ((k : Int) + 1).toNat = k + 1 := by omega
      refine wp_region_still_tail 14 (by kernel_rfl) (by kernel_rfl) ?_
      simp only [List.take_succ_cons, List.take_zero, List.drop_succ_cons, List.drop_zero]
      repeat still_step
      still_call (still_eq (rsum_nat t1 lk _ ht1 hLk))
      repeat still_step
      refine wpStill_nil ?_
      clear kw
      go_wp2
      have ho6 : (wv.setCell ⟨w.heap.size, k + 1, none⟩ (.int .i64 (t1 ^^^ lk : Nat))).drew.ownsRow w.heap.size 3 1 (.slice (some ⟨w.heap.size, 0, none⟩) (n + 1) (n + 1)) (n + 1) (bz (n + 1) (tsF L a (k + 1))) := by
        rw [← HST.out, ← HS2.out]; exact (HO.out.stored (k + 1) (.int .i64 (t1 ^^^ lk : Nat))).1
      have hb6 : Below w.heap.size w (wv.setCell ⟨w.heap.size, k + 1, none⟩ (.int .i64 (t1 ^^^ lk : Nat))).drew := (HB.out.setCell (p := ⟨w.heap.size, k + 1, none⟩) (Nat.le_refl _) _).drew
      go_roundw
      case rel => exact ⟨k + 1, by omega, by go_num, ho6, hb6⟩
      case measure => simp [intOf]; omega
    · obtain rfl : k = n := by omega
      have hd1 : decide ((k : Int) < (k : Int)) = false := by simp
      have HF : Hid (bz (k + 1) (tsF L a k) = bz (k + 1) fun o => (KH.ml L a).getD o 0) := bz_congr fun p hp => by rw [← HL.out]; exact tsF_all L a p (by rw [HL.out]; exact hp)
      rw [HF.out] at ho
      go_wp2
      go_ret
      exact ⟨_, _, rfl, ho, hb⟩
end Go.Proofs.Ytdeoibgedjbeiaa
