/- The walk of share.without. -/
import Derived.Test.YtdeoibgedjbeiaaDoorTapeA
namespace Go.Proofs.YtdeoibgedjbeiaaDoor
open Go.RowKit

theorem dv_eq (L : List Nat) (r : Nat) : KH.dv L r = (List.range (L.length - 1)).map fun q => KH.ev (L.drop (q + 1)) r := by
  induction L with
  | nil => rfl
  | cons a L ih =>
    cases L with
    | nil => rfl
    | cons b t =>
      show KH.ev (b :: t) r :: KH.dv (b :: t) r = _
      rw [ih]
      show _ = (List.range (t.length + 1)).map _
      rw [List.range_succ_eq_map, List.map_cons, List.map_map]
      rfl
/-- the digits from the j-th on -/
def wst (L : List Nat) (x n j : Nat) : List Int := (List.range n).map fun q => if j ≤ q then ((KH.ev (L.drop (q + 1)) x : Nat) : Int) else 0
theorem wst_length (L : List Nat) (x n j : Nat) : (wst L x n j).length = n := by simp [wst]
theorem wst_zero (L : List Nat) (x n : Nat) : (wst L x n n).map (Value.int .i64) = List.replicate n (.int .i64 0) := by
  refine List.ext_getElem (by simp [wst]) fun j h1 h2 => ?_
  have hj : j < n := by simpa [wst] using h1
  simp only [wst, List.getElem_map, List.getElem_range, List.getElem_replicate]
  rw [if_neg (by omega)]
theorem wst_step (L : List Nat) (x n j : Nat) : ((wst L x n (j + 1)).map (Value.int .i64)).set j (.int .i64 (KH.ev (L.drop (j + 1)) x : Nat)) = (wst L x n j).map (.int .i64) := by
  refine List.ext_getElem (by simp [wst]) fun q h1 h2 => ?_
  rw [List.getElem_set]
  simp only [wst, List.getElem_map, List.getElem_range]
  by_cases e : j = q
  · subst e; rw [if_pos rfl, if_pos (Nat.le_refl _)]
  · rw [if_neg e]
    by_cases h : j + 1 ≤ q
    · rw [if_pos h, if_pos (by omega)]
    · rw [if_neg h, if_neg (by omega)]
theorem wst_all (L : List Nat) (x n : Nat) (h : L.length = n + 1) : wst L x n 0 = zi (KH.dv L x) := by
  rw [dv_eq, h]
  unfold wst zi
  rw [List.map_map]
  refine List.map_congr_left fun q _ => ?_
  rw [if_pos (Nat.zero_le _)]; rfl

set_option maxRecDepth 100000 in
theorem without_any {n b N x : Nat} {A : Option Addr} (c : Nat) {L : List Nat} {w : World} (h : KH.Reads w w.heap.size 1 A N ((zi L).map (.int .i64))) (hN : N = n + 1) (hn : 1 ≤ n) (hn2 : n ≤ 255) (hd : KH.Dg L) (hx : x < 256) (hF : FieldAt b w) (hbl : b < w.heap.size) :
    Calls Tryd.prog 26 #[.pointer (some ⟨b, 0, none⟩), .slice A N c, .int .i64 x] w fun e w' => ∃ g cr, e = .returned (.slice (some ⟨g, 0, none⟩) n cr) ∧
      w'.ownsRow w.heap.size 3 1 (.slice (some ⟨g, 0, none⟩) n cr) n ((zi (KH.dv L x)).map (.int .i64)) ∧ Below w.heap.size w w' := by
  obtain ⟨i0, hi, hz0, hz1, hz2⟩ := info_parts int_info
  have hl : L.length = N := by have := h.1; simpa [zi] using this
  have HL := KH.hid hl; clear hl
  have HD := KH.hid hd; clear hd
  have e1 : (N : Int) - 1 = (n : Nat) := by omega
  have HE := KH.hid e1
  clear e1
  go_enter Tryd.func26, Tryd.ntmps26
  go_wp2_with (at_make; refine wpList_make_full _ rfl _ _ 42 rfl w.heap.size 3 i0 (.int .i64 0) 1 Tryd.underlying42 hi hz0 hz1 .i64 .i64 _ _ n (by first | rfl | (show Value.int _ _ = _; rw [← HE.out]; rfl)) (by first | rfl | (show Value.int _ _ = _; rw [← HE.out]; rfl)) rfl rfl (by rw [hz2]; omega) (by unfold maxLen; omega) (Nat.le_refl _) ?_; intro w3 hown3 hg3)
  have hb3 : Below w.heap.size w w3 := (Below.refl _ _).grown hg3 (Nat.le_refl _) (fun _ h => by cases h)
  rw [show (madeCells (Value.int .i64 0).cells (n * 1)).toList = (wst L x n n).map (Value.int .i64) by rw [wst_zero, Nat.mul_one]; exact toList_madeCells_one _ _] at hown3
  clear hg3
  go_loopw [8, 9] (fun o i wr => ∃ j : Nat, j ≤ n ∧ ((j = 0 ∧ i = .int .i64 (-1)) ∨ ∃ j', j = j' + 1 ∧ i = .int .i64 (j' : Nat)) ∧ o = .int .i64 (KH.ev (L.drop (j + 1)) x : Nat) ∧ wr.ownsRow w.heap.size 3 1 (.slice (some ⟨w.heap.size, 0, none⟩) n n) n ((wst L x n j).map (.int .i64)) ∧ Below w.heap.size w wr) (fun _ i _ => (intOf i + 1).toNat)
  case atStart =>
    refine ⟨n, Nat.le_refl _, ?_, ?_, hown3, hb3⟩
    · cases n with
      | zero => exact .inl ⟨rfl, rfl⟩
      | succ n => exact .inr ⟨n, rfl, by first | rfl | (congr 1; done) | (congr 1; omega)⟩
    · rw [List.drop_eq_nil_iff.2 (by rw [HL.out, hN]; exact Nat.le_refl _)]; rfl
  case round =>
    obtain ⟨j, hj, hi', rfl, ho, hb⟩ := hrel
    clear hown3 hb3
    have hsz := hb.size
    rcases hi' with ⟨rfl, rfl⟩ | ⟨j, rfl, rfl⟩
    · rw [wst_all L x n (by rw [HL.out, hN])] at ho
      go_wp2
      go_ret
      exact ⟨_, _, rfl, ho, hb⟩
    · have hF1 : FieldAt b wr := ⟨fun j hj => (hb.cell (p := ⟨b, j, none⟩) hbl).trans (hF.num j hj), fun j hj => (hb.cell (p := ⟨b, 256 + j, none⟩) hbl).trans (hF.dig j hj)⟩
      have hrr := h.below hb
      obtain ⟨ad, z, rfl, hab, hxx, hc⟩ := KH.Reads.int hrr (show j + 1 < N by omega)
      have hz : z = ((L.getD (j + 1) 0 : Nat) : Int) := by
        rw [zi_get (by rw [HL.out]; omega)] at hxx; injection hxx with hxx; exact hxx.symm
      subst hz
      clear hxx hrr
      have hv1 : L.getD (j + 1) 0 < 256 := HD.out.getD _
      have hev : KH.ev (L.drop (j + 1 + 1)) x < 256 := KH.ev_lt (fun a ha => HD.out a (List.mem_of_mem_drop ha)) x
      have HEV : Hid (KH.ev (L.drop (j + 1)) x = L.getD (j + 1) 0 ^^^ KH.mul (KH.ev (L.drop (j + 1 + 1)) x) x) := by
        unfold Hid; rw [KH.ev_drop L x (j + 1) (by rw [HL.out]; omega), KH.mul_comm x]
      have hml := KH.mul_lt (KH.ev (L.drop (j + 1 + 1)) x) x
      have HST := KH.hid (wst_step L x n j)
      have hf0 := ho.frozenAt j
      obtain ⟨u, hu⟩ : ∃ u, ((wst L x n (j + 1)).map (Value.int .i64))[j]? = some u := ⟨_, List.getElem?_eq_getElem (by simp [wst_length]; omega)⟩
      have hc0 := (ho.cellAt j (by omega)).trans hu
      rw [HEV.out] at HST
      generalize L.getD (j + 1) 0 = a1 at *
      generalize KH.ev (L.drop (j + 1 + 1)) x = ov at *
      have q0 : (0 : Int) ≤ (j : Int) + 1 := by omega
      have q1 : (j : Int) + 1 < (N : Int) := by omega
      have q2 : (j : Int) < (n : Int) := by omega
      have q3 : (0 : Int) ≤ (j : Int) := by omega
      go_wp2_with fail
      refine (mul_nat b ov x _ hF1 hev hx).mono ?_; rintro e w2 ⟨rfl, r, rfl⟩
      have hc0' : (wr.drewN r).cell? ⟨w.heap.size, j, none⟩ = some u := hc0
      have hc' : (wr.drewN r).cell? ⟨ad.block, ad.off + (j + 1), none⟩ = some (.int .i64 a1) := by
        have : ad.add (j + 1) = ⟨ad.block, ad.off + (j + 1), none⟩ := by unfold Addr.add; rw [if_neg (by omega)]
        rw [← this]; exact hc
      have hf0' : (wr.drewN r).frozen? ⟨w.heap.size, j, none⟩ = false := hf0
      have ho' : (wr.drewN r).ownsRow w.heap.size 3 1 (.slice (some ⟨w.heap.size, 0, none⟩) n n) n ((wst L x n (j + 1)).map (.int .i64)) := ho
      have hb' := below_drewN hb r
      generalize wr.drewN r = wu at *
      clear hc0 hf0 ho hb hF1 hc
      go_wp2_with fail
      refine (add_nat a1 (KH.mul ov x) _ hv1 hml).mono ?_; rintro e w2 ⟨rfl, rfl⟩
      go_wp2
      go_roundw
      case rel =>
        refine ⟨j, by omega, ?_, by rw [HEV.out], by rw [← HST.out]; exact (ho'.stored j _).1, hb'.setCell (p := ⟨w.heap.size, j, none⟩) (Nat.le_refl _) _⟩
        cases j with
        | zero => exact .inl ⟨rfl, rfl⟩
        | succ j => exact .inr ⟨j, rfl, by first | rfl | (congr 1; done) | (congr 1; omega)⟩
      case measure => first | (simp [intOf]; done) | (simp [intOf]; omega)
end Go.Proofs.YtdeoibgedjbeiaaDoor
