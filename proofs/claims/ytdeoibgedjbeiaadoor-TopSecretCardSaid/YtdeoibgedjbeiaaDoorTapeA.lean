/- The walks of share.zeros and share.without. -/
import Derived.Test.YtdeoibgedjbeiaaDoorShareK
import Derived.Test.YtdeoibgedjbeiaaDoorShareM
namespace Go.Proofs.YtdeoibgedjbeiaaDoor
open Go.RowKit

theorem mul_nat (b x y : Nat) (w : World) (h : FieldAt b w) (hx : x < 256) (hy : y < 256) :
    Calls Tryd.prog 27 #[.pointer (some ⟨b, 0, none⟩), .int .i64 x, .int .i64 y] w fun e w' => e = .returned (.tuple #[.int .i64 (KH.mul x y : Nat), .bool true]) ∧ ∃ n, w' = w.drewN n := by
  refine (mul_in b x y w h (by omega) (by omega) (by omega) (by omega)).mono fun e w' ⟨he, hw⟩ => ⟨?_, hw⟩
  rw [he, Int.toNat_natCast, Int.toNat_natCast]
theorem add_nat (x y : Nat) (w : World) (hx : x < 256) (hy : y < 256) :
    Calls Tryd.prog 39 #[.int .i64 x, .int .i64 y] w fun e w' => e = .returned (.tuple #[.int .i64 (x ^^^ y : Nat), .bool true]) ∧ w = w' := by
  refine (fadd_in x y w (by omega) (by omega) (by omega) (by omega)).mono fun e w' ⟨he, hw⟩ => ⟨?_, hw⟩
  rw [he, Int.toNat_natCast, Int.toNat_natCast]
theorem inv_nat (b x : Nat) (w : World) (h : FieldAt b w) (hx1 : 1 ≤ x) (hx : x < 256) :
    Calls Tryd.prog 28 #[.pointer (some ⟨b, 0, none⟩), .int .i64 x] w fun e w' => e = .returned (.tuple #[.int .i64 (KH.inv x : Nat), .bool true]) ∧ ∃ n, w' = w.drewN n := by
  refine (inv_in b x w h (by omega) (by omega)).mono fun e w' ⟨he, hw⟩ => ⟨?_, hw⟩
  rw [he, Int.toNat_natCast]

/-- digits as the program has them -/
def zi (l : List Nat) : List Int := l.map fun (d : Nat) => (d : Int)
theorem zi_length (l : List Nat) : (zi l).length = l.length := List.length_map _
theorem zi_get {l : List Nat} {k : Nat} (h : k < l.length) : (zi l)[k]? = some ((l.getD k 0 : Nat) : Int) := by
  unfold zi; rw [List.getElem?_map, List.getElem?_eq_getElem h, List.getD, List.getElem?_eq_getElem h]; rfl

/-! ### zeros -/
theorem ml_get (L : List Nat) (a j : Nat) (hj : j ≤ L.length) : (KH.ml L a).getD j 0 = KH.mul a (L.getD j 0) ^^^ (0 :: L).getD j 0 := by
  unfold KH.ml KH.zx KH.sc
  rw [List.getD, List.getElem?_zipWith]
  have h2 : (0 :: L)[j]? = some ((0 :: L).getD j 0) := by rw [List.getD, List.getElem?_eq_getElem (by simp; omega)]; rfl
  rw [h2]
  rcases Nat.lt_or_ge j L.length with h | h
  · rw [List.getElem?_append_left (by simpa using h), List.getElem?_map, List.getElem?_eq_getElem h, KH.getD_eq h]; rfl
  · obtain rfl : j = L.length := by omega
    rw [List.getElem?_append_right (by simp)]
    have : L.getD L.length 0 = 0 := by rw [List.getD, List.getElem?_eq_none (Nat.le_refl _)]; rfl
    rw [this, KH.mul_zero]
    simp
def zst (L : List Nat) (x q : Nat) : List Int := (List.range (L.length + 1)).map fun j => if j < q then (((KH.ml L x).getD j 0 : Nat) : Int) else (((0 :: L).getD j 0 : Nat) : Int)
theorem zst_length (L : List Nat) (x q : Nat) : (zst L x q).length = L.length + 1 := by simp [zst]
theorem zst_get (L : List Nat) (x q j : Nat) (hj : j < L.length + 1) : (zst L x q)[j]? = some (if j < q then (((KH.ml L x).getD j 0 : Nat) : Int) else (((0 :: L).getD j 0 : Nat) : Int)) := by
  unfold zst; rw [List.getElem?_map, List.getElem?_range hj]; rfl
theorem zst_zero (L : List Nat) (x : Nat) : Value.int .i64 0 :: (zi L).map (Value.int .i64) = (zst L x 0).map (.int .i64) := by
  refine List.ext_getElem (by simp [zst_length, zi_length]) fun j h1 h2 => ?_
  have hj : j < L.length + 1 := by simpa [zi_length] using h1
  have := zst_get L x 0 j hj
  rw [List.getElem_map]
  rw [List.getElem?_eq_getElem (by rw [zst_length]; exact hj)] at this
  injection this with this
  rw [this, if_neg (by omega)]
  cases j with
  | zero => rfl
  | succ j =>
    have hj' : j < L.length := by omega
    simp [zi, List.getD, List.getElem?_eq_getElem hj']
theorem zst_step (L : List Nat) (x q : Nat) : ((zst L x q).map (Value.int .i64)).set q (.int .i64 ((KH.ml L x).getD q 0 : Nat)) = (zst L x (q + 1)).map (.int .i64) := by
  refine List.ext_getElem (by simp [zst_length]) fun j h1 h2 => ?_
  have hj : j < L.length + 1 := by simpa [zst_length] using h2
  rw [List.getElem_set]
  simp only [List.getElem_map, zst, List.getElem_range]
  by_cases e : q = j
  · subst e; rw [if_pos rfl, if_pos (by omega)]
  · rw [if_neg e]
    by_cases h : j < q
    · rw [if_pos h, if_pos (by omega)]
    · rw [if_neg h, if_neg (by omega)]
theorem zst_all (L : List Nat) (x : Nat) : zst L x L.length = zi (KH.ml L x) := by
  refine List.ext_getElem (by rw [zst_length, zi_length, KH.ml_length]) fun j h1 h2 => ?_
  have hj : j < L.length + 1 := by simpa [zst_length] using h1
  have hm : j < (KH.ml L x).length := by rw [KH.ml_length]; exact hj
  simp only [zst, zi, List.getElem_map, List.getElem_range]
  by_cases h : j < L.length
  · rw [if_pos h, List.getD, List.getElem?_eq_getElem hm]; rfl
  · obtain rfl : j = L.length := by omega
    rw [if_neg h]
    have := ml_get L x L.length (Nat.le_refl _)
    have h0 : L.getD L.length 0 = 0 := by rw [List.getD, List.getElem?_eq_none (Nat.le_refl _)]; rfl
    rw [h0, KH.mul_zero, Nat.zero_xor] at this
    rw [← this, List.getD, List.getElem?_eq_getElem hm]; rfl

set_option maxRecDepth 100000 in
theorem zeros_any {m b : Nat} {A : Option Addr} (c : Nat) {l : List Int} {w : World} (h : KH.Reads w w.heap.size 1 A m (l.map (.int .i64))) (hm : m ≤ 255) (ha : allB l = true) (hF : FieldAt b w) (hbl : b < w.heap.size) :
    Calls Tryd.prog 25 #[.pointer (some ⟨b, 0, none⟩), .slice A m c] w fun e w' => ∃ g cr, e = .returned (.slice (some ⟨g, 0, none⟩) (m + 1) cr) ∧
      w'.ownsRow w.heap.size 3 1 (.slice (some ⟨g, 0, none⟩) (m + 1) cr) (m + 1) ((zi (KH.zp (nats l) m)).map (.int .i64)) ∧ Below w.heap.size w w' := by
  obtain ⟨i0, hi, hz0, hz1, hz2⟩ := info_parts int_info
  have HA := KH.hid ha; clear ha
  have hown0 : (w.alloc (.cells #[.int .i64 1] 3)).ownsRow w.heap.size 3 1 (.slice (some ⟨w.heap.size, 0, none⟩) 1 1) 1 ((zi (KH.zp (nats l) 0)).map (.int .i64)) :=
    World.ownsRow_lit (base := w.heap.size) (size := 1) w #[.int .i64 1] 1 (e := 3) (Nat.le_refl _) (by unfold maxLen; omega) rfl
  have hb0 := (Below.refl w.heap.size w).alloc (Nat.le_refl _) (.cells #[.int .i64 1] 3)
  go_enter Tryd.func25, Tryd.ntmps25
  go_wp2
  go_loopw [5, 14] (fun v i wr => ∃ k : Nat, k ≤ m ∧ i = .int .i64 k ∧ wr.ownsRow w.heap.size 3 1 v (k + 1) ((zi (KH.zp (nats l) k)).map (.int .i64)) ∧ Below w.heap.size w wr) (fun _ i _ => m - (intOf i).toNat)
  case atStart => exact ⟨0, Nat.zero_le _, rfl, hown0, hb0⟩
  case round =>
    obtain ⟨k, hk, rfl, hown, hb⟩ := hrel
    clear hown0 hb0
    have hsz := hb.size
    by_cases hlt : k < m
    · obtain ⟨ad, z, rfl, hab, hx, hc⟩ := KH.Reads.int (h.below hb) hlt
      obtain ⟨x, hxv⟩ : ∃ x : Nat, x = (nats l).getD k 0 := ⟨_, rfl⟩
      have hz := nats_get HA.out hx
      rw [← hxv] at hz
      subst hz
      have hx8 : x < 256 := by rw [hxv]; exact (dg_nats HA.out).getD k
      have HX := KH.hid hxv
      clear hx hxv
      obtain ⟨g, cp, rfl, hg, hg'⟩ := hown.form (by omega)
      have hr := KH.Reads.of_own (hown.alloc (.cells #[.int .i64 0] 3))
      have hnews : ∀ j u, ((zi (KH.zp (nats l) k)).map (Value.int .i64))[j]? = some u → (wr.alloc (.cells #[.int .i64 0] 3)).cell? ((⟨g, 0, none⟩ : Addr).add j) = some u := fun j u hu => by
        obtain ⟨ad', hA, _, hcc⟩ := hr.2 (by omega)
        injection hA with hA; subst hA
        exact hcc j u hu
      have HNW := KH.hid (And.intro hr.1 hnews)
      have HONE : Hid (∀ u ∈ (zi (KH.zp (nats l) k)).map (Value.int .i64), u.oneCell' = true) := fun u hu => by
        obtain ⟨y, _, rfl⟩ := List.mem_map.1 hu; rfl
      have hown1 : (wr.alloc (.cells #[.int .i64 0] 3)).ownsRow w.heap.size 3 1 (.slice (some ⟨wr.heap.size, 0, none⟩) 1 1) 1 [.int .i64 0] :=
        World.ownsRow_lit (base := w.heap.size) (size := 1) wr #[.int .i64 0] 1 (e := 3) hsz (by unfold maxLen; omega) rfl
      clear hr hnews
      go_wp2_with (at_builtin; refine wpList_append_own _ rfl (.tmp 18) (.tmp 19) 42 rfl w.heap.size 3 i0 _ 1 8 Tryd.underlying42 hi hz0 hz1 hz2 rfl (by omega) _ 1 [.int .i64 0] rfl hown1 ⟨g, 0, none⟩ (k + 1) _ ((zi (KH.zp (nats l) k)).map (.int .i64)) rfl HNW.out.1 HNW.out.2 HONE.out ?d1 ?d2 ?d3 ?_)
      case d1 => unfold maxLen; omega
      case d2 => omega
      case d3 => simp; omega
      intro v1 w1 hown2 hgrow hnil
      have hb1 : Below w.heap.size w w1 := (hb.alloc hsz (.cells #[.int .i64 0] 3)).grown hgrow (by simp; omega) fun k hk => (hown1.lt k hk).1
      clear hgrow hnil hown1 hown HNW HONE hg hg' hb hc hab
      generalize hN : 1 + (k + 1) = N at *
      obtain ⟨g1, c1, rfl, hg1, hg1'⟩ := hown2.form (by omega)
      have HZL := KH.hid (KH.zp_length (nats l) k)
      have HZD := KH.hid (KH.Dg.zp (xs := nats l) k)
      have HZN : Hid (KH.zp (nats l) (k + 1) = KH.ml (KH.zp (nats l) k) x) := by unfold Hid; rw [HX.out]; rfl
      have hown3 : w1.ownsRow w.heap.size 3 1 (.slice (some ⟨g1, 0, none⟩) N c1) N ((zst (KH.zp (nats l) k) x 0).map (.int .i64)) := by rw [← zst_zero]; exact hown2
      clear hown2
      generalize KH.zp (nats l) k = L at *
      go_wp2
      go_loopw [24] (fun t wt => ∃ q : Nat, q ≤ k + 1 ∧ t = .int .i64 q ∧ wt.ownsRow w.heap.size 3 1 (.slice (some ⟨g1, 0, none⟩) N c1) N ((zst L x q).map (.int .i64)) ∧ Below w.heap.size w wt) (fun t _ => (k + 1) - (intOf t).toNat)
      case atStart => exact ⟨0, Nat.zero_le _, rfl, hown3, hb1⟩
      case round =>
        obtain ⟨q, hq, rfl, ho, hbt⟩ := hrel
        clear hown3 hb1
        have hszt := hbt.size
        by_cases hql : q < k + 1
        · have hd1 : decide ((q : Int) < (N : Int) - 1) = true := by rw [decide_eq_true_iff]; omega
          have hv1 : L.getD q 0 < 256 := HZD.out.getD q
          have hv0 : (0 :: L).getD q 0 < 256 := (HZD.out.cons (show 0 < 256 by omega)).getD q
          have hF1 : FieldAt b wr := ⟨fun j hj => (hbt.cell (p := ⟨b, j, none⟩) hbl).trans (hF.num j hj), fun j hj => (hbt.cell (p := ⟨b, 256 + j, none⟩) hbl).trans (hF.dig j hj)⟩
          have hc1 : wr.cell? ⟨g1, q + 1, none⟩ = some (.int .i64 (L.getD q 0 : Nat)) := by
            rw [ho.cellAt (q + 1) (by omega), List.getElem?_map, zst_get _ _ _ _ (by rw [HZL.out]; omega), if_neg (by omega)]; rfl
          have hc0 : wr.cell? ⟨g1, q, none⟩ = some (.int .i64 ((0 :: L).getD q 0 : Nat)) := by
            rw [ho.cellAt q (by omega), List.getElem?_map, zst_get _ _ _ _ (by rw [HZL.out]; omega), if_neg (by omega)]; rfl
          have hf0 := ho.frozenAt q
          have HST := KH.hid (zst_step L x q)
          have HML : Hid ((KH.ml L x).getD q 0 = (0 :: L).getD q 0 ^^^ KH.mul (L.getD q 0) x) := by unfold Hid; rw [ml_get _ _ _ (by rw [HZL.out]; omega), Nat.xor_comm, KH.mul_comm]
          have hml := KH.mul_lt (L.getD q 0) x
          rw [HML.out] at HST
          generalize L.getD q 0 = a1 at *
          generalize (0 :: L).getD q 0 = a0 at *
          have q0 : (0 : Int) ≤ (q : Int) + 1 := by omega
          have q1 : (q : Int) + 1 < (N : Int) := by omega
          have q2 : (q : Int) < (N : Int) := by omega
          go_wp2_with fail
          refine (mul_nat b a1 x _ hF1 hv1 hx8).mono ?_; rintro e w2 ⟨rfl, r, rfl⟩
          have hc0' : (wr.drewN r).cell? ⟨g1, q, none⟩ = some (.int .i64 a0) := hc0
          have hf0' : (wr.drewN r).frozen? ⟨g1, q, none⟩ = false := hf0
          have ho' : (wr.drewN r).ownsRow w.heap.size 3 1 (.slice (some ⟨g1, 0, none⟩) N c1) N ((zst L x q).map (.int .i64)) := ho
          have hbt' := below_drewN hbt r
          generalize wr.drewN r = wu at *
          clear hc0 hf0 ho hbt hF1 hc1
          go_wp2_with fail
          refine (add_nat a0 (KH.mul a1 x) _ hv0 hml).mono ?_; rintro e w2 ⟨rfl, rfl⟩
          go_wp2
          go_roundw
          case rel => exact ⟨q + 1, by omega, by go_num, by rw [← HST.out]; exact (ho'.stored q _).1, hbt'.setCell (p := ⟨g1, q, none⟩) hg1 _⟩
          case measure => simp [intOf]; omega
        · obtain rfl : q = k + 1 := by omega
          have hd1 : decide (((k + 1 : Nat) : Int) < (N : Int) - 1) = false := by rw [decide_eq_false_iff_not]; omega
          have hd2 : decide ((k : Int) + 1 < (N : Int) - 1) = false := by rw [decide_eq_false_iff_not]; omega
          have hZ : zst L x (k + 1) = zi (KH.ml L x) := by rw [← zst_all, HZL.out]
          rw [hZ, ← HZN.out] at ho
          obtain rfl : N = k + 1 + 1 := by omega
          go_wp2
          go_roundw
          case rel => exact ⟨k + 1, by omega, by go_num, ho, hbt⟩
          case measure => simp [intOf]; omega
    · obtain rfl : k = m := by omega
      obtain ⟨g, cp, rfl, hg, hg'⟩ := hown.form (by omega)
      go_wp2
      go_ret
      exact ⟨_, _, rfl, hown, hb⟩
end Go.Proofs.YtdeoibgedjbeiaaDoor
