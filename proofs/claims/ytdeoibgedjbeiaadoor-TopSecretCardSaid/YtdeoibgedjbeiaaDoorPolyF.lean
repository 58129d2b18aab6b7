/- The plain laws of the statements on polynomials. -/
import Derived.Test.YtdeoibgedjbeiaaDoorPolyE
namespace Go.Proofs.YtdeoibgedjbeiaaDoor

theorem evalK_iff {l : List Int} {x : Int} : evalK l x = true ↔ l.length ≤ 255 ∧ allB l = true ∧ dgB x = true := by
  unfold evalK; simp only [Bool.and_eq_true, decide_eq_true_iff]; exact ⟨fun h => ⟨h.1.1, h.1.2, h.2⟩, fun h => ⟨⟨h.1, h.2.1⟩, h.2.2⟩⟩
theorem dgB_iff {x : Int} : dgB x = true ↔ 0 ≤ x ∧ x ≤ 255 := by unfold dgB; simp
theorem evalV_eq {l : List Int} {x : Int} (h : evalK l x = true) : evalV l x = ((KH.ev (nats l) x.toNat : Nat) : Int) := by unfold evalV; rw [h]; rfl
theorem evalV_dg {l : List Int} {x : Int} (h : evalK l x = true) : 0 ≤ evalV l x ∧ evalV l x ≤ 255 := by
  rw [evalV_eq h]
  have := KH.ev_lt (dg_nats (evalK_iff.1 h).2.1) x.toNat
  omega

/-- sums, one by one -/
def xors (l m : List Int) : List Int := List.zipWith addV l m
theorem xors_length {l m : List Int} (e : l.length = m.length) : (xors l m).length = l.length := by unfold xors; rw [List.length_zipWith, e, Nat.min_self]
theorem xors_step {l m : List Int} {k : Nat} {x y : Int} (hx : l[k]? = some x) (hy : m[k]? = some y) : (xors l m).take (k + 1) = (xors l m).take k ++ [addV x y] := by
  rw [List.take_add_one]
  congr 1
  unfold xors
  rw [List.getElem?_zipWith, hx, hy]; rfl
theorem addV_nat {x y : Int} (hx : dgB x = true) (hy : dgB y = true) : addV x y = ((x.toNat ^^^ y.toNat : Nat) : Int) := by unfold addV addK; rw [hx, hy]; rfl
theorem nats_xors {l m : List Int} (hl : allB l = true) (hm : allB m = true) (e : l.length = m.length) : nats (xors l m) = KH.zx (nats l) (nats m) ∧ allB (xors l m) = true := by
  induction l generalizing m with
  | nil => cases m with
    | nil => exact ⟨rfl, rfl⟩
    | cons y m => cases e
  | cons x l ih => cases m with
    | nil => cases e
    | cons y m =>
      have h1 : dgB x = true ∧ allB l = true := by unfold allB at hl; rw [List.all_cons, Bool.and_eq_true] at hl; exact hl
      have h2 : dgB y = true ∧ allB m = true := by unfold allB at hm; rw [List.all_cons, Bool.and_eq_true] at hm; exact hm
      obtain ⟨i1, i2⟩ := ih h1.2 h2.2 (by simpa using e)
      have e1 := addV_nat h1.1 h2.1
      have hx := dgB_iff.1 h1.1
      have hy := dgB_iff.1 h2.1
      have hlt := KH.xor_lt (a := x.toNat) (b := y.toNat) (by omega) (by omega)
      constructor
      · show (addV x y).toNat :: nats (xors l m) = (x.toNat ^^^ y.toNat) :: KH.zx (nats l) (nats m)
        rw [i1, e1, Int.toNat_natCast]
      · show (dgB (addV x y) && allB (xors l m)) = true
        rw [i2, Bool.and_true, dgB_iff, e1]
        omega

theorem adds_law {l m : List Int} (hl : allB l = true) (hm : allB m = true) (e : l.length = m.length) (h255 : l.length ≤ 255) (x : Int) :
    evalK l x = dgB x ∧ evalK m x = dgB x ∧ evalK (xors l m) x = dgB x ∧ (dgB x = true → addK (evalV l x) (evalV m x) = true ∧ evalV (xors l m) x = addV (evalV l x) (evalV m x)) := by
  obtain ⟨h1, h2⟩ := nats_xors hl hm e
  have k1 : evalK l x = dgB x := by unfold evalK; rw [decide_eq_true h255, hl]; rfl
  have k2 : evalK m x = dgB x := by unfold evalK; rw [decide_eq_true (by omega), hm]; rfl
  have k3 : evalK (xors l m) x = dgB x := by unfold evalK; rw [decide_eq_true (by rw [xors_length e]; exact h255), h2]; rfl
  refine ⟨k1, k2, k3, fun hx => ?_⟩
  have d1 := evalV_dg (k1.trans hx)
  have d2 := evalV_dg (k2.trans hx)
  refine ⟨addK_iff.2 ⟨d1, d2⟩, ?_⟩
  rw [addV_nat (dgB_iff.2 d1) (dgB_iff.2 d2), evalV_eq (k1.trans hx), evalV_eq (k2.trans hx), evalV_eq (k3.trans hx), Int.toNat_natCast, Int.toNat_natCast, h1,
    KH.ev_zx (dg_nats hl) (dg_nats hm) (by rw [nats_length, nats_length, e]) (by have := dgB_iff.1 hx; omega)]

/-- zeros that are counted -/
def zc (l : List Int) (k : Nat) : Nat := (List.range k).countP fun (x : Nat) => evalV l (x : Int) == 0
theorem zc_step (l : List Int) (k : Nat) : zc l (k + 1) = zc l k + if evalV l (k : Int) == 0 then 1 else 0 := by
  unfold zc; rw [List.range_succ, List.countP_append]; simp [List.countP_cons]
theorem zc_le (l : List Int) (k : Nat) : zc l k ≤ k := by
  have := List.countP_le_length (p := fun x : Nat => evalV l (x : Int) == 0) (l := List.range k)
  rw [List.length_range] at this; exact this

theorem dgN_zero (l : List Int) (k : Nat) {j : Nat} (h1 : dgN l k < j) (h2 : j < k) : l.getD j 0 = 0 := by
  induction k with
  | zero => omega
  | succ k ih =>
    unfold dgN at h1
    by_cases e : l.getD k 0 = 0
    · rw [if_neg (fun h => h e)] at h1
      by_cases hj : j = k
      · subst hj; exact e
      · exact ih h1 (by omega)
    · rw [if_pos e] at h1; omega
theorem dgN_ne (l : List Int) (k : Nat) (h : 0 ≤ dgN l k) : l.getD (dgN l k).toNat 0 ≠ 0 := by
  induction k with
  | zero => exact absurd h (by show ¬ (0 : Int) ≤ -1; omega)
  | succ k ih =>
    unfold dgN at h ⊢
    by_cases e : l.getD k 0 = 0
    · rw [if_neg (fun h => h e)] at h ⊢; exact ih h
    · rw [if_pos e, Int.toNat_natCast]; exact e

theorem nats_getD (l : List Int) (k : Nat) : (nats l).getD k 0 = (l.getD k 0).toNat := by
  unfold nats; rw [List.getD, List.getD, List.getElem?_map]; cases l[k]? <;> rfl
theorem ev_take {l : List Nat} (d x : Nat) (h : ∀ j, d ≤ j → l.getD j 0 = 0) : KH.ev (l.take d) x = KH.ev l x := by
  induction l generalizing d with
  | nil => simp
  | cons a l ih =>
    cases d with
    | zero =>
      rw [List.take_zero, KH.ev_zeros (l := a :: l)]
      · rfl
      · intro b hb
        obtain ⟨j, hj, rfl⟩ := List.getElem_of_mem hb
        rw [← KH.getD_eq hj]; exact h j (by omega)
    | succ d =>
      show a ^^^ KH.mul x (KH.ev (l.take d) x) = a ^^^ KH.mul x (KH.ev l x)
      rw [ih d fun j hj => by simpa using h (j + 1) (by omega)]

theorem zeros_law {l : List Int} (hl : allB l = true) (h30 : l.length ≤ 30) (hd : 0 ≤ degL l) : (zc l 256 : Int) ≤ degL l ∧ degL l < l.length := by
  have hlt := (dgN_le l l.length).2
  refine ⟨?_, hlt⟩
  obtain ⟨d, hdd⟩ := Int.eq_ofNat_of_zero_le hd
  have hdg := dg_nats hl
  rcases Int.lt_or_le (d : Int) (zc l 256 : Nat) with h | h
  · exfalso
    have hdn : dgN l l.length = (d : Int) := hdd
    have hz : ∀ a ∈ (nats l).take (d + 1), a = 0 := by
      refine KH.all_zero (d + 1) ((nats l).take (d + 1)) ((List.range 256).filter fun (x : Nat) => evalV l (x : Int) == 0) (fun a ha => hdg a (List.mem_of_mem_take ha)) (List.length_take_le _ _) (List.nodup_range.sublist List.filter_sublist) (fun z hz => ?_) ?_
      · obtain ⟨h1, h2⟩ := List.mem_filter.1 hz
        have hz256 := List.mem_range.1 h1
        refine ⟨hz256, ?_⟩
        have hk : evalK l (z : Int) = true := evalK_iff.2 ⟨by omega, hl, dgB_iff.2 (by omega)⟩
        rw [beq_iff_eq, evalV_eq hk, Int.toNat_natCast] at h2
        rw [ev_take (d + 1) z fun j hj => ?_]
        · omega
        · rw [nats_getD]
          by_cases hjl : j < l.length
          · rw [dgN_zero l l.length (by rw [hdn]; omega) hjl]; rfl
          · rw [List.getD, List.getElem?_eq_none (by omega)]; rfl
      · rw [← List.countP_eq_length_filter]
        show d + 1 ≤ zc l 256
        omega
    have hne := dgN_ne l l.length (by rw [hdn]; omega)
    rw [hdn, Int.toNat_natCast] at hne
    have hdl : d < l.length := by omega
    have hmem : (nats l).getD d 0 ∈ (nats l).take (d + 1) := by
      rw [KH.getD_eq (by rw [nats_length]; exact hdl), List.mem_take_iff_getElem]
      exact ⟨d, by rw [nats_length]; omega, rfl⟩
    have h0 := hz _ hmem
    rw [nats_getD] at h0
    have hr : 0 ≤ l.getD d 0 := by
      have := allB_iff.1 hl (l.getD d 0) (by rw [List.getD, List.getElem?_eq_getElem hdl]; exact List.getElem_mem hdl)
      exact this.1
    omega
  · rw [hdd]; exact h

theorem nats_nodup {l : List Int} (ha : allB l = true) (hnd : l.Nodup) : (nats l).Nodup := by
  unfold nats
  refine List.pairwise_map.2 (hnd.imp_of_mem fun {a b} hma hmb hab e => hab ?_)
  have h1 := allB_iff.1 ha a hma
  have h2 := allB_iff.1 ha b hmb
  omega

theorem throughK_iff {l ys : List Int} {x : Int} : throughK l ys x = true ↔ weightsK l x = true ∧ ys.length = l.length ∧ allB ys = true := by
  unfold throughK; simp only [Bool.and_eq_true, decide_eq_true_iff]; exact ⟨fun h => ⟨h.1.1, h.1.2, h.2⟩, fun h => ⟨⟨h.1, h.2.1⟩, h.2.2⟩⟩
theorem throughV_eq {l ys : List Int} {x : Int} (h : throughK l ys x = true) : throughV l ys x = ((KH.th (nats l) (nats ys) x.toNat l.length : Nat) : Int) := by unfold throughV; rw [h]; rfl

/-- at one of the places it is that one's value -/
theorem at_law {xs ys : List Int} {k : Nat} {z : Int} (hz : xs[k]? = some z) (h : throughK xs ys z = true) : throughV xs ys z = ys.getD k 0 := by
  obtain ⟨h1, h2, h3⟩ := throughK_iff.1 h
  obtain ⟨_, _, hn, ha, _, _⟩ := weightsK_len h1
  have hk : k < xs.length := by
    rcases Nat.lt_or_ge k xs.length with h' | h'
    · exact h'
    · rw [List.getElem?_eq_none h'] at hz; cases hz
  have e1 := nats_get ha hz
  rw [throughV_eq h]
  have e2 : z.toNat = (nats xs).getD k 0 := by omega
  have e3 := KH.th_place (dg_nats ha) (nats_nodup ha hn) (dg_nats h3) (j := k) (by rw [nats_length]; exact hk)
  rw [nats_length] at e3
  rw [e2, e3]
  have hy : ys[k]? = some (ys.getD k 0) := by rw [List.getD, List.getElem?_eq_getElem (by omega)]; rfl
  exact (nats_get h3 hy).symm

/-- the sum of the weights, so far -/
def wsI (l : List Int) (x k : Nat) : Int := ((KH.ws (nats l) x k : Nat) : Int)
theorem ws_lt (xs : List Nat) (x k : Nat) : KH.ws xs x k < 256 := by
  induction k with
  | zero => exact (by omega : 0 < 256)
  | succ k ih => exact KH.xor_lt ih (KH.wt_lt _ _ _ _)

/-- through the values of a polynomial goes that polynomial -/
theorem through_law {l xs ys : List Int} (hlen : l.length ≤ xs.length) (hys : ys.length = xs.length) (hk : ∀ (k : Nat) (z : Int), xs[k]? = some z → evalK l z = true ∧ ys[k]? = some (evalV l z)) (x : Int) :
    (placesB xs = true → evalK l x = true → throughK xs ys x = true ∧ evalV l x = throughV xs ys x) ∧ (placesB xs = false ∨ evalK l x = false → throughK xs ys x = false) := by
  have hya : allB ys = true := by
    rw [allB_iff]
    intro y hy
    obtain ⟨k, hkl, rfl⟩ := List.getElem_of_mem hy
    have hx : xs[k]? = some xs[k] := List.getElem?_eq_getElem (by omega)
    obtain ⟨h1, h2⟩ := hk k _ hx
    rw [List.getElem?_eq_getElem hkl] at h2
    injection h2 with h2
    rw [h2]; exact evalV_dg h1
  constructor
  · intro hp he
    obtain ⟨hl1, hl2, hdx⟩ := evalK_iff.1 he
    have hw : weightsK xs x = true := by unfold weightsK; rw [hp, hdx]; rfl
    obtain ⟨_, _, hn, ha, _, _⟩ := weightsK_len hw
    have ht : throughK xs ys x = true := throughK_iff.2 ⟨hw, hys, hya⟩
    refine ⟨ht, ?_⟩
    rw [throughV_eq ht, evalV_eq he]
    have hdx' := dgB_iff.1 hdx
    have := KH.through (dg_nats ha) (nats_nodup ha hn) (dg_nats hya) (dg_nats hl2) (by rw [nats_length, nats_length]; exact hlen) (fun j hj => ?_) (x := x.toNat) (by omega)
    · rw [nats_length] at this; rw [this]
    · rw [nats_length] at hj
      have hx : xs[j]? = some xs[j] := List.getElem?_eq_getElem hj
      obtain ⟨h1, h2⟩ := hk j _ hx
      have e1 := nats_get hya h2
      rw [evalV_eq h1] at e1
      have e2 := nats_get ha hx
      have e3 : xs[j].toNat = (nats xs).getD j 0 := by omega
      rw [e3] at e1
      omega
  · intro h
    cases ht : throughK xs ys x
    · rfl
    · exfalso
      obtain ⟨hw, _, _⟩ := throughK_iff.1 ht
      obtain ⟨hp1, _, _, _, _, _⟩ := weightsK_len hw
      have hw' := hw
      unfold weightsK at hw'
      rw [Bool.and_eq_true] at hw'
      rcases h with h | h
      · rw [hw'.1] at h; cases h
      · have hx : xs[0]? = some xs[0] := List.getElem?_eq_getElem (by omega)
        obtain ⟨h1, h2, _⟩ := evalK_iff.1 (hk 0 _ hx).1
        rw [evalK_iff.2 ⟨h1, h2, hw'.2⟩] at h; cases h
end Go.Proofs.YtdeoibgedjbeiaaDoor
