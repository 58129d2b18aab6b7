/- The walks of poly.Weights. -/
import Derived.Test.YtdeoibgedjbeiaaDoorPolyB
import Derived.Deep.RegionHeld3
namespace Go.Proofs.YtdeoibgedjbeiaaDoor
open Go.RowKit

theorem quiet_eq {P : Program} {f : FuncId} {args : Array Value} {w : World} {n : Nat} {v : Value}
    (h : Calls P f args (w.drewN n) fun e w' => e = .returned v ∧ w.drewN n = w') : Calls P f args (w.drewN n) fun e w'' => e = .returned v ∧ ∃ m, w'' = w.drewN m :=
  h.mono fun _ _ ⟨he, hm⟩ => ⟨he, n, hm.symm⟩

theorem alloc3 (w : World) (a b c : Value) (t : TypeId) :
    (((w.alloc (.cells #[a] t)).alloc (.cells #[b] t)).alloc (.cells #[c] t)).cell? ⟨w.heap.size, 0, none⟩ = some a ∧
    (((w.alloc (.cells #[a] t)).alloc (.cells #[b] t)).alloc (.cells #[c] t)).cell? ⟨w.heap.size + 1, 0, none⟩ = some b ∧
    (((w.alloc (.cells #[a] t)).alloc (.cells #[b] t)).alloc (.cells #[c] t)).cell? ⟨w.heap.size + 1 + 1, 0, none⟩ = some c ∧
    (((w.alloc (.cells #[a] t)).alloc (.cells #[b] t)).alloc (.cells #[c] t)).frozen? ⟨w.heap.size + 1 + 1, 0, none⟩ = false := by
  refine ⟨?_, ?_, ?_, ?_⟩
  · rw [World.cell?_alloc_past _ _ _ (by simp; omega), World.cell?_alloc_past _ _ _ (by simp), World.cell?_alloc_at _ _ _ _ rfl]; rfl
  · rw [World.cell?_alloc_past _ _ _ (by simp), World.cell?_alloc_at _ _ _ _ (by simp)]; rfl
  · rw [World.cell?_alloc_at _ _ _ _ (by simp)]; rfl
  · rw [World.frozen?_alloc_at _ _ _ _ (by simp)]

theorem own_under {w w' : World} {base B : Nat} {e : TypeId} {size n c g : Nat} {xs : List Value} (h : w.ownsRow base e size (.slice (some ⟨g, 0, none⟩) n c) n xs) (hb : Below B w w') (hg : g < B) : w'.ownsRow base e size (.slice (some ⟨g, 0, none⟩) n c) n xs := by
  obtain ⟨h1, h2⟩ := h
  refine ⟨h1, ?_⟩
  rcases h2 with h2 | ⟨g', cap, cur, hv, hg', hh, r⟩
  · exact Or.inl h2
  · have e1 : g' = g := by injection hv with hv; injection hv with hv; injection hv with hv; exact hv.symm
    exact Or.inr ⟨g', cap, cur, hv, hg', by rw [hb.block g' (by omega)]; exact hh, r⟩

/-- one more factor of a weight -/
def wf (xs : List Nat) (i x k p : Nat) : Nat := if k = i then p else KH.mul p (KH.mul (x ^^^ xs.getD k 0) (KH.inv (xs.getD i 0 ^^^ xs.getD k 0)))

set_option maxRecDepth 100000 in
theorem weight_step (b p o i k x at_ gk gi gf gx ga : Nat) (w : World) (h : FieldAt b w) (hb : b ≠ gk) (hp : p < 256) (ho : o < 256) (hk : k < 256) (hx : x < 256) (ha : at_ < 256) (hne : k ≠ i → at_ ≠ o)
    (ck : w.cell? ⟨gk, 0, none⟩ = some (.int .i64 ((k : Int) - 1))) (ci : w.cell? ⟨gi, 0, none⟩ = some (.int .i64 i)) (cf : w.cell? ⟨gf, 0, none⟩ = some (.pointer (some ⟨b, 0, none⟩))) (cx : w.cell? ⟨gx, 0, none⟩ = some (.int .i64 x)) (ca : w.cell? ⟨ga, 0, none⟩ = some (.int .i64 at_))
    (fk : w.frozen? ⟨gk, 0, none⟩ = false) (ni : gi ≠ gk) (nf : gf ≠ gk) (nx : gx ≠ gk) (na : ga ≠ gk) :
    Calls Tryd.prog 51 #[.int .i64 p, .int .i64 o, .pointer (some ⟨gk, 0, none⟩), .pointer (some ⟨gi, 0, none⟩), .pointer (some ⟨gf, 0, none⟩), .pointer (some ⟨gx, 0, none⟩), .pointer (some ⟨ga, 0, none⟩)] w
      fun e w' => e = .returned (.int .i64 (if k = i then p else KH.mul p (KH.mul (x ^^^ o) (KH.inv (at_ ^^^ o))) : Nat)) ∧ ∃ q, w' = (w.setCell ⟨gk, 0, none⟩ (.int .i64 k)).drewN q := by
  have other : ∀ {b' o' : Nat} (v : Value), b' ≠ gk → (w.setCell ⟨gk, 0, none⟩ v).cell? ⟨b', o', none⟩ = w.cell? ⟨b', o', none⟩ := fun v hne => World.cell?_setCell_other _ _ _ _ (by intro e; injection e with e _; exact hne e.symm)
  have hs : ((k : Int) - 1) + 1 = k := by omega
  have ck' : (w.setCell ⟨gk, 0, none⟩ (.int .i64 k)).cell? ⟨gk, 0, none⟩ = some (.int .i64 k) := KH.cell_put_same ck
  have ci' := (other (o' := 0) (.int .i64 k) ni).trans ci
  have cf' := (other (o' := 0) (.int .i64 k) nf).trans cf
  have cx' := (other (o' := 0) (.int .i64 k) nx).trans cx
  have ca' := (other (o' := 0) (.int .i64 k) na).trans ca
  have hF : FieldAt b (w.setCell ⟨gk, 0, none⟩ (.int .i64 k)) := ⟨fun j hj => (other _ hb).trans (h.num j hj), fun j hj => (other _ hb).trans (h.dig j hj)⟩
  clear other h ci cf cx ca
  by_cases hki : k = i
  · have hb : ((k : Int) == (i : Int)) = true := by simp [hki]
    rw [if_pos hki]
    clear hki hne
    go_enter Tryd.func51, Tryd.ntmps51
    go_wp2
    go_ret
    exact ⟨rfl, 0, rfl⟩
  · have hb : ((k : Int) == (i : Int)) = false := by simp; omega
    rw [if_neg hki]
    have hao := hne hki
    have hz := KH.xor_ne hao
    have h1 := KH.xor_lt hx ho
    have h2 := KH.xor_lt ha ho
    have h3 : 1 ≤ at_ ^^^ o := by omega
    have h4 := KH.mul_lt (x ^^^ o) (KH.inv (at_ ^^^ o))
    clear hki hne hao hz
    go_enter Tryd.func51, Tryd.ntmps51
    go_wp2
    go_quiet ((first | (go_at_call 34; exact quiet_eq (padd_in _ _ _ (by omega) (by omega))) | (go_at_call 52; exact Calls.quiet_of (div_in _ _ _ _ (hF.drewN _) (by omega) (by omega) (by omega) (by omega)))))
    go_wp2_with fail
    simp only [Int.toNat_natCast]
    refine (pmul_in _ _ _ _ (hF.drewN _) hp h4).mono ?_; rintro e w' ⟨rfl, q, rfl⟩
    go_wp2
    go_ret
    exact ⟨rfl, _, rfl⟩

/-- what holds of the fold of a weight before its step k -/
structure WeightTo (xs : List Nat) (i x gk : Nat) (W : World) (k : Nat) (s : Int) (w : World) : Prop where
  below : Below gk W w
  val : s = ((KH.wt xs i x k : Nat) : Int)
  ctr : w.cell? ⟨gk, 0, none⟩ = some (.int .i64 ((k : Int) - 1))
  free : w.frozen? ⟨gk, 0, none⟩ = false

theorem weight_fold {B n : Nat} {A : Option Addr} (c : Nat) {l : List Int} {W : World} (h : KH.Reads W B 1 A n (l.map (.int .i64))) (hn : n ≤ 255) (ha : allB l = true) (hnd : l.Nodup) {i x b gk gi gf gx ga : Nat} (hB : B ≤ gk) (hF : FieldAt b W) (hb : b < gk) (hx : x < 256) (hin : i < n)
    (ck : W.cell? ⟨gk, 0, none⟩ = some (.int .i64 (-1))) (ci : W.cell? ⟨gi, 0, none⟩ = some (.int .i64 i)) (cf : W.cell? ⟨gf, 0, none⟩ = some (.pointer (some ⟨b, 0, none⟩))) (cx : W.cell? ⟨gx, 0, none⟩ = some (.int .i64 x)) (ca : W.cell? ⟨ga, 0, none⟩ = some (.int .i64 ((nats l).getD i 0 : Nat)))
    (fk : W.frozen? ⟨gk, 0, none⟩ = false) (ni : gi < gk) (nf : gf < gk) (nx : gx < gk) (na : ga < gk) :
    Calls Tryd.prog 32 #[.slice A n c, .int .i64 1, .func (.func 51) #[] #[.pointer (some ⟨gk, 0, none⟩), .pointer (some ⟨gi, 0, none⟩), .pointer (some ⟨gf, 0, none⟩), .pointer (some ⟨gx, 0, none⟩), .pointer (some ⟨ga, 0, none⟩)]] W
      fun e w' => e = .returned (.int .i64 (KH.wt (nats l) i x n : Nat)) ∧ Below gk W w' := by
  have hl : l.length = n := by have := h.1; simpa using this
  have hd := dg_nats ha
  have hnl : (nats l).length = n := by rw [nats_length, hl]
  have hnn : (nats l).Nodup := by
    unfold nats
    refine List.pairwise_map.2 (hnd.imp_of_mem fun {a b} hma hmb hab e => hab ?_)
    have h1 := allB_iff.1 ha a hma
    have h2 := allB_iff.1 ha b hmb
    omega
  refine (fold_int (B := B) c (by unfold maxLen; omega) hl 51 (fun _ _ => rfl) _ 1 (fun k s wr => WeightTo (nats l) i x gk W k s wr) ⟨Below.refl _ _, rfl, ck, fk⟩ (fun k s wr hI => h.below (hI.below.mono hB)) (fun k s z wr hk hz hI => ?_)).mono fun e w' ⟨s, he, hI⟩ => ⟨by rw [he, hI.val], hI.below⟩
  obtain ⟨hbl, rfl, hck, hfr⟩ := hI
  rw [nats_get ha hz]
  have hF' : FieldAt b wr := ⟨fun j hj => by rw [hbl.cell (p := ⟨b, j, none⟩) hb]; exact hF.num j hj, fun j hj => by rw [hbl.cell (p := ⟨b, 256 + j, none⟩) hb]; exact hF.dig j hj⟩
  have hc : ∀ {g : Nat} {v : Value}, g < gk → W.cell? ⟨g, 0, none⟩ = some v → wr.cell? ⟨g, 0, none⟩ = some v := fun hg hv => (hbl.cell (p := ⟨_, 0, none⟩) hg).trans hv
  refine (weight_step b (KH.wt (nats l) i x k) ((nats l).getD k 0) i k x ((nats l).getD i 0) gk gi gf gx ga wr hF' (by omega) (KH.wt_lt _ _ _ _) (hd.getD k) (by omega) hx (hd.getD i) (fun hne => KH.nodup_ne hnn (by omega) (by omega) (fun e => hne e.symm))
    hck (hc ni ci) (hc nf cf) (hc nx cx) (hc na ca) hfr (by omega) (by omega) (by omega) (by omega)).mono fun e w' ⟨he, q, hw⟩ => ⟨_, he, ?_⟩
  subst hw
  refine ⟨below_drewN (hbl.setCell (p := ⟨gk, 0, none⟩) (Nat.le_refl _) _) q, rfl, ?_, ?_⟩
  · show (wr.setCell _ _).cell? _ = _
    rw [KH.cell_put_same hck]
    congr 3
    omega
  · show (wr.setCell _ _).frozen? _ = _
    rw [World.frozen?_setCell]; exact hfr

/-- the weights -/
def wts (l : List Int) (x : Nat) (k n : Nat) : List Int := (List.range n).map fun j => if j < k then ((KH.wt (nats l) j x n : Nat) : Int) else 0
theorem wts_length (l : List Int) (x k n : Nat) : (wts l x k n).length = n := by simp [wts]
theorem wts_zero (l : List Int) (x n : Nat) : (wts l x 0 n).map (Value.int .i64) = List.replicate n (.int .i64 0) := by
  refine List.ext_getElem (by simp [wts]) fun j h1 h2 => ?_
  simp [wts]
theorem wts_step (l : List Int) (x k n : Nat) : ((wts l x k n).map (Value.int .i64)).set k (.int .i64 (KH.wt (nats l) k x n : Nat)) = (wts l x (k + 1) n).map (Value.int .i64) := by
  refine List.ext_getElem (by simp [wts]) fun j h1 h2 => ?_
  rw [List.getElem_set]
  by_cases e : k = j
  · subst e; rw [if_pos rfl]; simp [wts]
  · rw [if_neg e]
    simp only [wts, List.getElem_map, List.getElem_range]
    by_cases hl : j < k
    · rw [if_pos hl, if_pos (by omega)]
    · rw [if_neg hl, if_neg (by omega)]

/-- are weights told? -/
def weightsK (l : List Int) (x : Int) : Bool := placesB l && dgB x
def weightsV (l : List Int) (x : Int) : List Int := if weightsK l x then wts l x.toNat l.length l.length else []
def WeightsPost (w : World) (l : List Int) (x : Int) (e : Ending) (w' : World) : Prop :=
  ∃ A' n' c', e = .returned (.tuple #[.slice A' n' c', .bool (weightsK l x)]) ∧ w'.ownsRow w.heap.size 3 1 (.slice A' n' c') n' ((weightsV l x).map (.int .i64)) ∧ Below w.heap.size w w' ∧ (weightsV l x).length = n'

theorem int_info : (Tryd.prog.info? 3).map (fun i => (i.zero, i.size, i.bytes)) = some (some (.int .i64 0), 1, 8) := by kernel_rfl

theorem weights_no {n : Nat} {A : Option Addr} (c : Nat) {l : List Int} {w : World} (h : KH.Reads w w.heap.size 1 A n (l.map (.int .i64))) (hn : n ≤ maxLen) (x : Int) (hk : weightsK l x = false) :
    Calls Tryd.prog 37 #[.slice A n c, .int .i64 x] w (WeightsPost w l x) := by
  have HV : Hid (weightsV l x = []) := by unfold Hid weightsV; rw [hk]; rfl
  have HK := KH.hid hk
  have hz : w.heap.size < (w.alloc (.cells #[.int .i64 x] 3)).heap.size := by simp
  have hb0 := (Below.refl w.heap.size w).alloc (Nat.le_refl _) (.cells #[.int .i64 x] 3)
  have h' : KH.Reads (w.alloc (.cells #[.int .i64 x] 3)) (w.alloc (.cells #[.int .i64 x] 3)).heap.size 1 A n (l.map (.int .i64)) := (h.alloc (Nat.le_refl _) _).more (by omega)
  unfold weightsK at hk
  cases hr : placesB l
  · clear hk
    go_enter Tryd.func37, Tryd.ntmps37
    go_wp2_with fail
    refine (right_any _ h' hn).mono ?_; rintro e w1 ⟨rfl, hb1⟩
    rw [hr]
    go_wp2
    go_ret2
    exact ⟨none, 0, 0, by rw [HK.out]; rfl, by rw [HV.out]; exact World.ownsRow_nil _ _ _ _, hb0.trans (hb1.mono (by omega)), by rw [HV.out]; rfl⟩
  · rw [hr, Bool.true_and] at hk
    have H1 : allB [x] = false := by unfold allB; simp [hk]
    clear hk
    go_enter Tryd.func37, Tryd.ntmps37
    go_wp2_with fail
    refine (right_any _ h' hn).mono ?_; rintro e w1 ⟨rfl, hb1⟩
    rw [hr]
    have hs1 := hb1.size
    have hc1 := (hb1.cell (p := ⟨w.heap.size, 0, none⟩) hz).trans (show _ = some (.int .i64 x) by simp)
    have h1 := reads_one w1 x 3 w1.heap.size rfl
    go_wp2_with fail
    refine (digits_any _ h1 (by unfold maxLen; omega)).mono ?_; rintro e w' ⟨rfl, rfl⟩
    rw [H1]
    go_wp2
    go_ret2
    exact ⟨none, 0, 0, by rw [HK.out]; rfl, by rw [HV.out]; exact World.ownsRow_nil _ _ _ _, (hb0.trans (hb1.mono (by omega))).alloc (by omega) _, by rw [HV.out]; rfl⟩

set_option maxRecDepth 100000 in
theorem weights_yes {n : Nat} {A : Option Addr} (c : Nat) {l : List Int} {w : World} (h : KH.Reads w w.heap.size 1 A n (l.map (.int .i64))) (hn : n ≤ maxLen) (x : Int) (hk : weightsK l x = true) :
    Calls Tryd.prog 37 #[.slice A n c, .int .i64 x] w (WeightsPost w l x) := by
  obtain ⟨i0, hi, hz0, hz1, hz2⟩ := info_parts int_info
  have hl : l.length = n := by have := h.1; simpa using this
  have HV : Hid (weightsV l x = wts l x.toNat n n) := by unfold Hid weightsV; rw [hk, hl]; rfl
  have HK := KH.hid hk
  unfold weightsK at hk
  rw [Bool.and_eq_true] at hk
  obtain ⟨hr, hx⟩ := hk
  have hx' : 0 ≤ x ∧ x ≤ 255 := by unfold dgB at hx; simpa using hx
  have h1x : allB [x] = true := by unfold allB; simp [hx]
  have hr' := hr
  unfold placesB at hr'
  rw [Bool.and_eq_true, decide_eq_true_iff] at hr'
  obtain ⟨⟨hp1, hp2, hp3⟩, hall⟩ := hr'
  have HP := KH.hid (And.intro hall hp3)
  have hn1 : 1 ≤ n := by omega
  have hn255 : n ≤ 255 := by omega
  have HL := KH.hid hl
  clear hx hl hp1 hp2 hp3 hall
  obtain ⟨y, rfl⟩ := Int.eq_ofNat_of_zero_le hx'.1
  rw [Int.toNat_natCast] at HV
  have hy : y < 256 := by omega
  clear hx'
  have hz : w.heap.size < (w.alloc (.cells #[.int .i64 y] 3)).heap.size := by simp
  have hb0 := (Below.refl w.heap.size w).alloc (Nat.le_refl _) (.cells #[.int .i64 y] 3)
  have h' : KH.Reads (w.alloc (.cells #[.int .i64 y] 3)) (w.alloc (.cells #[.int .i64 y] 3)).heap.size 1 A n (l.map (.int .i64)) := (h.alloc (Nat.le_refl _) _).more (by omega)
  go_enter Tryd.func37, Tryd.ntmps37
  go_wp2_with fail
  refine (right_any _ h' hn).mono ?_; rintro e w1 ⟨rfl, hb1⟩
  rw [hr]
  clear hr
  have hs1 := hb1.size
  have hc1 := (hb1.cell (p := ⟨w.heap.size, 0, none⟩) hz).trans (show _ = some (.int .i64 y) by simp)
  have h1 := reads_one w1 y 3 w1.heap.size rfl
  go_wp2_with fail
  refine (digits_any _ h1 (by unfold maxLen; omega)).mono ?_; rintro e w' ⟨rfl, rfl⟩
  rw [h1x]
  clear h1x
  go_wp2_with fail
  refine (new_any _).mono ?_; rintro e w2 ⟨rfl, hF, hb2, hs2⟩
  have hbA := (hb0.trans (hb1.mono (by omega))).alloc (by omega) (.cells #[.int .i64 y] 3)
  have hcA : (w1.alloc (.cells #[.int .i64 y] 3)).cell? ⟨w.heap.size, 0, none⟩ = some (.int .i64 y) := by rw [World.cell?_alloc_lt _ _ _ (by show w.heap.size < _; omega)]; exact hc1
  have hzA : w1.heap.size < (w1.alloc (.cells #[.int .i64 y] 3)).heap.size := by simp
  generalize (w1.alloc (.cells #[.int .i64 y] 3)) = WA at *
  go_wp2_with (at_make; refine wpList_make_full _ rfl _ _ 42 rfl w.heap.size 3 i0 (.int .i64 0) 1 Tryd.underlying42 hi hz0 hz1 .i64 .i64 _ _ n rfl rfl rfl rfl (by rw [hz2]; omega) (by unfold maxLen; omega) (by have := hb2.size; simp; omega) ?_; intro w3 hown3 hg3)
  have e1 : (w2.alloc (.cells #[.pointer (some ⟨WA.heap.size, 0, none⟩)] 55)).heap.size = w2.heap.size + 1 := by simp
  rw [e1] at hown3
  clear e1
  have hbF := (Below.refl w2.heap.size w2).alloc (Nat.le_refl _) (.cells #[.pointer (some ⟨WA.heap.size, 0, none⟩)] 55)
  have hcF : (w2.alloc (.cells #[.pointer (some ⟨WA.heap.size, 0, none⟩)] 55)).cell? ⟨w2.heap.size, 0, none⟩ = some (.pointer (some ⟨WA.heap.size, 0, none⟩)) := by simp
  have hzF : (w2.alloc (.cells #[.pointer (some ⟨WA.heap.size, 0, none⟩)] 55)).heap.size = w2.heap.size + 1 := by simp
  generalize (w2.alloc (.cells #[.pointer (some ⟨WA.heap.size, 0, none⟩)] 55)) = WF at *
  have hzl : WF.heap.size ≤ w2.heap.size + 1 := by omega
  have hzl' : w2.heap.size + 1 ≤ WF.heap.size := by omega
  clear hzF
  have hb3 : Below (w2.heap.size + 1) WF w3 := (Below.refl _ _).grown hg3 hzl' (fun _ h => by cases h)
  clear hg3
  have hAF := (hb2.mono (show w.heap.size ≤ WA.heap.size by omega)).trans (hbF.mono (by have := hb2.size; omega))
  have HB3 := KH.hid ((hbA.trans hAF).trans (hb3.mono (by have := hb2.size; omega)))
  have hc3 := (hb3.cell (p := ⟨w2.heap.size, 0, none⟩) (by show w2.heap.size < _; omega)).trans hcF
  have hF3 : FieldAt WA.heap.size w3 := by
    refine ⟨fun j hj => ?_, fun j hj => ?_⟩
    · rw [hb3.cell (p := ⟨WA.heap.size, j, none⟩) (by show WA.heap.size < _; omega), hbF.cell (p := ⟨WA.heap.size, j, none⟩) hs2]; exact hF.num j hj
    · rw [hb3.cell (p := ⟨WA.heap.size, 256 + j, none⟩) (by show WA.heap.size < _; omega), hbF.cell (p := ⟨WA.heap.size, 256 + j, none⟩) hs2]; exact hF.dig j hj
  have hx3 : w3.cell? ⟨w.heap.size, 0, none⟩ = some (.int .i64 y) := by
    rw [hb3.cell (p := ⟨w.heap.size, 0, none⟩) (by show w.heap.size < _; omega), hbF.cell (p := ⟨w.heap.size, 0, none⟩) (by show w.heap.size < _; omega), hb2.cell (p := ⟨w.heap.size, 0, none⟩) (by show w.heap.size < _; omega)]; exact hcA
  have HR3 := KH.hid (h.below HB3.out)
  have HS3 := KH.hid (show w.heap.size < w2.heap.size ∧ WA.heap.size < w2.heap.size by omega)
  clear hb3 hbF hcF hF hcA hbA hAF hb2 hb1 hb0 hc1 h' h h1 hzl hzl' hs1 hz hzA
  rw [show (madeCells (Value.int .i64 0).cells (n * 1)).toList = (wts l y 0 n).map (Value.int .i64) by rw [wts_zero, Nat.mul_one]; exact toList_madeCells_one _ _] at hown3
  generalize w2.heap.size = gF at *
  generalize WA.heap.size = bF at *
  go_loopw [26] (fun i wr => ∃ k : Nat, k ≤ n ∧ i = .int .i64 k ∧ wr.ownsRow w.heap.size 3 1 (.slice (some ⟨gF + 1, 0, none⟩) n n) n ((wts l y k n).map (.int .i64)) ∧ Below (gF + 1) w3 wr) (fun i _ => n - (intOf i).toNat)
  case atStart => exact ⟨0, Nat.zero_le _, rfl, hown3, Below.refl _ _⟩
  case round =>
    obtain ⟨k, hk, rfl, hown, hb⟩ := hrel
    clear hown3
    by_cases hlt : k < n
    · have hrr := HR3.out.below (hb.mono (by have := HS3.out; omega))
      obtain ⟨ad, z, rfl, _, hx, hc⟩ := hrr.int hlt
      obtain ⟨v, hv⟩ : ∃ v : Nat, v = (nats l).getD k 0 := ⟨_, rfl⟩
      have hz := nats_get HP.out.1 hx
      rw [← hv] at hz
      subst hz
      have HX := KH.hid hv
      clear hx hv
      go_wp2
      have hbW := (((Below.refl wr.heap.size wr).alloc (Nat.le_refl _) (.cells #[.int .i64 k] 3)).alloc (by simp) (.cells #[.int .i64 v] 3)).alloc (by simp; omega) (.cells #[.int .i64 (-1)] 3)
      obtain ⟨hci, hca, hck, hfk⟩ := alloc3 wr (.int .i64 k) (.int .i64 v) (.int .i64 (-1)) 3
      generalize (((wr.alloc (.cells #[.int .i64 k] 3)).alloc (.cells #[.int .i64 v] 3)).alloc (.cells #[.int .i64 (-1)] 3)) = W5 at *
      have hzr : gF + 1 < wr.heap.size := (hown.lt (gF + 1) rfl).2
      have hb5 := hb.trans (hbW.mono (by omega))
      have hown5 := KH.own_below hown hbW
      have hr5 := (HR3.out.below (hb5.mono (by have := HS3.out; omega))).drew
      have hF5 : FieldAt bF W5.drew := ⟨fun j hj => (hb5.cell (p := ⟨bF, j, none⟩) (by have := HS3.out; show bF < _; omega)).trans (hF3.num j hj), fun j hj => (hb5.cell (p := ⟨bF, 256 + j, none⟩) (by have := HS3.out; show bF < _; omega)).trans (hF3.dig j hj)⟩
      have hcf5 := (hb5.cell (p := ⟨gF, 0, none⟩) (by show gF < _; omega)).trans hc3
      have hcx5 := (hb5.cell (p := ⟨w.heap.size, 0, none⟩) (by have := HS3.out; show w.heap.size < _; omega)).trans hx3
      have HW := KH.hid (weight_fold (W := W5.drew) (gk := wr.heap.size + 1 + 1) (gi := wr.heap.size) (gf := gF) (gx := w.heap.size) (ga := wr.heap.size + 1) (i := k) c hr5 hn255 HP.out.1 HP.out.2 (by have := HS3.out; omega) hF5 (by have := HS3.out; omega) hy hlt hck hci hcf5 hcx5 (by rw [← HX.out]; exact hca) hfk (by omega) (by omega) (by have := HS3.out; omega) (by omega))
      have HC7 : Hid (∀ w7, Below (wr.heap.size + 1 + 1) W5.drew w7 → w7.cell? ⟨wr.heap.size, 0, none⟩ = some (.int .i64 k)) := fun w7 h7 => (h7.cell (p := ⟨wr.heap.size, 0, none⟩) (by show wr.heap.size < _; omega)).trans hci
      have HO7 : Hid (∀ w7, Below (wr.heap.size + 1 + 1) W5.drew w7 → w7.ownsRow w.heap.size 3 1 (.slice (some ⟨gF + 1, 0, none⟩) n n) n ((wts l y k n).map (.int .i64))) := fun w7 h7 => own_under hown5.drew h7 (by omega)
      have HB7 : Hid (∀ w7, Below (wr.heap.size + 1 + 1) W5.drew w7 → Below (gF + 1) w3 w7) := fun w7 h7 => hb5.drew.trans (h7.mono (by omega))
      obtain ⟨u, hu⟩ : ∃ u, ((wts l y k n).map (Value.int .i64))[k]? = some u := ⟨_, List.getElem?_eq_getElem (by simp [wts_length]; omega)⟩
      have HU := KH.hid hu
      have HST := KH.hid (wts_step l y k n)
      generalize ((KH.wt (nats l) k y n : Nat) : Int) = wv at *
      clear hca hck hfk hr5 hF5 hcf5 hcx5 hx3 hc3 hF3 hown hown5 hb5 hbW hb hrr hu
      go_region_held3 (fun w' => w'.cell? ⟨wr.heap.size, 0, none⟩ = some (.int .i64 k)) (first | assumption | (rw [World.cell?_setCell_other _ _ _ _ (by intro e; injection e with e; omega)]; assumption) | go_keep) (first | (go_at_call 32; refine HW.out.mono ?_; rintro e w7 ⟨rfl, hb6⟩; have hc7 := HC7.out w7 hb6; have ho7 := HO7.out w7 hb6; have hl7 := (ho7.cellAt k (by omega)).trans HU.out; have hf7 := ho7.frozenAt k))
      go_wp2
      go_roundw
      case rel => exact ⟨k + 1, by omega, by go_num, by rw [← HST.out]; exact (ho7.stored k _).1, (HB7.out w7 hb6).setCell (p := ⟨gF + 1, k, none⟩) (Nat.le_refl _) _⟩
      case measure => simp [intOf]; omega
    · obtain rfl : k = n := by omega
      clear hx3 hc3 hF3
      go_wp2
      go_ret2
      exact ⟨_, _, _, by rw [HK.out]; rfl, by rw [HV.out]; exact hown, HB3.out.trans (hb.mono (by have := HS3.out; omega)), by rw [HV.out, wts_length]⟩
end Go.Proofs.YtdeoibgedjbeiaaDoor
