/- The walks of poly.Through and poly.Degree. -/
import Derived.Test.YtdeoibgedjbeiaaPolyC
namespace Go.Proofs.Ytdeoibgedjbeiaa
open Go.RowKit

theorem weights_told {n : Nat} {A : Option Addr} (c : Nat) {l : List Int} {w : World} (h : KH.Reads w w.heap.size 1 A n (l.map (.int .i64))) (hn : n ≤ maxLen) (x : Int) :
    Calls Try.prog 36 #[.slice A n c, .int .i64 x] w (WeightsPost w l x) := by
  cases hk : weightsK l x
  · exact weights_no c h hn x hk
  · exact weights_yes c h hn x hk

set_option maxRecDepth 100000 in
theorem through_step (b s y v k gi gf gw gr cr nr : Nat) (w : World) (h : FieldAt b w) (hb : b ≠ gi) (hs : s < 256) (hy : y < 256) (hv : v < 256) (hk : k < nr) (hr : nr ≤ 255)
    (ci : w.cell? ⟨gi, 0, none⟩ = some (.int .i64 ((k : Int) - 1))) (cf : w.cell? ⟨gf, 0, none⟩ = some (.pointer (some ⟨b, 0, none⟩))) (cw : w.cell? ⟨gw, 0, none⟩ = some (.slice (some ⟨gr, 0, none⟩) nr cr)) (cv : w.cell? ⟨gr, k, none⟩ = some (.int .i64 v))
    (fk : w.frozen? ⟨gi, 0, none⟩ = false) (nf : gf ≠ gi) (nw : gw ≠ gi) (nr' : gr ≠ gi) :
    Calls Try.prog 65 #[.int .i64 s, .int .i64 y, .pointer (some ⟨gi, 0, none⟩), .pointer (some ⟨gf, 0, none⟩), .pointer (some ⟨gw, 0, none⟩)] w
      fun e w' => e = .returned (.int .i64 (s ^^^ KH.mul y v : Nat)) ∧ ∃ q, w' = (w.setCell ⟨gi, 0, none⟩ (.int .i64 k)).drewN q := by
  have other : ∀ {b' o' : Nat} (v : Value), b' ≠ gi → (w.setCell ⟨gi, 0, none⟩ v).cell? ⟨b', o', none⟩ = w.cell? ⟨b', o', none⟩ := fun v hne => World.cell?_setCell_other _ _ _ _ (by intro e; injection e with e _; exact hne e.symm)
  have hs1 : ((k : Int) - 1) + 1 = k := by omega
  have ci' : (w.setCell ⟨gi, 0, none⟩ (.int .i64 k)).cell? ⟨gi, 0, none⟩ = some (.int .i64 k) := KH.cell_put_same ci
  have cf' := (other (o' := 0) (.int .i64 k) nf).trans cf
  have cw' := (other (o' := 0) (.int .i64 k) nw).trans cw
  have cv' := (other (o' := k) (.int .i64 k) nr').trans cv
  have hF : FieldAt b (w.setCell ⟨gi, 0, none⟩ (.int .i64 k)) := ⟨fun j hj => (other _ hb).trans (h.num j hj), fun j hj => (other _ hb).trans (h.dig j hj)⟩
  have hm := KH.mul_lt y v
  have hki : (k : Int) < (nr : Int) := by omega
  have hk0 : (0 : Int) ≤ (k : Int) := by omega
  clear other h cf cw cv
  go_enter Try.func65, Try.ntmps65
  go_wp2
  go_quiet ((first | (go_at_call 64; exact Calls.quiet_of (pmul_in _ _ _ _ (hF.drewN _) hy hv)) | (go_at_call 63; exact quiet_eq (padd_in _ _ _ hs hm))))
  go_wp2
  go_ret
  exact ⟨rfl, _, rfl⟩

/-- what holds of Through's fold before its step k -/
structure ThroughTo (xs ys : List Nat) (x gi : Nat) (W : World) (k : Nat) (s : Int) (w : World) : Prop where
  below : Below gi W w
  val : s = ((KH.th xs ys x k : Nat) : Int)
  ctr : w.cell? ⟨gi, 0, none⟩ = some (.int .i64 ((k : Int) - 1))
  free : w.frozen? ⟨gi, 0, none⟩ = false

theorem through_fold {B n : Nat} {A : Option Addr} (c : Nat) {l ys : List Int} {W : World} (h : KH.Reads W B 1 A n (ys.map (.int .i64))) (hn : n ≤ 255) (hln : l.length = n) (hay : allB ys = true) {x b gi gf gw gr cr : Nat} (hB : B ≤ gi) (hF : FieldAt b W) (hb : b < gi)
    (ci : W.cell? ⟨gi, 0, none⟩ = some (.int .i64 (-1))) (cf : W.cell? ⟨gf, 0, none⟩ = some (.pointer (some ⟨b, 0, none⟩))) (cw : W.cell? ⟨gw, 0, none⟩ = some (.slice (some ⟨gr, 0, none⟩) n cr)) (cv : ∀ k, k < n → W.cell? ⟨gr, k, none⟩ = some (.int .i64 (KH.wt (nats l) k x n : Nat)))
    (fk : W.frozen? ⟨gi, 0, none⟩ = false) (nf : gf < gi) (nw : gw < gi) (nr : gr < gi) :
    Calls Try.prog 61 #[.slice A n c, .int .i64 0, .func (.func 65) #[] #[.pointer (some ⟨gi, 0, none⟩), .pointer (some ⟨gf, 0, none⟩), .pointer (some ⟨gw, 0, none⟩)]] W
      fun e w' => e = .returned (.int .i64 (KH.th (nats l) (nats ys) x n : Nat)) ∧ Below gi W w' := by
  have hl : ys.length = n := by have := h.1; simpa using this
  have hdy := dg_nats hay
  have hnl : (nats l).length = n := by rw [nats_length, hln]
  refine (fold_int (B := B) c (by unfold maxLen; omega) hl 65 (fun _ _ => rfl) _ 0 (fun k s wr => ThroughTo (nats l) (nats ys) x gi W k s wr) ⟨Below.refl _ _, rfl, ci, fk⟩ (fun k s wr hI => h.below (hI.below.mono hB)) (fun k s z wr hk hz hI => ?_)).mono fun e w' ⟨s, he, hI⟩ => ⟨by rw [he, hI.val], hI.below⟩
  obtain ⟨hbl, rfl, hck, hfr⟩ := hI
  rw [nats_get hay hz]
  have hF' : FieldAt b wr := ⟨fun j hj => by rw [hbl.cell (p := ⟨b, j, none⟩) hb]; exact hF.num j hj, fun j hj => by rw [hbl.cell (p := ⟨b, 256 + j, none⟩) hb]; exact hF.dig j hj⟩
  have hc : ∀ {g o : Nat} {v : Value}, g < gi → W.cell? ⟨g, o, none⟩ = some v → wr.cell? ⟨g, o, none⟩ = some v := fun hg hv => (hbl.cell (p := ⟨_, _, none⟩) hg).trans hv
  refine (through_step b (KH.th (nats l) (nats ys) x k) ((nats ys).getD k 0) (KH.wt (nats l) k x n) k gi gf gw gr cr n wr hF' (by omega) (KH.th_lt _ _ _ _) (hdy.getD k) (KH.wt_lt _ _ _ _) hk hn hck (hc nf cf) (hc nw cw) (hc nr (cv k hk)) hfr (by omega) (by omega) (by omega)).mono fun e w' ⟨he, q, hw⟩ => ⟨_, he, ?_⟩
  subst hw
  refine ⟨below_drewN (hbl.setCell (p := ⟨gi, 0, none⟩) (Nat.le_refl _) _) q, ?_, ?_, ?_⟩
  · show _ = ((KH.th (nats l) (nats ys) x k ^^^ KH.mul ((nats ys).getD k 0) (KH.wt (nats l) k x (nats l).length) : Nat) : Int)
    rw [hnl]
  · show (wr.setCell _ _).cell? _ = _
    rw [KH.cell_put_same hck]
    congr 3
    omega
  · show (wr.setCell _ _).frozen? _ = _
    rw [World.frozen?_setCell]; exact hfr

def throughK (l ys : List Int) (x : Int) : Bool := weightsK l x && decide (ys.length = l.length) && allB ys
def throughV (l ys : List Int) (x : Int) : Int := if throughK l ys x then ((KH.th (nats l) (nats ys) x.toNat l.length : Nat) : Int) else 0

theorem weightsK_len {l : List Int} {x : Int} (h : weightsK l x = true) : 1 ≤ l.length ∧ l.length ≤ 255 ∧ l.Nodup ∧ allB l = true ∧ 0 ≤ x ∧ x ≤ 255 := by
  unfold weightsK placesB dgB at h
  simp only [Bool.and_eq_true, decide_eq_true_iff] at h
  exact ⟨h.1.1.1, h.1.1.2.1, h.1.1.2.2, h.1.2, h.2.1, h.2.2⟩

set_option maxRecDepth 100000 in
theorem through_told {n m : Nat} {A A' : Option Addr} (c c' : Nat) {l ys : List Int} {w : World} (h : KH.Reads w w.heap.size 1 A n (l.map (.int .i64))) (hn : n ≤ maxLen) (h2 : KH.Reads w w.heap.size 1 A' m (ys.map (.int .i64))) (hm : m ≤ maxLen) (x : Int) :
    Calls Try.prog 34 #[.slice A n c, .slice A' m c', .int .i64 x] w fun e w' => e = .returned (.tuple #[.int .i64 (throughV l ys x), .bool (throughK l ys x)]) ∧ Below w.heap.size w w' := by
  have hl : l.length = n := by have := h.1; simpa using this
  have hl2 : ys.length = m := by have := h2.1; simpa using this
  have hmn : n ≤ 9223372036854775807 := by unfold maxLen at hn; omega
  have hmm : m ≤ 9223372036854775807 := by unfold maxLen at hm; omega
  cases hk : weightsK l x
  · have HT : Hid (throughK l ys x = false ∧ throughV l ys x = 0) := by
      have : throughK l ys x = false := by unfold throughK; rw [hk]; rfl
      exact ⟨this, by unfold throughV; rw [this]; rfl⟩
    rw [HT.out.1, HT.out.2]
    clear hl hl2 HT
    go_enter Try.func34, Try.ntmps34
    go_wp2_with fail
    refine (weights_told _ h hn x).mono ?_; rintro e w1 ⟨A1, n1, c1, rfl, ho, hb1, _⟩
    rw [hk]
    clear ho
    have hs1 := hb1.size
    go_wp2
    go_ret2
    exact ⟨rfl, hb1.alloc hs1 _⟩
  · by_cases hlen : m = n
    · subst hlen
      cases hay : allB ys
      · have HT : Hid (throughK l ys x = false ∧ throughV l ys x = 0) := by
          have : throughK l ys x = false := by unfold throughK; rw [hay, Bool.and_false]
          exact ⟨this, by unfold throughV; rw [this]; rfl⟩
        rw [HT.out.1, HT.out.2]
        clear hl hl2 HT
        go_enter Try.func34, Try.ntmps34
        go_wp2_with fail
        refine (weights_told _ h hn x).mono ?_; rintro e w1 ⟨A1, n1, c1, rfl, ho, hb1, _⟩
        rw [hk]
        clear ho
        have hs1 := hb1.size
        have h2' := (h2.below hb1).alloc hs1 (.cells #[.slice A1 n1 c1] 34)
        go_wp2_with fail
        refine (digits_any _ h2' hm).mono ?_; rintro e w' ⟨rfl, rfl⟩
        rw [hay]
        go_wp2
        go_ret2
        exact ⟨rfl, hb1.alloc hs1 _⟩
      · have hT : throughK l ys x = true := by unfold throughK; rw [hk, hay, hl, hl2]; simp
        have HT : Hid (throughK l ys x = true ∧ throughV l ys x = ((KH.th (nats l) (nats ys) x.toNat m : Nat) : Int)) := ⟨hT, by unfold throughV; rw [hT, hl]; rfl⟩
        rw [HT.out.1, HT.out.2]
        obtain ⟨hp1, hp2, hp3, hp4, hp5, hp6⟩ := weightsK_len hk
        have hm1 : 1 ≤ m := by omega
        have hm255 : m ≤ 255 := by omega
        have HL := KH.hid hl
        clear hl hl2 HT hp1 hp2 hp3 hT
        obtain ⟨y, rfl⟩ := Int.eq_ofNat_of_zero_le hp5
        rw [Int.toNat_natCast]
        have HV : Hid (weightsV l y = wts l y m m) := by unfold Hid weightsV; rw [hk, HL.out]; rfl
        have HA := KH.hid hp4
        clear hp4 hp5
        go_enter Try.func34, Try.ntmps34
        go_wp2_with fail
        refine (weights_told _ h hn y).mono ?_; rintro e w1 ⟨A1, n1, c1, rfl, ho, hb1, hn1⟩
        rw [hk]
        rw [HV.out] at ho
        rw [HV.out, wts_length] at hn1
        subst hn1
        obtain ⟨gr, cap, hv, hgr, hlt⟩ := ho.form (by omega)
        have hv' : A1 = some ⟨gr, 0, none⟩ := by injection hv
        subst hv'
        clear hv
        have hcv : ∀ k, k < m → w1.cell? ⟨gr, k, none⟩ = some (.int .i64 (KH.wt (nats l) k y m : Nat)) := fun k hk => by
          have := ho.cellAt k (by omega)
          rw [this]
          simp [wts, hk]
        clear ho
        have hs1 := hb1.size
        have h2' := (h2.below hb1).alloc hs1 (.cells #[.slice (some ⟨gr, 0, none⟩) m c1] 34)
        go_wp2_with fail
        refine (digits_any _ h2' hm).mono ?_; rintro e w' ⟨rfl, rfl⟩
        rw [hay]
        go_wp2_with fail
        refine (new_any _).mono ?_; rintro e w2 ⟨rfl, hF, hb2, hs2⟩
        have hcw : (w1.alloc (.cells #[.slice (some ⟨gr, 0, none⟩) m c1] 34)).cell? ⟨w1.heap.size, 0, none⟩ = some (.slice (some ⟨gr, 0, none⟩) m c1) := by simp
        have hbW := (Below.refl w1.heap.size w1).alloc (Nat.le_refl _) (.cells #[.slice (some ⟨gr, 0, none⟩) m c1] 34)
        have hzW : w1.heap.size < (w1.alloc (.cells #[.slice (some ⟨gr, 0, none⟩) m c1] 34)).heap.size := by simp
        generalize (w1.alloc (.cells #[.slice (some ⟨gr, 0, none⟩) m c1] 34)) = WA at *
        have hbT := (Below.refl w2.heap.size w2).alloc (Nat.le_refl _) (.cells #[.pointer (some ⟨WA.heap.size, 0, none⟩)] 22)
        have hbT2 := hbT.alloc (by simp) (.cells #[.int .i64 (-1)] 3)
        clear hbT
        have hr9 := (h2'.below (hb2.mono (by omega))).below (hbT2.mono (by omega))
        have hF9 := hF.below hbT2 hs2
        have hc9 : ∀ k, k < m → ((w2.alloc (.cells #[.pointer (some ⟨WA.heap.size, 0, none⟩)] 22)).alloc (.cells #[.int .i64 (-1)] 3)).cell? ⟨gr, k, none⟩ = some (.int .i64 (KH.wt (nats l) k y m : Nat)) := fun k hk => by
          rw [hbT2.cell (p := ⟨gr, k, none⟩) (by show gr < _; omega), hb2.cell (p := ⟨gr, k, none⟩) (by show gr < _; omega), hbW.cell (p := ⟨gr, k, none⟩) hlt]; exact hcv k hk
        have hw9 := (hbT2.cell (p := ⟨w1.heap.size, 0, none⟩) (by show w1.heap.size < _; omega)).trans ((hb2.cell (p := ⟨w1.heap.size, 0, none⟩) hzW).trans hcw)
        have HFOLD := KH.hid (through_fold (gi := w2.heap.size + 1) (gf := w2.heap.size) c' hr9 hm255 HL.out hay (by omega) hF9 (by omega) (by simp) (by simp) hw9 hc9 (by simp) (by omega) (by omega) (by omega))
        have HB := KH.hid (((hb1.trans (hbW.mono (by omega))).trans (hb2.mono (by omega))).trans (hbT2.mono (by omega)))
        have HZ := KH.hid (show w.heap.size ≤ w2.heap.size + 1 by omega)
        clear hr9 hF9 hc9 hw9 hbT2 hbW hcw hcv hF hb2 hb1 h2' h2 h
        go_wp2_with fail
        refine HFOLD.out.mono ?_; rintro e w3 ⟨rfl, hb3⟩
        go_wp2
        go_ret2
        exact ⟨rfl, HB.out.trans (hb3.mono HZ.out)⟩
    · have HT : Hid (throughK l ys x = false ∧ throughV l ys x = 0) := by
        have : throughK l ys x = false := by unfold throughK; rw [hl, hl2, decide_eq_false hlen, Bool.and_false]; rfl
        exact ⟨this, by unfold throughV; rw [this]; rfl⟩
      rw [HT.out.1, HT.out.2]
      have hne : ((m : Int) != (n : Int)) = true := by simp; omega
      clear hl hl2 HT hlen
      go_enter Try.func34, Try.ntmps34
      go_wp2_with fail
      refine (weights_told _ h hn x).mono ?_; rintro e w1 ⟨A1, n1, c1, rfl, ho, hb1, _⟩
      rw [hk]
      clear ho
      have hs1 := hb1.size
      go_wp2
      go_ret2
      exact ⟨rfl, hb1.alloc hs1 _⟩
end Go.Proofs.Ytdeoibgedjbeiaa
