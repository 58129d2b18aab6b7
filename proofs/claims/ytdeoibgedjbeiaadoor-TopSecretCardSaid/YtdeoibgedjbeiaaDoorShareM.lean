/- Polynomials that belong to shares: the one that is 0 at some places, and the tape. -/
import Derived.Test.YtdeoibgedjbeiaaDoorPolyM
namespace KH

/-- the polynomial that is 0 at the first k places, and has 1 as its last digit -/
def zp (xs : List Nat) : Nat → List Nat
  | 0 => [1]
  | k + 1 => ml (zp xs k) (xs.getD k 0)
theorem Dg.zp {xs : List Nat} (k : Nat) : Dg (zp xs k) := by
  induction k with
  | zero => exact Dg.cons (by omega) Dg.nil
  | succ k ih => exact ih.ml _
theorem zp_length (xs : List Nat) (k : Nat) : (zp xs k).length = k + 1 := by
  induction k with
  | zero => rfl
  | succ k ih => unfold zp; rw [ml_length, ih]
theorem ev_zp {xs : List Nat} (hd : Dg xs) {j k : Nat} (hj : j < k) : ev (zp xs k) (xs.getD j 0) = 0 := by
  induction k with
  | zero => omega
  | succ k ih =>
    unfold zp
    rw [ev_ml (Dg.zp k) (hd.getD k) (hd.getD j)]
    by_cases e : j = k
    · subst e; rw [Nat.xor_self, zero_mul]
    · rw [ih (by omega), mul_zero]
theorem zx_snoc (l m : List Nat) (a b : Nat) (e : l.length = m.length) : zx (l ++ [a]) (m ++ [b]) = zx l m ++ [a ^^^ b] := by
  unfold zx; rw [List.zipWith_append e]; rfl
theorem zp_last (xs : List Nat) (k : Nat) : ∃ l, zp xs k = l ++ [1] ∧ l.length = k := by
  induction k with
  | zero => exact ⟨[], rfl, rfl⟩
  | succ k ih =>
    obtain ⟨l, e, hl⟩ := ih
    refine ⟨zx (sc (xs.getD k 0) (zp xs k)) (0 :: l), ?_, ?_⟩
    · show zx (sc (xs.getD k 0) (zp xs k) ++ [0]) (0 :: zp xs k) = _
      conv => lhs; arg 2; rw [e]
      have e2 : 0 :: (l ++ [1]) = (0 :: l) ++ [1] := rfl
      rw [e2, zx_snoc _ _ _ _ (by rw [sc_length, zp_length, List.length_cons, hl])]; rfl
    · rw [zx_length _ _ (by rw [sc_length, zp_length, List.length_cons, hl]), sc_length, zp_length]

/-- the digits of a place's own polynomial -/
def qo (xs : List Nat) (i : Nat) : List Nat := dv (zp xs xs.length) (xs.getD i 0)
theorem qo_length (xs : List Nat) (i : Nat) : (qo xs i).length = xs.length := by unfold qo; rw [dv_length, zp_length]; rfl
theorem Dg.qo {xs : List Nat} (i : Nat) : Dg (qo xs i) := (Dg.zp _).dv _
theorem ev_qo {xs : List Nat} (hd : Dg xs) (hn : xs.Nodup) {i j : Nat} (hi : i < xs.length) (hj : j < xs.length) (h : i ≠ j) : ev (qo xs i) (xs.getD j 0) = 0 := by
  have he := ev_dv (Dg.zp (xs := xs) xs.length) (hd.getD j) (hd.getD i)
  rw [ev_zp hd hj, ev_zp hd hi, Nat.xor_self] at he
  rcases mul_eq_zero.1 he.symm with h' | h'
  · exact absurd h' (xor_ne (nodup_ne hn hj hi (fun e => h e.symm)))
  · exact h'
theorem qo_ne {xs : List Nat} (hd : Dg xs) (hn : xs.Nodup) {i : Nat} (hi : i < xs.length) : ev (qo xs i) (xs.getD i 0) ≠ 0 := by
  intro h0
  have hz : ∀ a ∈ qo xs i, a = 0 := by
    refine all_zero xs.length (qo xs i) xs (Dg.qo i) (by rw [qo_length]; exact Nat.le_refl _) hn (fun z hz => ?_) (Nat.le_refl _)
    obtain ⟨j, hj, rfl⟩ := List.getElem_of_mem hz
    refine ⟨hd _ hz, ?_⟩
    rw [← getD_eq hj]
    by_cases e : i = j
    · subst e; exact h0
    · exact ev_qo hd hn hi hj e
  have ht := dv_zero hz
  obtain ⟨l, e, hl⟩ := zp_last xs xs.length
  rw [e] at ht
  cases l with
  | nil => rw [List.length_nil] at hl; omega
  | cons a l =>
    have : (1 : Nat) = 0 := ht 1 (by simp)
    omega
/-- what a place's own polynomial is divided by -/
def so (xs : List Nat) (i : Nat) : Nat := inv (mul (ev (qo xs i) (xs.getD i 0)) (xs.getD i 0))
/-- the tape, of the first k shares; rs: what is left of the bytes -/
def tp (xs rs : List Nat) : Nat → List Nat
  | 0 => List.replicate xs.length 0
  | k + 1 => zx (tp xs rs k) ((qo xs k).map fun d => mul (mul d (so xs k)) (rs.getD k 0))
theorem map_sc (l : List Nat) (c r : Nat) : (l.map fun d => mul (mul d c) r) = sc (mul c r) l := by
  unfold sc; refine List.map_congr_left fun d _ => ?_; rw [mul_assoc, mul_comm]
theorem Dg.tp {xs rs : List Nat} (k : Nat) : Dg (tp xs rs k) := by
  induction k with
  | zero => exact Dg.replicate (by omega)
  | succ k ih => unfold KH.tp; rw [map_sc]; exact ih.zx (Dg.sc _ _)
theorem tp_length (xs rs : List Nat) (k : Nat) : (tp xs rs k).length = xs.length := by
  induction k with
  | zero => exact List.length_replicate
  | succ k ih => unfold tp; rw [map_sc, zx_length _ _ (by rw [ih, sc_length, qo_length]), ih]
theorem ev_tp {xs rs : List Nat} (hd : Dg xs) (hn : xs.Nodup) {j : Nat} (hj : j < xs.length) {k : Nat} (hk : k ≤ xs.length) :
    ev (tp xs rs k) (xs.getD j 0) = if j < k then mul (mul (so xs j) (rs.getD j 0)) (ev (qo xs j) (xs.getD j 0)) else 0 := by
  induction k with
  | zero => exact ev_zeros (fun a ha => (List.mem_replicate.1 ha).2) _
  | succ k ih =>
    unfold tp
    rw [map_sc, ev_zx (Dg.tp k) (Dg.sc _ _) (by rw [tp_length, sc_length, qo_length]) (hd.getD j), ev_sc (mul_lt _ _) (Dg.qo k), ih (by omega)]
    by_cases e : k = j
    · subst e; rw [if_neg (by omega), if_pos (by omega), Nat.zero_xor]
    · rw [ev_qo hd hn (by omega) hj e, mul_zero, Nat.xor_zero]
      by_cases h : j < k
      · rw [if_pos h, if_pos (by omega)]
      · rw [if_neg h, if_neg (by omega)]
/-- the secret and the tape tell each share -/
theorem tape_tells {xs rs : List Nat} (hd : Dg xs) (hn : xs.Nodup) (h0 : ∀ x ∈ xs, x ≠ 0) (hr : Dg rs) (s : Nat) {j : Nat} (hj : j < xs.length) :
    ev (s :: tp xs rs xs.length) (xs.getD j 0) = s ^^^ rs.getD j 0 := by
  show s ^^^ mul (xs.getD j 0) (ev (tp xs rs xs.length) (xs.getD j 0)) = _
  rw [ev_tp hd hn hj (Nat.le_refl _), if_pos hj]
  congr 1
  have h1 := qo_ne hd hn hj
  have h2 := h0 _ (getD_mem hj)
  unfold so
  rw [mul_comm (mul _ (rs.getD j 0)), ← mul_assoc, ← mul_assoc, mul_comm (mul (xs.getD j 0) _), mul_comm (xs.getD j 0)]
  rw [mul_comm (inv _), mul_inv (mul_lt _ _) (by rw [ne_eq, mul_eq_zero]; exact fun h => h.elim h1 h2), one_mul (hr.getD j)]

theorem getD_map {l : List Nat} {f : Nat → Nat} {j : Nat} (h : j < l.length) : (l.map f).getD j 0 = f (l.getD j 0) := by
  rw [getD_eq (by simpa using h), getD_eq h, List.getElem_map]

/-- the tape of a secret and shares -/
def tapeOf (xs ys : List Nat) (s : Nat) : List Nat := tp xs (ys.map (s ^^^ ·)) xs.length
theorem Dg.map_xor {ys : List Nat} (hy : Dg ys) {s : Nat} (hs : s < 256) : Dg (ys.map (s ^^^ ·)) := by
  intro a ha; obtain ⟨b, hb, rfl⟩ := List.mem_map.1 ha; exact xor_lt hs (hy b hb)
theorem tapeOf_length (xs ys : List Nat) (s : Nat) : (tapeOf xs ys s).length = xs.length := tp_length _ _ _
theorem Dg.tapeOf {xs ys : List Nat} {s : Nat} : Dg (tapeOf xs ys s) := Dg.tp _
theorem tapeOf_tells {xs ys : List Nat} (hd : Dg xs) (hn : xs.Nodup) (h0 : ∀ x ∈ xs, x ≠ 0) (hy : Dg ys) (e : ys.length = xs.length) {s : Nat} (hs : s < 256) {j : Nat} (hj : j < xs.length) :
    ev (s :: tapeOf xs ys s) (xs.getD j 0) = ys.getD j 0 := by
  unfold tapeOf
  rw [tape_tells hd hn h0 (hy.map_xor hs) s hj, getD_map (by omega), ← Nat.xor_assoc, Nat.xor_self, Nat.zero_xor]

/-- there is just one tape that tells the shares -/
theorem tape_unique {xs t u : List Nat} (hd : Dg xs) (hn : xs.Nodup) (h0 : ∀ x ∈ xs, x ≠ 0) {s : Nat} (hs : s < 256) (ht : Dg t) (hu : Dg u) (lt : t.length = xs.length) (lu : u.length = xs.length)
    (h : ∀ j, j < xs.length → ev (s :: t) (xs.getD j 0) = ev (s :: u) (xs.getD j 0)) : t = u := by
  have := unique (l := s :: t) (m := s :: u) (zs := 0 :: xs) (Dg.cons hs ht) (Dg.cons hs hu) (by simp [lt, lu]) (List.nodup_cons.2 ⟨fun h => h0 0 h rfl, hn⟩) (fun z hz => ?_) (by simp [lt])
  · injection this
  · rcases List.mem_cons.1 hz with rfl | hz
    · refine ⟨by omega, ?_⟩
      show s ^^^ mul 0 _ = s ^^^ mul 0 _
      rw [zero_mul, zero_mul]
    · obtain ⟨j, hj, rfl⟩ := List.getElem_of_mem hz
      exact ⟨hd _ hz, by rw [← getD_eq hj]; exact h j hj⟩

/-- the document's tape: the digits but the first of what goes through the secret and the shares -/
theorem tape_doc {xs ys : List Nat} (hd : Dg xs) (hn : xs.Nodup) (h0 : ∀ x ∈ xs, x ≠ 0) (hy : Dg ys) (e : ys.length = xs.length) {s : Nat} (hs : s < 256) :
    tc (0 :: xs) (s :: ys) (xs.length + 1) = s :: tapeOf xs ys s := by
  have hd' : Dg (0 :: xs) := Dg.cons (by omega) hd
  have hn' : (0 :: xs).Nodup := List.nodup_cons.2 ⟨fun h => h0 0 h rfl, hn⟩
  have hy' : Dg (s :: ys) := Dg.cons hs hy
  refine unique (zs := 0 :: xs) (Dg.tc _) (Dg.cons hs Dg.tapeOf) ?_ hn' (fun z hz => ?_) ?_
  · rw [tc_length _ _ (by simp)]; simp [tapeOf_length]
  · obtain ⟨j, hj, rfl⟩ := List.getElem_of_mem hz
    refine ⟨hd' _ hz, ?_⟩
    rw [← getD_eq hj]
    have h1 := th_place hd' hn' hy' hj
    rw [← ev_tc hd' hy' (hd'.getD j) (Nat.le_refl _)] at h1
    rw [show (0 :: xs).length = xs.length + 1 from rfl] at h1
    rw [h1]
    cases j with
    | zero => show s = s ^^^ mul 0 _; rw [zero_mul, Nat.xor_zero]
    | succ j => exact (tapeOf_tells hd hn h0 hy e hs (by simpa using hj)).symm
  · rw [tc_length _ _ (by simp)]; exact Nat.le_refl _

/-- whoever's order, and one more of the same polynomial: what is told at a place is the value of the one polynomial -/
theorem th_ev {xs ys : List Nat} (hd : Dg xs) (hn : xs.Nodup) (hy : Dg ys) : ∃ l, Dg l ∧ l.length = xs.length ∧ (∀ x, x < 256 → th xs ys x xs.length = ev l x) ∧ ∀ j, j < xs.length → ys.getD j 0 = ev l (xs.getD j 0) := by
  refine ⟨tc xs ys xs.length, Dg.tc _, tc_length _ _ (Nat.le_refl _), fun x hx => (ev_tc hd hy hx (Nat.le_refl _)).symm, fun j hj => ?_⟩
  rw [ev_tc hd hy (hd.getD j) (Nat.le_refl _), th_place hd hn hy hj]
end KH
