/- Polynomials over the field of 256 digits, in plain lists: values, sums, zeros, and what goes through some places. -/
import Derived.Test.YtdeoibgedjbeiaaDoorGf
namespace KH

/-- the value of a polynomial -/
def ev : List Nat → Nat → Nat
  | [], _ => 0
  | a :: l, x => a ^^^ mul x (ev l x)
/-- are they digits? -/
def Dg (l : List Nat) : Prop := ∀ a ∈ l, a < 256
/-- the sum of two polynomials -/
def zx (l m : List Nat) : List Nat := List.zipWith (· ^^^ ·) l m
/-- a polynomial divided by x plus r -/
def dv : List Nat → Nat → List Nat
  | [], _ => []
  | [_], _ => []
  | _ :: b :: t, r => ev (b :: t) r :: dv (b :: t) r

theorem Dg.nil : Dg [] := by intro a h; cases h
theorem Dg.cons {a : Nat} {l : List Nat} (h : a < 256) (hl : Dg l) : Dg (a :: l) := by
  intro b hb; rcases List.mem_cons.1 hb with rfl | hb
  · exact h
  · exact hl b hb
theorem Dg.head {a : Nat} {l : List Nat} (h : Dg (a :: l)) : a < 256 := h a List.mem_cons_self
theorem Dg.tail {a : Nat} {l : List Nat} (h : Dg (a :: l)) : Dg l := fun b hb => h b (List.mem_cons_of_mem _ hb)
theorem Dg.append {l m : List Nat} (h : Dg l) (h' : Dg m) : Dg (l ++ m) := by
  intro a ha; rcases List.mem_append.1 ha with ha | ha
  · exact h a ha
  · exact h' a ha
theorem Dg.getD {l : List Nat} (h : Dg l) (k : Nat) : l.getD k 0 < 256 := by
  rw [List.getD]
  cases hk : l[k]? with
  | none => exact (by omega : 0 < 256)
  | some x => exact h x (List.mem_of_getElem? hk)
theorem Dg.replicate {n a : Nat} (h : a < 256) : Dg (List.replicate n a) := fun b hb => by rw [(List.mem_replicate.1 hb).2]; exact h

theorem ev_lt {l : List Nat} (h : Dg l) (x : Nat) : ev l x < 256 := by
  cases l with
  | nil => exact (by omega : 0 < 256)
  | cons a l => exact xor_lt h.head (mul_lt _ _)
theorem ev_zeros {l : List Nat} (h : ∀ a ∈ l, a = 0) (x : Nat) : ev l x = 0 := by
  induction l with
  | nil => rfl
  | cons a l ih =>
    show a ^^^ mul x (ev l x) = 0
    rw [h a List.mem_cons_self, ih fun b hb => h b (List.mem_cons_of_mem _ hb), mul_zero]; rfl
theorem ev_zx {l m : List Nat} (hl : Dg l) (hm : Dg m) (e : l.length = m.length) {x : Nat} (hx : x < 256) : ev (zx l m) x = ev l x ^^^ ev m x := by
  induction l generalizing m with
  | nil => cases m with
    | nil => exact (Nat.xor_self 0).symm
    | cons b m => cases e
  | cons a l ih => cases m with
    | nil => cases e
    | cons b m =>
      show (a ^^^ b) ^^^ mul x (ev (zx l m) x) = (a ^^^ mul x (ev l x)) ^^^ (b ^^^ mul x (ev m x))
      rw [ih hl.tail hm.tail (by simpa using e), mul_xor hx (ev_lt hl.tail x) (ev_lt hm.tail x), xor_swap]
theorem Dg.zx {l m : List Nat} (hl : Dg l) (hm : Dg m) : Dg (zx l m) := by
  induction l generalizing m with
  | nil => exact Dg.nil
  | cons a l ih => cases m with
    | nil => exact Dg.nil
    | cons b m => exact Dg.cons (xor_lt hl.head hm.head) (ih hl.tail hm.tail)
theorem zx_length (l m : List Nat) (e : l.length = m.length) : (zx l m).length = l.length := by
  unfold zx; rw [List.length_zipWith, e, Nat.min_self]

theorem dv_length (l : List Nat) (r : Nat) : (dv l r).length = l.length - 1 := by
  induction l with
  | nil => rfl
  | cons a l ih => cases l with
    | nil => rfl
    | cons b t =>
      show (dv (b :: t) r).length + 1 = _
      rw [ih]; simp
theorem Dg.dv {l : List Nat} (h : Dg l) (r : Nat) : Dg (dv l r) := by
  induction l with
  | nil => exact Dg.nil
  | cons a l ih => cases l with
    | nil => exact Dg.nil
    | cons b t => exact Dg.cons (ev_lt h.tail r) (ih h.tail)
theorem ev_dv {l : List Nat} (h : Dg l) {x r : Nat} (hx : x < 256) (hr : r < 256) : ev l x ^^^ ev l r = mul (x ^^^ r) (ev (dv l r) x) := by
  induction l with
  | nil => show 0 ^^^ 0 = mul _ 0; rw [mul_zero]; rfl
  | cons a l ih => cases l with
    | nil =>
      show (a ^^^ mul x 0) ^^^ (a ^^^ mul r 0) = mul _ 0
      rw [mul_zero, mul_zero, mul_zero]; simp
    | cons b t =>
      have hl := h.tail
      show (a ^^^ mul x (ev (b :: t) x)) ^^^ (a ^^^ mul r (ev (b :: t) r)) = mul (x ^^^ r) (ev (b :: t) r ^^^ mul x (ev (KH.dv (b :: t) r) x))
      have hq := ev_lt (hl.dv r) x
      have hr' := ev_lt hl r
      rw [mul_xor (xor_lt hx hr) hr' (mul_lt _ _), ← mul_assoc, mul_comm (x ^^^ r) x, mul_assoc, ← ih hl, mul_xor hx (ev_lt hl x) hr', xor_mul hr' hx hr]
      rw [xor_swap a, Nat.xor_self, Nat.zero_xor]
      rw [Nat.xor_comm (mul x (ev (b :: t) x)) (mul x (ev (b :: t) r)), xor_swap, Nat.xor_self, Nat.zero_xor, Nat.xor_comm]
theorem xor_ne {x r : Nat} (h : x ≠ r) : x ^^^ r ≠ 0 := by
  intro e
  have := congrArg (· ^^^ r) e
  simp only [Nat.xor_assoc, Nat.xor_self, Nat.xor_zero, Nat.zero_xor] at this
  exact h this

theorem dv_zero {l : List Nat} {r : Nat} (h : ∀ a ∈ dv l r, a = 0) : ∀ a ∈ l.tail, a = 0 := by
  induction l with
  | nil => intro a ha; cases ha
  | cons a l ih => cases l with
    | nil => intro a ha; cases ha
    | cons b t =>
      have h2 : ∀ a ∈ t, a = 0 := ih fun c hc => h c (List.mem_cons_of_mem _ hc)
      have h1 : ev (b :: t) r = 0 := h _ List.mem_cons_self
      have h3 : b ^^^ mul r (ev t r) = 0 := h1
      rw [ev_zeros h2, mul_zero, Nat.xor_zero] at h3
      intro c hc
      rcases List.mem_cons.1 hc with rfl | hc
      · exact h3
      · exact h2 c hc

/-- as many zeros as there are digits: it is 0 -/
theorem all_zero (n : Nat) : ∀ (l zs : List Nat), Dg l → l.length ≤ n → zs.Nodup → (∀ z ∈ zs, z < 256 ∧ ev l z = 0) → n ≤ zs.length → ∀ a ∈ l, a = 0 := by
  induction n with
  | zero =>
    intro l zs _ hl _ _ _ a ha
    rw [List.length_eq_zero_iff.1 (Nat.le_zero.1 hl)] at ha; cases ha
  | succ n ih =>
    intro l zs hd hl hn hz hlen
    cases zs with
    | nil => simp at hlen
    | cons r zs =>
      obtain ⟨hr, hr0⟩ := hz r List.mem_cons_self
      obtain ⟨hnr, hn'⟩ := List.nodup_cons.1 hn
      have hq : ∀ a ∈ dv l r, a = 0 := by
        refine ih (dv l r) zs (hd.dv r) (by rw [dv_length]; omega) hn' (fun z hz' => ?_) (by simp at hlen; omega)
        obtain ⟨h1, h2⟩ := hz z (List.mem_cons_of_mem _ hz')
        refine ⟨h1, ?_⟩
        have he := ev_dv hd h1 hr
        rw [h2, hr0, Nat.xor_self] at he
        rcases mul_eq_zero.1 he.symm with h3 | h3
        · exact absurd h3 (xor_ne fun e => hnr (e ▸ hz'))
        · exact h3
      have ht : ∀ a ∈ l.tail, a = 0 := dv_zero hq
      cases l with
      | nil => intro a ha; cases ha
      | cons a l =>
        have h0 : a ^^^ mul r (ev l r) = 0 := hr0
        have ht' : ∀ b ∈ l, b = 0 := ht
        rw [ev_zeros ht', mul_zero, Nat.xor_zero] at h0
        intro b hb
        rcases List.mem_cons.1 hb with rfl | hb
        · exact h0
        · exact ht b hb

theorem zx_zero {l m : List Nat} (e : l.length = m.length) (h : ∀ a ∈ zx l m, a = 0) : l = m := by
  induction l generalizing m with
  | nil => cases m with
    | nil => rfl
    | cons b m => cases e
  | cons a l ih => cases m with
    | nil => cases e
    | cons b m =>
      have h1 : a ^^^ b = 0 := h _ List.mem_cons_self
      have h2 : a = b := by
        rcases Nat.decEq a b with h' | h'
        · exact absurd h1 (xor_ne h')
        · exact h'
      rw [h2, ih (by simpa using e) fun c hc => h c (List.mem_cons_of_mem _ hc)]

/-- one polynomial of n digits goes through n places -/
theorem unique {l m zs : List Nat} (hl : Dg l) (hm : Dg m) (e : l.length = m.length) (hn : zs.Nodup) (hz : ∀ z ∈ zs, z < 256 ∧ ev l z = ev m z) (hlen : l.length ≤ zs.length) : l = m :=
  zx_zero e (all_zero l.length (zx l m) zs (hl.zx hm) (by rw [zx_length l m e]; omega) hn (fun z h => by
    obtain ⟨h1, h2⟩ := hz z h
    exact ⟨h1, by rw [ev_zx hl hm e h1, h2, Nat.xor_self]⟩) hlen)

/-- zeros behind -/
def pad (l : List Nat) (n : Nat) : List Nat := l ++ List.replicate (n - l.length) 0
theorem ev_pad (l : List Nat) (n x : Nat) : ev (pad l n) x = ev l x := by
  unfold pad
  induction l generalizing n with
  | nil => exact ev_zeros (fun a ha => (List.mem_replicate.1 ha).2) x
  | cons a l ih =>
    show a ^^^ mul x (ev (l ++ _) x) = a ^^^ mul x (ev l x)
    have := ih (n - 1)
    rw [show n - 1 - l.length = n - (a :: l).length by simp; omega] at this
    rw [this]
theorem pad_length {l : List Nat} {n : Nat} (h : l.length ≤ n) : (pad l n).length = n := by simp [pad]; omega
theorem Dg.pad {l : List Nat} (h : Dg l) (n : Nat) : Dg (pad l n) := h.append (Dg.replicate (by omega))
/-- two polynomials of n digits at most with the same values at n places have the same values -/
theorem unique_ev {n : Nat} {l m zs : List Nat} (hl : Dg l) (hm : Dg m) (h1 : l.length ≤ n) (h2 : m.length ≤ n) (hn : zs.Nodup) (hz : ∀ z ∈ zs, z < 256 ∧ ev l z = ev m z) (hlen : n ≤ zs.length) (x : Nat) : ev l x = ev m x := by
  have := unique (hl.pad n) (hm.pad n) (by rw [pad_length h1, pad_length h2]) hn (fun z h => by rw [ev_pad, ev_pad]; exact hz z h) (by rw [pad_length h1]; exact hlen)
  rw [← ev_pad l n, this, ev_pad]

/-- a polynomial times a digit -/
def sc (c : Nat) (l : List Nat) : List Nat := l.map (mul c)
/-- a polynomial times x plus a -/
def ml (l : List Nat) (a : Nat) : List Nat := zx (sc a l ++ [0]) (0 :: l)
theorem ev_sc {c : Nat} (hc : c < 256) {l : List Nat} (h : Dg l) {x : Nat} : ev (sc c l) x = mul c (ev l x) := by
  induction l with
  | nil => exact (mul_zero c).symm
  | cons a l ih =>
    show mul c a ^^^ mul x (ev (sc c l) x) = mul c (a ^^^ mul x (ev l x))
    rw [ih h.tail, mul_xor hc h.head (mul_lt _ _), ← mul_assoc, ← mul_assoc, mul_comm x c]
theorem Dg.sc (c : Nat) (l : List Nat) : Dg (sc c l) := by
  intro a ha; obtain ⟨b, _, rfl⟩ := List.mem_map.1 ha; exact mul_lt _ _
theorem sc_length (c : Nat) (l : List Nat) : (sc c l).length = l.length := List.length_map _
theorem ml_length (l : List Nat) (a : Nat) : (ml l a).length = l.length + 1 := by
  unfold ml; rw [zx_length _ _ (by simp [sc_length])]; simp [sc_length]
theorem Dg.ml {l : List Nat} (h : Dg l) (a : Nat) : Dg (ml l a) := ((Dg.sc a l).append (Dg.cons (by omega) Dg.nil)).zx (Dg.cons (by omega) h)
theorem ev_snoc_zero (l : List Nat) (x : Nat) : ev (l ++ [0]) x = ev l x := by
  induction l with
  | nil => show 0 ^^^ mul x 0 = 0; rw [mul_zero]; rfl
  | cons a l ih => show a ^^^ mul x (ev (l ++ [0]) x) = _; rw [ih]; rfl
theorem ev_ml {l : List Nat} (h : Dg l) {a x : Nat} (ha : a < 256) (hx : x < 256) : ev (ml l a) x = mul (x ^^^ a) (ev l x) := by
  unfold ml
  rw [ev_zx ((Dg.sc a l).append (Dg.cons (by omega) Dg.nil)) (Dg.cons (by omega) h) (by simp [sc_length]) hx, ev_snoc_zero, ev_sc ha h]
  show mul a (ev l x) ^^^ (0 ^^^ mul x (ev l x)) = _
  rw [Nat.zero_xor, ← xor_mul (ev_lt h x) ha hx, Nat.xor_comm]

/-! ### What goes through some places -/
/-- the weight of the place i at x, of the first k places -/
def wt (xs : List Nat) (i x : Nat) : Nat → Nat
  | 0 => 1
  | k + 1 => if k = i then wt xs i x k else mul (wt xs i x k) (mul (x ^^^ xs.getD k 0) (inv (xs.getD i 0 ^^^ xs.getD k 0)))
/-- the weight as a polynomial -/
def wc (xs : List Nat) (i : Nat) : Nat → List Nat
  | 0 => [1]
  | k + 1 => if k = i then wc xs i k else sc (inv (xs.getD i 0 ^^^ xs.getD k 0)) (ml (wc xs i k) (xs.getD k 0))
/-- the weighed sum, of the first k values -/
def th (xs ys : List Nat) (x : Nat) : Nat → Nat
  | 0 => 0
  | k + 1 => th xs ys x k ^^^ mul (ys.getD k 0) (wt xs k x xs.length)
/-- the sum as a polynomial -/
def tc (xs ys : List Nat) : Nat → List Nat
  | 0 => List.replicate xs.length 0
  | k + 1 => zx (tc xs ys k) (sc (ys.getD k 0) (wc xs k xs.length))

theorem wt_lt (xs : List Nat) (i x k : Nat) : wt xs i x k < 256 := by
  induction k with
  | zero => exact (by omega : 1 < 256)
  | succ k ih => unfold wt; split; exact ih; exact mul_lt _ _
theorem th_lt (xs ys : List Nat) (x k : Nat) : th xs ys x k < 256 := by
  induction k with
  | zero => exact (by omega : 0 < 256)
  | succ k ih => exact xor_lt ih (mul_lt _ _)
theorem Dg.wc {xs : List Nat} (i k : Nat) : Dg (wc xs i k) := by
  induction k with
  | zero => exact Dg.cons (by omega) Dg.nil
  | succ k ih => unfold KH.wc; split; exact ih; exact Dg.sc _ _
theorem wc_length (xs : List Nat) (i k : Nat) : (wc xs i k).length = if i < k then k else k + 1 := by
  induction k with
  | zero => rfl
  | succ k ih =>
    unfold wc
    split
    · rw [ih]; subst i; rw [if_neg (by omega), if_pos (by omega)]
    · rw [sc_length, ml_length, ih]
      by_cases h : i < k
      · rw [if_pos h, if_pos (by omega)]
      · rw [if_neg h, if_neg (by omega)]
theorem ev_wc {xs : List Nat} (hd : Dg xs) (i : Nat) {x : Nat} (hx : x < 256) (k : Nat) : ev (wc xs i k) x = wt xs i x k := by
  induction k with
  | zero => show 1 ^^^ mul x 0 = 1; rw [mul_zero]; rfl
  | succ k ih =>
    unfold wc wt
    split
    · exact ih
    · rw [ev_sc (inv_lt _) ((Dg.wc i k).ml _), ev_ml (Dg.wc i k) (hd.getD k) hx, ih, ← mul_assoc, mul_comm, mul_comm (inv _)]
theorem Dg.tc {xs ys : List Nat} (k : Nat) : Dg (tc xs ys k) := by
  induction k with
  | zero => exact Dg.replicate (by omega)
  | succ k ih => exact ih.zx (Dg.sc _ _)
theorem tc_length (xs ys : List Nat) {k : Nat} (hk : k ≤ xs.length) : (tc xs ys k).length = xs.length := by
  induction k with
  | zero => exact List.length_replicate
  | succ k ih => unfold tc; rw [zx_length _ _ (by rw [ih (by omega), sc_length, wc_length, if_pos (by omega)]), ih (by omega)]
theorem ev_tc {xs ys : List Nat} (hd : Dg xs) (hy : Dg ys) {x : Nat} (hx : x < 256) {k : Nat} (hk : k ≤ xs.length) : ev (tc xs ys k) x = th xs ys x k := by
  induction k with
  | zero => exact ev_zeros (fun a ha => (List.mem_replicate.1 ha).2) x
  | succ k ih =>
    unfold tc th
    rw [ev_zx (Dg.tc k) (Dg.sc _ _) (by rw [tc_length _ _ (by omega), sc_length, wc_length, if_pos (by omega)]) hx, ev_sc (hy.getD k) (Dg.wc _ _), ev_wc hd k hx, ih (by omega)]

theorem getD_eq {l : List Nat} {k : Nat} (h : k < l.length) : l.getD k 0 = l[k] := by rw [List.getD, List.getElem?_eq_getElem h]; rfl
theorem getD_mem {l : List Nat} {k : Nat} (h : k < l.length) : l.getD k 0 ∈ l := by rw [getD_eq h]; exact List.getElem_mem h
theorem nodup_ne {xs : List Nat} (hn : xs.Nodup) {i j : Nat} (hi : i < xs.length) (hj : j < xs.length) (h : i ≠ j) : xs.getD i 0 ≠ xs.getD j 0 := by
  rw [getD_eq hi, getD_eq hj]
  intro e
  have hp := List.pairwise_iff_getElem.1 hn
  rcases Nat.lt_or_ge i j with h' | h'
  · exact hp i j hi hj h' e
  · exact hp j i hj hi (by omega) e.symm

theorem wt_self {xs : List Nat} (hd : Dg xs) (hn : xs.Nodup) {i : Nat} (hi : i < xs.length) {k : Nat} (hk : k ≤ xs.length) : wt xs i (xs.getD i 0) k = 1 := by
  induction k with
  | zero => rfl
  | succ k ih =>
    unfold wt
    split
    · exact ih (by omega)
    · rw [ih (by omega), mul_inv (xor_lt (hd.getD i) (hd.getD k)) (xor_ne (nodup_ne hn hi (by omega) (by omega)))]; decide +kernel
theorem wt_other (xs : List Nat) {i j k : Nat} (h : i ≠ j) (hk : j < k) : wt xs i (xs.getD j 0) k = 0 := by
  induction k with
  | zero => omega
  | succ k ih =>
    unfold wt
    by_cases e : k = j
    · subst e; rw [if_neg (fun e => h e.symm), Nat.xor_self, zero_mul, mul_zero]
    · split
      · exact ih (by omega)
      · rw [ih (by omega), zero_mul]
theorem th_at {xs ys : List Nat} (hd : Dg xs) (hn : xs.Nodup) (hy : Dg ys) {j : Nat} (hj : j < xs.length) {k : Nat} (hk : k ≤ xs.length) : th xs ys (xs.getD j 0) k = if j < k then ys.getD j 0 else 0 := by
  induction k with
  | zero => rfl
  | succ k ih =>
    unfold th
    rw [ih (by omega)]
    by_cases e : k = j
    · subst e; rw [wt_self hd hn hj (Nat.le_refl _), mul_one (hy.getD k), if_neg (by omega), if_pos (by omega), Nat.zero_xor]
    · rw [wt_other xs e hj, mul_zero, Nat.xor_zero]
      by_cases h : j < k
      · rw [if_pos h, if_pos (by omega)]
      · rw [if_neg h, if_neg (by omega)]
/-- at one of the places it is that one's value -/
theorem th_place {xs ys : List Nat} (hd : Dg xs) (hn : xs.Nodup) (hy : Dg ys) {j : Nat} (hj : j < xs.length) : th xs ys (xs.getD j 0) xs.length = ys.getD j 0 := by
  rw [th_at hd hn hy hj (Nat.le_refl _), if_pos hj]

/-- through the values of a polynomial goes that polynomial -/
theorem through {xs ys l : List Nat} (hd : Dg xs) (hn : xs.Nodup) (hy : Dg ys) (hl : Dg l) (hlen : l.length ≤ xs.length) (h : ∀ j, j < xs.length → ys.getD j 0 = ev l (xs.getD j 0)) {x : Nat} (hx : x < 256) : th xs ys x xs.length = ev l x := by
  rw [← ev_tc hd hy hx (Nat.le_refl _)]
  refine unique_ev (n := xs.length) (Dg.tc _) hl (by rw [tc_length _ _ (Nat.le_refl _)]; omega) hlen hn (fun z hz => ?_) (Nat.le_refl _) x
  obtain ⟨j, hj, rfl⟩ := List.getElem_of_mem hz
  refine ⟨hd _ hz, ?_⟩
  rw [← getD_eq hj, ev_tc hd hy (hd.getD j) (Nat.le_refl _), th_place hd hn hy hj, h j hj]

/-- the sum of the weights -/
def ws (xs : List Nat) (x : Nat) : Nat → Nat
  | 0 => 0
  | k + 1 => ws xs x k ^^^ wt xs k x xs.length
theorem ws_th (xs : List Nat) (x : Nat) {k : Nat} (hk : k ≤ xs.length) : ws xs x k = th xs (List.replicate xs.length 1) x k := by
  induction k with
  | zero => rfl
  | succ k ih =>
    unfold ws th
    rw [ih (by omega), getD_eq (by simp; omega), List.getElem_replicate, one_mul (wt_lt _ _ _ _)]
/-- the sum of the weights is 1 -/
theorem ws_one {xs : List Nat} (hd : Dg xs) (hn : xs.Nodup) (h0 : 1 ≤ xs.length) {x : Nat} (hx : x < 256) : ws xs x xs.length = 1 := by
  rw [ws_th xs x (Nat.le_refl _), through (l := [1]) hd hn (Dg.replicate (by omega)) (Dg.cons (by omega) Dg.nil) h0 (fun j hj => ?_) hx]
  · show 1 ^^^ mul x 0 = 1; rw [mul_zero]; rfl
  · rw [getD_eq (by simpa using hj), List.getElem_replicate]
    show 1 = 1 ^^^ mul _ 0; rw [mul_zero]; rfl

/-- the value, from the first digit on: what is there after k digits, and what is still to come -/
theorem ev_drop (l : List Nat) (x k : Nat) (hk : k < l.length) : ev (l.drop k) x = l.getD k 0 ^^^ mul x (ev (l.drop (k + 1)) x) := by
  rw [List.drop_eq_getElem_cons hk, getD_eq hk]; rfl
end KH
