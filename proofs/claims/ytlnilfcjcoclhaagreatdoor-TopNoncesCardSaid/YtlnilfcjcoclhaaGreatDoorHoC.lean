import Derived.Test.YtlnilfcjcoclhaaGreatDoorHsC
import Derived.Test.YtlnilfcjcoclhaaGreatDoorNoF
/- The plain law of the vault: stored, stopped, crashed. -/
namespace Go.Proofs.YtlnilfcjcoclhaaGreatDoor
open Go.RowKit

theorem get_set_eq {S : List ByteArray} {i : Nat} {s : ByteArray} (h : i < S.length) : (S.set i s).getD i ⟨#[]⟩ = s := by
  rw [List.getD_eq_getElem?_getD, List.getElem?_set_self h]; rfl
theorem get_set_ne {S : List ByteArray} {i j : Nat} {s : ByteArray} (h : i ≠ j) : (S.set i s).getD j ⟨#[]⟩ = S.getD j ⟨#[]⟩ := by
  rw [List.getD_eq_getElem?_getD, List.getD_eq_getElem?_getD, List.getElem?_set_ne h]
/-- the head that a disk has -/
def HeadIs (S : List ByteArray) (o : ByteArray) : Prop := S.getD 0 ⟨#[]⟩ = ⟨#[48]⟩ ∧ S.getD 1 ⟨#[]⟩ = o ∨ S.getD 0 ⟨#[]⟩ = ⟨#[49]⟩ ∧ S.getD 2 ⟨#[]⟩ = o
theorem HeadIs.mk {S : List ByteArray} {o : ByteArray} (h : HeadIs S o) : MkIn S := h.elim (fun h => .inl h.1) (fun h => .inr h.1)
theorem HeadIs.get {S : List ByteArray} {o : ByteArray} (h : HeadIs S o) (hp : pOk S []) (h3 : 3 ≤ S.length) : GetIs S o := fun v w lo hv => by
  rcases h with ⟨h0, h1⟩ | ⟨h0, h1⟩
  · exact get_zero hv hp h3 h0 h1
  · exact get_one hv hp h3 h0 h1
theorem HeadIs.same {S S' : List ByteArray} {o : ByteArray} (h : HeadIs S o) (he : ∀ i, i < 3 → S'.getD i ⟨#[]⟩ = S.getD i ⟨#[]⟩) : HeadIs S' o := by
  unfold HeadIs
  rw [he 0 (by omega), he 1 (by omega), he 2 (by omega)]
  exact h
/-- the active slot -/
def aOf (S : List ByteArray) : Nat := if S.getD 0 ⟨#[]⟩ = ⟨#[48]⟩ then 1 else 2
theorem one_ne : ¬ (⟨#[49]⟩ : ByteArray) = ⟨#[48]⟩ := by intro e; injection e with e; injection e with e; injection e with e _; exact absurd e (by decide)
theorem HeadIs.act {S : List ByteArray} {o : ByteArray} (h : HeadIs S o) : S.getD (aOf S) ⟨#[]⟩ = o ∧ aOf S ≠ fOf S ∧ aOf S ≠ 0 ∧ fOf S ≠ 0 ∧ aOf S < 3 ∧ fOf S < 3 ∧ mOf S ≠ S.getD 0 ⟨#[]⟩ := by
  unfold aOf fOf mOf
  rcases h with ⟨h0, h1⟩ | ⟨h0, h1⟩
  · rw [if_pos h0, if_pos h0, if_pos h0, h0]; exact ⟨h1, by omega, by omega, by omega, by omega, by omega, one_ne⟩
  · have hn : ¬ S.getD 0 ⟨#[]⟩ = ⟨#[48]⟩ := by rw [h0]; exact one_ne
    rw [if_neg hn, if_neg hn, if_neg hn, h0]; exact ⟨h1, by omega, by omega, by omega, by omega, by omega, fun e => one_ne e.symm⟩
theorem HeadIs.off {S S' : List ByteArray} {o : ByteArray} (h : HeadIs S o) (h0 : S'.getD 0 ⟨#[]⟩ = S.getD 0 ⟨#[]⟩) (ha : S'.getD (aOf S) ⟨#[]⟩ = S.getD (aOf S) ⟨#[]⟩) : HeadIs S' o := by
  unfold HeadIs
  rw [h0]
  unfold aOf at ha
  rcases h with ⟨q, h1⟩ | ⟨q, h1⟩
  · rw [if_pos q] at ha; exact .inl ⟨q, ha.trans h1⟩
  · have hn : ¬ S.getD 0 ⟨#[]⟩ = ⟨#[48]⟩ := by rw [q]; exact one_ne
    rw [if_neg hn] at ha; exact .inr ⟨q, ha.trans h1⟩
theorem HeadIs.turn {S S' : List ByteArray} {o s : ByteArray} (h : HeadIs S o) (h0 : S'.getD 0 ⟨#[]⟩ = mOf S) (hf : S'.getD (fOf S) ⟨#[]⟩ = s) : HeadIs S' s := by
  unfold HeadIs
  unfold mOf at h0
  unfold fOf at hf
  rcases h with ⟨q, h1⟩ | ⟨q, h1⟩
  · rw [if_pos q] at h0 hf; exact .inr ⟨h0, hf⟩
  · have hn : ¬ S.getD 0 ⟨#[]⟩ = ⟨#[48]⟩ := by rw [q]; exact one_ne
    rw [if_neg hn] at h0 hf; exact .inl ⟨h0, hf⟩
/-- a vault on a disk, by what its sectors hold -/
structure VaS (K : Nat → Nat) (S : List ByteArray) (n g a : Nat) (Bl : List ByteArray) : Prop where
  ok : pOk S []
  cnt : cntB n = true
  size : S.length = 3 + 2 * n
  area : a ≤ 1
  len : Bl.length = n
  small : vSz Bl
  head : HeadIs S (hdS g a (rootV K Bl))
  blocks : ∀ i, i < n → S.getD (3 + a * n + i) ⟨#[]⟩ = Bl.getD i ⟨#[]⟩
theorem VaS.vaOk {K : Nat → Nat} {S : List ByteArray} {n g a : Nat} {Bl : List ByteArray} (h : VaS K S n g a Bl) (hg : g < 200) : VaOk K S n g a Bl :=
  ⟨h.ok, h.cnt, h.size, hg, h.area, h.len, h.small, h.head.get h.ok (by rw [h.size]; omega), h.blocks⟩
theorem VaS.keep {K : Nat → Nat} {S S' : List ByteArray} {n g a : Nat} {Bl : List ByteArray} (h : VaS K S n g a Bl) (ho : pOk S' []) (hl : S'.length = S.length) (h0 : S'.getD 0 ⟨#[]⟩ = S.getD 0 ⟨#[]⟩) (ha : S'.getD (aOf S) ⟨#[]⟩ = S.getD (aOf S) ⟨#[]⟩)
    (hb : ∀ i, i < n → S'.getD (3 + a * n + i) ⟨#[]⟩ = S.getD (3 + a * n + i) ⟨#[]⟩) : VaS K S' n g a Bl :=
  ⟨ho, h.cnt, hl.trans h.size, h.area, h.len, h.small, h.head.off h0 ha, fun i hi => (hb i hi).trans (h.blocks i hi)⟩
theorem VaS.new {K : Nat → Nat} {S S' : List ByteArray} {n g a : Nat} {Bl Bl' : List ByteArray} (h : VaS K S n g a Bl) (ho : pOk S' []) (hl : S'.length = S.length) (h0 : S'.getD 0 ⟨#[]⟩ = mOf S) (hf : S'.getD (fOf S) ⟨#[]⟩ = hdS (g + 1) (1 - a) (rootV K Bl'))
    (hl' : Bl'.length = n) (hs' : vSz Bl') (hb : ∀ i, i < n → S'.getD (3 + (1 - a) * n + i) ⟨#[]⟩ = Bl'.getD i ⟨#[]⟩) : VaS K S' n (g + 1) (1 - a) Bl' :=
  ⟨ho, h.cnt, hl.trans h.size, by omega, hl', hs', h.head.turn h0 hf, hb⟩
theorem stC_get (n a : Nat) (Bl : List ByteArray) {k m : Nat} (h : k < m) : (stC n a Bl m).getD k (0, ⟨#[]⟩) = (((3 + (1 - a) * n + k : Nat) : Int), Bl.getD k ⟨#[]⟩) := by
  unfold stC
  rw [List.getD_eq_getElem?_getD, List.getElem?_map, List.getElem?_range h]; rfl
theorem stC_set (S : List ByteArray) (n a m : Nat) (Bl : List ByteArray) : ∀ k, k ≤ m → (∀ i, i < k → 3 + (1 - a) * n + i < S.length) → ∀ i, i < k → (settleS S (stC n a Bl m) (fun _ => 1) k).getD (3 + (1 - a) * n + i) ⟨#[]⟩ = Bl.getD i ⟨#[]⟩
  | 0, _, _, i, hi => absurd hi (by omega)
  | k + 1, hk, hS, i, hi => by
    rw [settleS, stC_get n a Bl (show k < m by omega)]
    show (fallS _ ((3 + (1 - a) * n + k : Nat) : Int).toNat _ 1).getD _ _ = _
    rw [Int.toNat_natCast]
    unfold fallS
    rw [if_neg (by omega), if_pos rfl]
    by_cases e : i = k
    · subst e
      exact get_set_eq (by rw [settleS_length]; exact hS i hi)
    · rw [get_set_ne (by omega)]
      exact stC_set S n a m Bl k (by omega) (fun j hj => hS j (by omega)) i (by omega)
theorem stS_new {S : List ByteArray} {n a : Nat} {Bl : List ByteArray} (hl : S.length = 3 + 2 * n) (i : Nat) (hi : i < n) : (stS S n a Bl).getD (3 + (1 - a) * n + i) ⟨#[]⟩ = Bl.getD i ⟨#[]⟩ := by
  have h2 : (1 - a) * n ≤ 1 * n := Nat.mul_le_mul_right n (by omega)
  unfold stS
  rw [stC_length]
  exact stC_set S n a n Bl n (Nat.le_refl _) (fun j hj => by omega) i hi
theorem stC_off {S : List ByteArray} {n a k : Nat} {Bl : List ByteArray} {F : Nat → Int} (ha : a ≤ 1) (hk : k ≤ n) {j : Nat} (hj : j < 3 ∨ ∃ i, i < n ∧ j = 3 + a * n + i) : (settleS S (stC n a Bl k) F (stC n a Bl k).length).getD j ⟨#[]⟩ = S.getD j ⟨#[]⟩ := by
  refine settleS_other (fun p hp => ?_) _ (Nat.le_refl _)
  obtain ⟨i, hi, rfl⟩ := List.mem_map.1 hp
  have hi' : i < k := by simpa using hi
  show ((3 + (1 - a) * n + i : Nat) : Int).toNat ≠ j
  rw [Int.toNat_natCast]
  rcases hj with hj | ⟨q, hq, rfl⟩
  · omega
  · rcases (show a = 0 ∨ a = 1 by omega) with rfl | rfl <;> omega
theorem putD_1 (S : List ByteArray) (f : Nat) (s m : ByteArray) : putD S f s m 1 = (S, [((f : Int), s)]) := rfl
theorem putD_2 (S : List ByteArray) (f : Nat) (s m : ByteArray) : putD S f s m 2 = (S.set f s, []) := rfl
theorem putD_3 (S : List ByteArray) (f : Nat) (s m : ByteArray) : putD S f s m 3 = (S.set f s, [((0 : Int), m)]) := rfl
theorem putD_4 (S : List ByteArray) (f : Nat) (s m : ByteArray) : putD S f s m 4 = ((S.set f s).set 0 m, []) := rfl
theorem settle_ok {S : List ByteArray} {C : List (Int × ByteArray)} (h : pOk S C) (F : Nat → Int) (k : Nat) : pOk (settleS S C F k) [] :=
  ⟨by rw [settleS_length]; exact h.1, by rw [settleS_length]; exact h.2.1, Nat.zero_le _, settleS_size h.2.2.2.1 (fun p hp => (h.2.2.2.2 p hp).1) k, by intro p hp; simp at hp⟩
theorem mOf_size (S : List ByteArray) : (mOf S).size = 1 := by unfold mOf; split <;> rfl
theorem fOf_lt (S : List ByteArray) : fOf S < 3 := by unfold fOf; split <;> omega
theorem sto_ok {K : Nat → Nat} {S : List ByteArray} {n g a t : Nat} {Bl Bl' : List ByteArray} (h : VaS K S n g a Bl) (hl' : Bl'.length = n) (hs' : vSz Bl') (ht : t ≤ n + 5) :
    pOk (stoD K S n a g Bl' t).1 (stoD K S n a g Bl' t).2 ∧ (stoD K S n a g Bl' t).1.length = S.length := by
  have hn : 1 ≤ n ∧ n ≤ 64 := by obtain ⟨m, hm, h⟩ := cntB_nat h.cnt; omega
  unfold stoD
  by_cases q : t ≤ n
  · rw [if_pos q]
    have := stD_ok (k := t) h.ok h.size h.area hn.2 hs'
    exact ⟨this.1, this.2.1⟩
  · rw [if_neg q]
    have h1 := stD_ok (k := n + 1) h.ok h.size h.area hn.2 hs'
    rw [show stD S n a Bl' (n + 1) = (stS S n a Bl', []) by unfold stD; rw [if_neg (by omega)]] at h1
    have hr := rootV_size K Bl' (by omega)
    have := put_ok (f := fOf S) (s := hdS (g + 1) (1 - a) (rootV K Bl')) (m := mOf S) h1.1 (by show 3 ≤ (stS S n a Bl').length; rw [stS_length, h.size]; omega) (fOf_lt S) (by rw [hdS_size _ _ _ hr]; omega) (by rw [mOf_size]; omega) (t - (n + 1)) (by omega)
    exact ⟨this.1, this.2.1.trans (stS_length _ _ _ _)⟩
theorem beg_one {s o : ByteArray} (hs : s.size = 1) (ho : o.size = 1) (k : Nat) : begS s o k = o ∨ begS s o k = s := by
  rcases k with _ | k
  · left
    rw [begS_2 (by omega) (by omega), ba_all]
    have : s.extract 0 0 = ⟨#[]⟩ := by
      apply ByteArray.ext; simp
    rw [this]; exact ByteArray.empty_append
  · right
    rcases k with _ | k
    · rw [begS_4 (by omega) (by omega), show 0 + 1 = s.size by omega]; exact ba_all s
    · exact begS_3 (by omega) (by omega)
theorem fall_zero {S : List ByteArray} {m : ByteArray} (f : Int) (hm : m.size = 1) (h0 : (S.getD 0 ⟨#[]⟩).size = 1) (hl : 0 < S.length) : fallS S 0 m f = S ∨ (fallS S 0 m f).getD 0 ⟨#[]⟩ = S.getD 0 ⟨#[]⟩ ∨ (fallS S 0 m f).getD 0 ⟨#[]⟩ = m := by
  unfold fallS
  split
  · exact .inl rfl
  · split
    · exact .inr (.inr (get_set_eq hl))
    · rw [get_set_eq hl]
      rcases beg_one hm h0 (f - 2).toNat with e | e
      · exact .inr (.inl e)
      · exact .inr (.inr e)
theorem store_crash {K : Nat → Nat} {S : List ByteArray} {n g a t : Nat} {Bl Bl' : List ByteArray} (h : VaS K S n g a Bl) (hl' : Bl'.length = n) (hs' : vSz Bl') (ht : t ≤ n + 5) (F : Nat → Int) :
    (VaS K (settleS (stoD K S n a g Bl' t).1 (stoD K S n a g Bl' t).2 F (stoD K S n a g Bl' t).2.length) n g a Bl ∧ t ≠ n + 5) ∨ VaS K (settleS (stoD K S n a g Bl' t).1 (stoD K S n a g Bl' t).2 F (stoD K S n a g Bl' t).2.length) n (g + 1) (1 - a) Bl' := by
  have hn : 1 ≤ n ∧ n ≤ 64 := by obtain ⟨m, hm, h⟩ := cntB_nat h.cnt; omega
  obtain ⟨hok, hlen⟩ := sto_ok (t := t) h hl' hs' ht
  have hok' := settle_ok hok F (stoD K S n a g Bl' t).2.length
  have hlen' : (settleS (stoD K S n a g Bl' t).1 (stoD K S n a g Bl' t).2 F (stoD K S n a g Bl' t).2.length).length = S.length := (settleS_length _ _ _ _).trans hlen
  obtain ⟨hact, ha1, ha2, ha3, ha4, ha5, ha6⟩ := h.head.act
  have ham := Nat.mul_le_mul_right n h.area
  have ham2 : (1 - a) * n ≤ 1 * n := Nat.mul_le_mul_right n (by omega)
  have hsl := h.size
  have hm1 := mOf_size S
  have hmk : (S.getD 0 ⟨#[]⟩).size = 1 := by rcases h.head.mk with e | e <;> rw [e] <;> rfl
  -- the vault's own area and the marks are off what Store first writes
  have hS0 : ∀ j, (j < 3 ∨ ∃ i, i < n ∧ j = 3 + a * n + i) → (stS S n a Bl').getD j ⟨#[]⟩ = S.getD j ⟨#[]⟩ := fun j hj => stC_off h.area (Nat.le_refl _) hj
  have hSn := stS_new (n := n) (a := a) (Bl := Bl') hsl
  have hSl := stS_length S n a Bl'
  revert hok' hlen'
  by_cases q : t ≤ n
  · rw [show stoD K S n a g Bl' t = (S, stC n a Bl' t) by unfold stoD stD; rw [if_pos q, if_pos q]]
    intro hok' hlen'
    exact .inl ⟨h.keep hok' hlen' (stC_off h.area q (.inl (by omega))) (stC_off h.area q (.inl (by omega))) (fun i hi => stC_off h.area q (.inr ⟨i, hi, rfl⟩)), by omega⟩
  · obtain ⟨k, hk, rfl⟩ : ∃ k, k ≤ 4 ∧ t = n + 1 + k := ⟨t - (n + 1), by omega, by omega⟩
    rw [show stoD K S n a g Bl' (n + 1 + k) = putD (stS S n a Bl') (fOf S) (hdS (g + 1) (1 - a) (rootV K Bl')) (mOf S) k by unfold stoD; rw [if_neg q, Nat.add_sub_cancel_left]]
    obtain ⟨T, hT⟩ : ∃ T, T = stS S n a Bl' := ⟨_, rfl⟩
    obtain ⟨Hd, hHd⟩ : ∃ H, H = hdS (g + 1) (1 - a) (rootV K Bl') := ⟨_, rfl⟩
    rw [← hT] at hS0 hSn hSl ⊢
    rw [← hHd]
    have hSf : ∀ j, j ≠ fOf S → (T.set (fOf S) Hd).getD j ⟨#[]⟩ = T.getD j ⟨#[]⟩ := fun j hj => get_set_ne (fun e => hj e.symm)
    match k, hk with
    | 0, _ =>
      intro hok' hlen'
      exact .inl ⟨h.keep hok' hlen' (hS0 _ (.inl (by omega))) (hS0 _ (.inl (by omega))) (fun i hi => hS0 _ (.inr ⟨i, hi, rfl⟩)), by omega⟩
    | 1, _ =>
      rw [putD_1]
      have hf : ∀ j, j ≠ fOf S → (settleS T [((fOf S : Int), Hd)] F 1).getD j ⟨#[]⟩ = T.getD j ⟨#[]⟩ := fun j hj => settleS_other (fun p hp => by simp at hp; subst hp; show ((fOf S : Nat) : Int).toNat ≠ j; omega) 1 (Nat.le_refl _)
      intro hok' hlen'
      exact .inl ⟨h.keep hok' hlen' ((hf _ (by omega)).trans (hS0 _ (.inl (by omega)))) ((hf _ ha1).trans (hS0 _ (.inl (by omega)))) (fun i hi => (hf _ (by omega)).trans (hS0 _ (.inr ⟨i, hi, rfl⟩))), by omega⟩
    | 2, _ =>
      rw [putD_2]
      intro hok' hlen'
      exact .inl ⟨h.keep hok' hlen' ((hSf _ (by omega)).trans (hS0 _ (.inl (by omega)))) ((hSf _ ha1).trans (hS0 _ (.inl (by omega)))) (fun i hi => (hSf _ (by omega)).trans (hS0 _ (.inr ⟨i, hi, rfl⟩))), by omega⟩
    | 3, _ =>
      rw [putD_3]
      intro hok' hlen'
      have hoff : ∀ j, j ≠ 0 → (settleS (T.set (fOf S) Hd) [((0 : Int), mOf S)] F 1).getD j ⟨#[]⟩ = (T.set (fOf S) Hd).getD j ⟨#[]⟩ := fun j hj => settleS_other (fun p hp => by simp at hp; subst hp; show (0 : Int).toNat ≠ j; omega) 1 (Nat.le_refl _)
      have h00 : (T.set (fOf S) Hd).getD 0 ⟨#[]⟩ = S.getD 0 ⟨#[]⟩ := (hSf _ (by omega)).trans (hS0 _ (.inl (by omega)))
      have hz := fall_zero (S := T.set (fOf S) Hd) (F 0) hm1 (by rw [h00]; exact hmk) (by rw [List.length_set]; omega)
      have he : settleS (T.set (fOf S) Hd) [((0 : Int), mOf S)] F 1 = fallS (T.set (fOf S) Hd) 0 (mOf S) (F 0) := rfl
      have hz2 : (settleS (T.set (fOf S) Hd) [((0 : Int), mOf S)] F 1).getD 0 ⟨#[]⟩ = S.getD 0 ⟨#[]⟩ ∨ (settleS (T.set (fOf S) Hd) [((0 : Int), mOf S)] F 1).getD 0 ⟨#[]⟩ = mOf S := by
        rw [he]
        rcases hz with e | e | e
        · left; rw [e]; exact h00
        · left; rw [e]; exact h00
        · right; exact e
      rcases hz2 with e | e
      · exact .inl ⟨h.keep hok' hlen' e ((hoff _ ha2).trans ((hSf _ ha1).trans (hS0 _ (.inl (by omega))))) (fun i hi => (hoff _ (by omega)).trans ((hSf _ (by omega)).trans (hS0 _ (.inr ⟨i, hi, rfl⟩)))), by omega⟩
      · exact .inr (h.new hok' hlen' e ((hoff _ ha3).trans ((get_set_eq (by omega)).trans hHd)) hl' hs' (fun i hi => (hoff _ (by omega)).trans ((hSf _ (by omega)).trans (hSn i hi))))
    | 4, _ =>
      rw [putD_4]
      intro hok' hlen'
      have hoff : ∀ j, j ≠ 0 → ((T.set (fOf S) Hd).set 0 (mOf S)).getD j ⟨#[]⟩ = (T.set (fOf S) Hd).getD j ⟨#[]⟩ := fun j hj => get_set_ne (fun e => hj e.symm)
      exact .inr (h.new hok' hlen' (get_set_eq (by rw [List.length_set]; omega)) ((hoff _ ha3).trans ((get_set_eq (by omega)).trans hHd)) hl' hs' (fun i hi => (hoff _ (by omega)).trans ((hSf _ (by omega)).trans (hSn i hi))))
end Go.Proofs.YtlnilfcjcoclhaaGreatDoor
/- The plain law of the vault: formatted; the disk of the nonces. -/
namespace Go.Proofs.YtlnilfcjcoclhaaGreatDoor
open Go.RowKit

theorem fmt_vaS (K : Nat → Nat) {n : Nat} (hn : cntB n = true) : (fmtD K n).2 = [] ∧ VaS K (fmtD K n).1 n 0 0 (List.replicate n ⟨#[]⟩) := by
  have hn' : 1 ≤ n ∧ n ≤ 64 := by obtain ⟨m, hm, h⟩ := cntB_nat hn; omega
  have hr := rootV_size K (List.replicate n ⟨#[]⟩) (by rw [rep_len]; omega)
  have hh := hdS_size 0 0 _ hr
  have hp := put_ok (f := 1) (s := hdS 0 0 (rootV K (List.replicate n ⟨#[]⟩))) (m := ⟨#[48]⟩) (rep_ok (m := 3 + 2 * n) (by omega) (by omega)) (by rw [rep_len]; omega) (by omega) (by omega) (by show 1 ≤ 128; omega) 4 (by omega)
  have hl : (List.replicate (3 + 2 * n) (⟨#[]⟩ : ByteArray)).length = 3 + 2 * n := rep_len _
  unfold fmtD at *
  rw [putD_4] at hp ⊢
  refine ⟨rfl, hp.1, hn, hp.2.1.trans (rep_len _), by omega, rep_len n, vSz_none n, .inl ⟨get_set_eq (by rw [List.length_set]; omega), ?_⟩, fun i hi => ?_⟩
  · rw [get_set_ne (by omega)]; exact get_set_eq (by omega)
  · rw [get_set_ne (by omega), get_set_ne (by omega), rep_get, rep_get]
/-- the disk of the nonces, and how many it has given leave for -/
def NoOk (S : List ByteArray) (L : Nat) : Prop := pOk S [] ∧ S.length = 3 ∧ (S.getD 0 ⟨#[]⟩ = ⟨#[]⟩ ∧ L = 0 ∨ ∃ o, HeadIs S o ∧ isNum o ∧ numN o o.size = L)
theorem noOk_new : NoOk (List.replicate 3 ⟨#[]⟩) 0 := ⟨rep_ok (by omega) (by omega), rfl, .inl ⟨rfl, rfl⟩⟩
theorem nopen_any {v : Value} {S : List ByteArray} {w : World} {lo L : Nat} (h : PlIn w lo v S []) (hs : NoOk S L) (hL : L ≤ 1000000000) :
    Calls Tryz.prog 10 #[v, .int .i64 0] w fun e w' => e = .returned (.tuple #[.agg #[.int .i64 0, .int .i64 L, .int .i64 L], .int .i64 0]) ∧ Below w.heap.size w w' := by
  obtain ⟨hp, h3, ⟨h0, rfl⟩ | ⟨o, ⟨h0, h1⟩ | ⟨h0, h1⟩, hn, hl⟩⟩ := hs
  · exact nopen_none h hp h0
  · exact nopen_zero h hp (by omega) h0 h1 hn hl hL
  · exact nopen_one h hp (by omega) h0 h1 hn hl hL
theorem noOk_put {S : List ByteArray} {f : Nat} {s m : ByteArray} (hp : pOk S []) (h3 : S.length = 3) (hf : f = 1 ∧ m = ⟨#[48]⟩ ∨ f = 2 ∧ m = ⟨#[49]⟩) (hs : s.size ≤ 128) (hn : isNum s) : (putD S f s m 4).2 = [] ∧ NoOk (putD S f s m 4).1 (numN s s.size) := by
  have hm : m.size ≤ 128 := by rcases hf with ⟨_, rfl⟩ | ⟨_, rfl⟩ <;> (show 1 ≤ 128; omega)
  have hp4 := put_ok (f := f) (s := s) (m := m) hp (by omega) (by omega) hs hm 4 (by omega)
  rw [putD_4] at hp4 ⊢
  have e0 : ((S.set f s).set 0 m).getD 0 ⟨#[]⟩ = m := get_set_eq (by rw [List.length_set]; omega)
  have e1 : ((S.set f s).set 0 m).getD f ⟨#[]⟩ = s := by
    rw [get_set_ne (by rcases hf with ⟨rfl, _⟩ | ⟨rfl, _⟩ <;> omega)]
    exact get_set_eq (by omega)
  refine ⟨rfl, hp4.1, hp4.2.1.trans h3, .inr ⟨s, ?_, hn, rfl⟩⟩
  rcases hf with ⟨rfl, rfl⟩ | ⟨rfl, rfl⟩
  · exact .inl ⟨e0, e1⟩
  · exact .inr ⟨e0, e1⟩
/-- what a Put does to the disk of the nonces -/
def noR (S : List ByteArray) (s : ByteArray) : List ByteArray := if S.getD 0 ⟨#[]⟩ = ⟨#[48]⟩ then (putD S 2 s ⟨#[49]⟩ 4).1 else (putD S 1 s ⟨#[48]⟩ 4).1
theorem nput_any {v : Value} {S : List ByteArray} {w : World} {lo L : Nat} (s : ByteArray) (h : PlIn w lo v S []) (hS : NoOk S L) (hs : s.size ≤ 128) :
    Calls Tryz.prog 21 #[v, .int .i64 0, .string s, .int .i64 (-1)] w fun e w' => ∃ v', e = .returned (.tuple #[v', .bool true, .int .i64 0]) ∧ PlIn w' w.heap.size v' (noR S s) [] ∧ Below w.heap.size w w' := by
  obtain ⟨hp, h3, hm⟩ := hS
  have hM : S.getD 0 ⟨#[]⟩ = ⟨#[]⟩ ∨ MkIn S := hm.elim (fun h => .inl h.1) (fun ⟨_, h, _⟩ => .inr h.mk)
  rcases hM with h0 | h0 | h0
  · have e : noR S s = (putD S 1 s ⟨#[48]⟩ 4).1 := if_neg (by rw [h0]; intro e; injection e with e; injection e with e; cases e)
    rw [e]
    exact put_none (t := 4) s (-1) h hp (by omega) hs h0 (.inl ⟨by omega, rfl⟩)
  · have e : noR S s = (putD S 2 s ⟨#[49]⟩ 4).1 := if_pos h0
    rw [e]
    exact put_zero (t := 4) s (-1) h hp (by omega) hs h0 (.inl ⟨by omega, rfl⟩)
  · have e : noR S s = (putD S 1 s ⟨#[48]⟩ 4).1 := if_neg (by rw [h0]; exact one_ne)
    rw [e]
    exact put_one (t := 4) s (-1) h hp (by omega) hs h0 (.inl ⟨by omega, rfl⟩)
theorem noR_ok {S : List ByteArray} {L : Nat} (hS : NoOk S L) {s : ByteArray} (hs : s.size ≤ 128) (hn : isNum s) : NoOk (noR S s) (numN s s.size) := by
  unfold noR
  split
  · exact (noOk_put hS.1 hS.2.1 (.inr ⟨rfl, rfl⟩) hs hn).2
  · exact (noOk_put hS.1 hS.2.1 (.inl ⟨rfl, rfl⟩) hs hn).2
theorem itoV_ok : ∀ j, j < 60 → ((itoV (16 * j + 16)).size ≤ 128 ∧ (1 ≤ (itoV (16 * j + 16)).size ∧ (itoV (16 * j + 16)).size ≤ 10 ∧ (∀ k, k < (itoV (16 * j + 16)).size → 48 ≤ sb (itoV (16 * j + 16)) k ∧ sb (itoV (16 * j + 16)) k ≤ 57) ∧ ((itoV (16 * j + 16)).size = 1 ∨ sb (itoV (16 * j + 16)) 0 ≠ 48)) ∧ numN (itoV (16 * j + 16)) (itoV (16 * j + 16)).size = 16 * j + 16) := by decide +kernel
/-- a call of Next -/
theorem next_any {v : Value} {S : List ByteArray} {w : World} {lo N j : Nat} (h : PlIn w lo v S []) (hS : NoOk S (16 * j)) (hN : N ≤ 16 * j) (hj : j < 60) (hPw : PowAt w) (hgw : 2 < w.heap.size) :
    Calls Tryz.prog 35 #[v, .agg #[.int .i64 0, .int .i64 N, .int .i64 (16 * j : Nat)], .int .i64 (-1)] w fun e w' => ∃ v' S' j', e = .returned (.tuple #[.string (nonV N), .agg #[.int .i64 0, .int .i64 (N + 1 : Nat), .int .i64 (16 * j' : Nat)], v', .int .i64 0]) ∧ PlIn w' w.heap.size v' S' [] ∧ NoOk S' (16 * j') ∧ N + 1 ≤ 16 * j' ∧ j' ≤ j + 1 ∧ Below w.heap.size w w' := by
  by_cases q : N < 16 * j
  · refine (next_have (-1) h hS.1 q (by omega)).mono ?_
    rintro e w' ⟨v', rfl, h1, h2⟩
    exact ⟨v', S, j, rfl, h1, hS, q, by omega, h2⟩
  · obtain rfl : N = 16 * j := by omega
    obtain ⟨k1, k2, k3⟩ := itoV_ok j hj
    refine (next_more (noR S) h (by omega) k1 hPw hgw (fun v' w' lo' s hp hs => nput_any s hp hS hs)).mono ?_
    rintro e w' ⟨v', rfl, h1, h2⟩
    have := noR_ok hS k1 k2
    rw [k3] at this
    exact ⟨v', _, j + 1, rfl, h1, this, by omega, by omega, h2⟩
theorem sto_done {K : Nat → Nat} {S : List ByteArray} {n g a : Nat} {Bl Bl' : List ByteArray} (h : VaS K S n g a Bl) (hl' : Bl'.length = n) (hs' : vSz Bl') :
    (stoD K S n a g Bl' (n + 5)).2 = [] ∧ VaS K (stoD K S n a g Bl' (n + 5)).1 n (g + 1) (1 - a) Bl' := by
  have h2 : (stoD K S n a g Bl' (n + 5)).2 = [] := by
    unfold stoD
    rw [if_neg (by omega), show n + 5 - (n + 1) = 4 by omega, putD_4]
  refine ⟨h2, ?_⟩
  rcases store_crash h hl' hs' (Nat.le_refl _) (fun _ => 0) with ⟨_, h9⟩ | h9
  · exact absurd rfl h9
  · rw [h2] at h9; exact h9
end Go.Proofs.YtlnilfcjcoclhaaGreatDoor
