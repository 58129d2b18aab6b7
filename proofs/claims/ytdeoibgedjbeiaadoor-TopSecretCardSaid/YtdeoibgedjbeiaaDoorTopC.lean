import Derived.Test.YtdeoibgedjbeiaaDoorViewD
/- The law of view.Remap: by the remapped tape the chosen shares of the other secret are the same. -/
namespace Go.Proofs.YtdeoibgedjbeiaaDoor
open Go.RowKit

theorem chs_succ (l : List (Int × ByteArray)) (wh : List Bool) (i : Nat) : chs l wh (i + 1) = chs l wh i ++ if wh.getD i false then [l.getD i (0, ⟨#[]⟩)] else [] := rfl
theorem kpt_sum (l : List (Int × ByteArray)) (wh : List Bool) (f : Nat) : ∀ i, (kpt l wh f i).1.length + (kpt l wh f i).2 = f + (chs l wh i).length := by
  intro i
  induction i with
  | zero => simp [kpt, chs]
  | succ i ih =>
    rw [chs_succ, kpt, List.length_append]
    cases hw : wh.getD i false
    · rw [if_neg (by simp)]
      by_cases h : 0 < (kpt l wh f i).2
      · rw [if_pos h]
        show (_ ++ _ : List _).length + (_ - 1) = _
        rw [List.length_append]; simp; omega
      · rw [if_neg h]; simpa using ih
    · rw [if_pos rfl, if_pos rfl]
      show (_ ++ _ : List _).length + _ = _
      rw [List.length_append]; simp; omega
theorem kpt_all (l : List (Int × ByteArray)) (wh : List Bool) (f : Nat) : ∀ i, 0 < (kpt l wh f i).2 → (kpt l wh f i).1.length = i := by
  intro i
  induction i with
  | zero => intro _; rfl
  | succ i ih =>
    rw [kpt]
    cases hw : wh.getD i false
    · rw [if_neg (by simp)]
      by_cases h : 0 < (kpt l wh f i).2
      · rw [if_pos h]
        intro _
        show (_ ++ _ : List _).length = _
        rw [List.length_append, ih h]; rfl
      · rw [if_neg h]; intro h'; exact absurd h' h
    · rw [if_pos rfl]
      intro h
      show (_ ++ _ : List _).length = _
      rw [List.length_append, ih h]; rfl
theorem kpt_has (l : List (Int × ByteArray)) (wh : List Bool) (f : Nat) {j : Nat} (hw : wh.getD j false = true) : ∀ i, j < i → l.getD j (0, ⟨#[]⟩) ∈ (kpt l wh f i).1 := by
  intro i hi
  induction i with
  | zero => omega
  | succ i ih =>
    rw [kpt]
    by_cases e : j = i
    · subst e
      rw [if_pos hw]
      exact List.mem_append_right _ (List.mem_singleton.2 rfl)
    · have := ih (by omega)
      split
      · exact List.mem_append_left _ this
      · split
        · exact List.mem_append_left _ this
        · exact this
theorem kpt_done {l : List (Int × ByteArray)} {wh : List Bool} {f n k : Nat} (hk : k ≤ n) (hf : f + 1 + (chs l wh n).length = k) : (kpt l wh f n).1.length = k - 1 := by
  have h1 := kpt_sum l wh f n
  by_cases h : 0 < (kpt l wh f n).2
  · have := kpt_all l wh f n h; omega
  · omega

/-- whatever other secret there is: by the tape that tells the kept shares the chosen ones are the same -/
theorem remap_law {s t o : ByteArray} {n k f : Nat} {wh : List Bool} (ho : o.size = 32) (hn : n ≤ 255) (hk : k ≤ n) (h2 : 2 ≤ k)
    (hf : f + 1 + (chs (splitL s t n k) wh n).length = k) :
    tapeE o (kpt (splitL s t n k) wh f n).1 = 0 ∧ splitK o n k (tapeV o (kpt (splitL s t n k) wh f n).1) = true ∧
      chs (splitL o (tapeV o (kpt (splitL s t n k) wh f n).1) n k) wh n = chs (splitL s t n k) wh n := by
  have hsub : (kpt (splitL s t n k) wh f n).1.Sublist (splitL s t n k) :=
    (kpt_sub (splitL s t n k) wh f n (by rw [splitL_length]; omega)).trans (List.take_sublist _ _)
  have hc := kpt_done (l := splitL s t n k) (wh := wh) hk hf
  have hr : rightS (kpt (splitL s t n k) wh f n).1 1 = true := sub_right hn hsub (by omega)
  have hK : tapeK o (kpt (splitL s t n k) wh f n).1 = true := by
    unfold tapeK
    rw [hr, decide_eq_true ho, decide_eq_true (by omega)]; rfl
  have hV : tapeV o (kpt (splitL s t n k) wh f n).1 = tx ((kpt (splitL s t n k) wh f n).1.length * 32) (tapF o (kpt (splitL s t n k) wh f n).1) := by
    unfold tapeV; rw [hK]; rfl
  refine ⟨?_, splitK_iff.2 ⟨ho, by omega, by omega, by omega, by omega, by rw [hV, tx_size, hc]; omega⟩, ?_⟩
  · unfold tapeE
    rw [if_pos ho, hr, decide_eq_true (by omega)]; rfl
  · refine chs_congr _ fun i hi hw => ?_
    have hmem : (((i + 1 : Nat) : Int), tx 32 (shv s t k i)) ∈ (kpt (splitL s t n k) wh f n).1 := by
      rw [← splitL_getD hi]
      exact kpt_has _ _ _ hw _ hi
    rw [hV]
    generalize (kpt (splitL s t n k) wh f n).1 = c at *
    rw [splitL_getD hi, splitL_getD hi]
    refine Prod.ext rfl ?_
    show tx 32 _ = tx 32 _
    refine tx_congr fun j hj => ?_
    have := tape_tells (s := o) hr hj hmem
    rw [tx_sb (fun o _ => shv_lt _ _ _ _ _) hj] at this
    rw [← this]
    unfold shv
    rw [← hc, show ((i + 1 : Nat) : Int).toNat = i + 1 from Int.toNat_natCast _]
end Go.Proofs.YtdeoibgedjbeiaaDoor
/- The walks of package keyholetop: many, short, shares, seen. -/
namespace Go.Proofs.YtdeoibgedjbeiaaDoor
open Go.RowKit

set_option maxRecDepth 100000 in
theorem tmany_any (c n : Nat) (hn : n ≤ 1000) (w : World) :
    Calls Tryd.prog 14 #[.int .u8 c, .int .i64 n] w fun e w' => e = .returned (.string (tx n fun _ => c)) ∧ Below w.heap.size w w' := by
  obtain ⟨i0, hi, hz0, hz1, hz2⟩ := info_parts byte_info
  go_enter Tryd.func14, Tryd.ntmps14
  go_wp2_with (at_make; refine wpList_make_full _ rfl _ _ 62 rfl w.heap.size 5 i0 (.int .u8 0) 1 Tryd.underlying62 hi hz0 hz1 .i64 .i64 _ _ n rfl rfl rfl rfl (by rw [hz2]; omega) (by unfold maxLen; omega) (Nat.le_refl _) ?_; intro w3 hown3 hg3)
  have hb3 : Below w.heap.size w w3 := (Below.refl _ _).grown hg3 (Nat.le_refl _) (fun _ h => by cases h)
  rw [show (madeCells (Value.int .u8 0).cells (n * 1)).toList = bl n (fun o => if o < 0 then c else 0) by
    rw [Nat.mul_one]
    refine (toList_madeCells_one _ _).trans ?_
    refine List.ext_getElem (by simp [bl]) fun j h1 h2 => ?_
    simp [bl]] at hown3
  clear hg3
  go_loopw [6] (fun i wr => ∃ k : Nat, k ≤ n ∧ i = .int .i64 k ∧ wr.ownsRow w.heap.size 5 1 (.slice (some ⟨w.heap.size, 0, none⟩) n n) n (bl n fun o => if o < k then c else 0) ∧ Below w.heap.size w wr) (fun i _ => n - (intOf i).toNat)
  case atStart => exact ⟨0, Nat.zero_le _, rfl, hown3, hb3⟩
  case round =>
    obtain ⟨k, hk, rfl, hown, hb⟩ := hrel
    clear hown3 hb3
    by_cases hlt : k < n
    · have hl7 := (hown.cellAt k (by omega)).trans (bl_get _ hlt)
      have hf7 := hown.frozenAt k
      have HS : Hid ((bl n fun o => if o < k then c else 0).set k (.int .u8 c) = bl n fun o => if o < k + 1 then c else 0) := by
        unfold Hid
        rw [bl_set]
        refine bl_congr fun o _ => ?_
        by_cases e : o = k
        · subst e; rw [if_pos rfl, if_pos (by omega)]
        · rw [if_neg e]
          by_cases h : o < k
          · rw [if_pos h, if_pos (by omega)]
          · rw [if_neg h, if_neg (by omega)]
      have HO := KH.hid (hown.stored k (.int .u8 c)).1
      generalize (if k < k then c else 0) = old at *
      clear hown
      go_wp2
      go_roundw
      case rel => exact ⟨k + 1, by omega, by go_num, by rw [← HS.out]; exact HO.out, hb.setCell (p := ⟨w.heap.size, k, none⟩) (Nat.le_refl _) _⟩
      case measure => simp [intOf]; omega
    · obtain rfl : k = n := by omega
      rw [bl_congr (G := fun _ => c) (fun o ho => by rw [if_pos ho]), bl_map] at hown
      have hback := conv_own hown
      clear hown
      go_wp2
      go_ret
      exact ⟨rfl, hb⟩

/-- are texts short? -/
def shrt (l : List ByteArray) : Bool := l.all fun x => decide (x.size ≤ 200)
theorem shrt_mem {l : List ByteArray} (h : shrt l = true) {x : ByteArray} (hx : x ∈ l) : x.size ≤ 200 := by
  have := List.all_eq_true.1 h x hx
  exact of_decide_eq_true this
theorem shrt_no {l : List ByteArray} {x : ByteArray} (hx : x ∈ l) (h : 200 < x.size) : shrt l = false := by
  cases hs : shrt l
  · rfl
  · exact absurd (shrt_mem hs hx) (by omega)
theorem shrt_step {l : List ByteArray} {x : ByteArray} {k : Nat} (h : shrt (l.take k) = true) (hx : l[k]? = some x) (hs : x.size ≤ 200) : shrt (l.take (k + 1)) = true := by
  unfold shrt at h ⊢
  rw [List.take_add_one, hx, List.all_append, h]
  simpa using hs
set_option maxRecDepth 100000 in
theorem tshort_any {B n : Nat} {A : Option Addr} (c : Nat) {l : List ByteArray} {w : World} (h : KH.Reads w B 1 A n (l.map .string)) (hn : n ≤ maxLen) (hsz : ∀ x ∈ l, x.size ≤ maxLen) :
    Calls Tryd.prog 4 #[.slice A n c] w fun e w' => e = .returned (.bool (shrt l)) ∧ w = w' := by
  have hl : l.length = n := by have := h.1; simpa using this
  have hm : n ≤ 9223372036854775807 := by unfold maxLen at hn; omega
  have HL := KH.hid (And.intro hl hsz); clear hl hsz
  go_enter Tryd.func4, Tryd.ntmps4
  go_wp2
  go_loopw [3] (fun i wr => ∃ k : Nat, k ≤ n ∧ i = .int .i64 k ∧ Hid (shrt (l.take k) = true) ∧ w = wr) (fun i _ => n - (intOf i).toNat)
  case atStart => exact ⟨0, Nat.zero_le _, rfl, rfl, rfl⟩
  case round =>
    obtain ⟨k, hk, rfl, HS, rfl⟩ := hrel
    by_cases hlt : k < n
    · obtain ⟨ad, u, rfl, hab, hx, hc1⟩ := h.at_ hlt
      rw [List.getElem?_map] at hx
      obtain ⟨b, hb, rfl⟩ : ∃ b, l[k]? = some b ∧ u = .string b := by
        cases hq : l[k]? with
        | none => rw [hq] at hx; cases hx
        | some b => rw [hq] at hx; exact ⟨b, rfl, by simpa using hx.symm⟩
      have hbm : b ∈ l := List.mem_of_getElem? hb
      have hbz : b.size ≤ 9223372036854775807 := by have := HL.out.2 b hbm; unfold maxLen at this; exact this
      have HB := KH.hid (And.intro hb hbm)
      clear hb hbm hx
      by_cases h2 : b.size ≤ 200
      · have hd : decide ((200 : Int) < (b.size : Int)) = false := by rw [decide_eq_false_iff_not]; omega
        go_wp2
        go_roundw
        case rel => exact ⟨k + 1, by omega, by go_num, shrt_step HS.out HB.out.1 h2, by first | rfl | trivial⟩
        case measure => simp [intOf]; omega
      · have hd : decide ((200 : Int) < (b.size : Int)) = true := by rw [decide_eq_true_iff]; omega
        have HF : Hid (shrt l = false) := shrt_no HB.out.2 (by omega)
        go_wp2
        go_ret
        exact ⟨KH.ret_bool HF.out.symm, rfl⟩
    · obtain rfl : k = n := by omega
      have HT : Hid (shrt l = true) := by
        have := HS.out
        rw [List.take_of_length_le (by have := HL.out.1; omega)] at this
        exact this
      go_wp2
      go_ret
      exact ⟨KH.ret_bool HT.out.symm, rfl⟩

theorem tshares_any {B B' n : Nat} {A A' : Option Addr} (c c' : Nat) {l : List (Int × ByteArray)} {w : World} (h : ShIn w B A n l) (h' : ShIn w B' A' n l) (hn : n ≤ maxLen) :
    Calls Tryd.prog 9 #[.slice A n c, .slice A' n c'] w fun e w' => e = .returned (.bool true) ∧ ∃ q, w' = w.drewN q := by
  unfold maxLen at hn
  go_enter Tryd.func9, Tryd.ntmps9
  go_wp2
  go_loopw [5] (fun i wr => ∃ k q : Nat, k ≤ n ∧ i = .int .i64 k ∧ wr = w.drewN q) (fun i _ => n - (intOf i).toNat)
  case atStart => exact ⟨0, 0, Nat.zero_le _, rfl, rfl⟩
  case round =>
    obtain ⟨k, q, hk, rfl, rfl⟩ := hrel
    by_cases hlt : k < n
    · obtain ⟨ad, x, b, rfl, _, hx, hc1, hc2⟩ := h.at_ hlt
      obtain ⟨ad', x', b', rfl, _, hx', hc1', hc2'⟩ := h'.at_ hlt
      rw [hx] at hx'
      injection hx' with hx'
      injection hx' with e1 e2
      subst e1; subst e2
      clear hx
      have k0 : (0 : Int) ≤ (k : Int) := by omega
      have k1 : (k : Int) < (n : Int) := by omega
      go_wp2
      go_quiet (fail)
      go_wp2
      go_roundw
      case rel => exact ⟨k + 1, _, by omega, by go_num, rfl⟩
      case measure => simp [intOf]; omega
    · obtain rfl : k = n := by omega
      go_wp2
      go_ret
      exact ⟨rfl, _, rfl⟩
end Go.Proofs.YtdeoibgedjbeiaaDoor
/- The walk of keyholetop.seen. -/
namespace Go.Proofs.YtdeoibgedjbeiaaDoor
open Go.RowKit

theorem seen_split : splitK (mny 5) 2 2 (mny 5) = true ∧ splitL (mny 5) (mny 5) 2 2 = [(1, mny 0), (2, mny 15)] ∧ splitK (mny 6) 2 2 (mny 6) = true ∧ splitL (mny 6) (mny 6) 2 2 = [(1, mny 0), (2, mny 10)] := by decide +kernel
theorem seen_kept : (kpt [(1, mny 0), (2, mny 15)] [true] 0 2).1 = [(1, mny 0)] ∧ (chs [(1, mny 0), (2, mny 15)] [true] 2).length = 1 ∧ tapeV (mny 6) [(1, mny 0)] = mny 6 ∧ tapeE (mny 6) [(1, mny 0)] = 0 := by decide +kernel
theorem seen_ne : mny 15 ≠ mny 10 := by decide +kernel
theorem bool_lit (w : World) (b : Bool) (t : TypeId) (g : Nat) (hg : w.heap.size = g) : KH.Reads (w.alloc (.cells #[.bool b] t)) (g + 1) 1 (some ⟨g, 0, none⟩) 1 ([b].map .bool) := by
  subst hg
  refine ⟨rfl, fun _ => ⟨_, rfl, by show w.heap.size < _; omega, fun j u hu => ?_⟩⟩
  have : (⟨w.heap.size, 0, none⟩ : Addr).add j = ⟨w.heap.size, j, none⟩ := by unfold Addr.add; split <;> simp_all
  rw [this, World.cell?_alloc_at _ _ _ _ rfl]
  simpa using hu

set_option maxHeartbeats 1000000 in
set_option maxRecDepth 100000 in
theorem seen_any (w : World) : Calls Tryd.prog 6 #[] w fun e w' => e = .returned (.bool true) ∧ Below w.heap.size w w' := by
  have h32 : ∀ c, (mny c).size = 32 := fun c => mny_size c
  have h33 : ∀ c, (mny c).size ≤ maxLen := fun c => by rw [mny_size]; unfold maxLen; omega
  have H32 := KH.hid (And.intro h32 h33)
  have hV : splitV (mny 5) (2 : Nat) (2 : Nat) (mny 5) = [(1, mny 0), (2, mny 15)] ∧ splitV (mny 6) (2 : Nat) (2 : Nat) (mny 6) = [(1, mny 0), (2, mny 10)] := by
    constructor
    · unfold splitV; rw [show splitK (mny 5) (2 : Nat) (2 : Nat) (mny 5) = true from seen_split.1, if_pos rfl]; exact seen_split.2.1
    · unfold splitV; rw [show splitK (mny 6) (2 : Nat) (2 : Nat) (mny 6) = true from seen_split.2.2.1, if_pos rfl]; exact seen_split.2.2.2
  have HV := KH.hid hV
  clear h32 h33 hV
  go_enter Tryd.func6, Tryd.ntmps6
  go_wp2_with fail
  refine (tmany_any 5 32 (by omega) _).mono ?_; rintro e w1 ⟨rfl, hb1⟩
  rw [show tx 32 (fun _ => 5) = mny 5 from rfl]
  go_wp2_with fail
  refine (tmany_any 6 32 (by omega) _).mono ?_; rintro e w2 ⟨rfl, hb2⟩
  rw [show tx 32 (fun _ => 6) = mny 6 from rfl]
  have hB2 := hb1.trans (hb2.mono hb1.size)
  have hs2 := hB2.size
  have hin2 := (bool_lit w2 true 4 _ rfl).more (B' := (w2.alloc (.cells #[.bool true] 4)).heap.size) (by simp)
  have hB3 := hB2.alloc hs2 (.cells #[.bool true] 4)
  clear hb1 hb2 hB2
  go_wp2_with fail
  refine (remap_yes (mny 5) (mny 6) 2 2 0 (mny 5) _ (H32.out.1 6) (H32.out.2 5) (H32.out.2 5) (by unfold maxLen; omega) hin2 seen_split.1 (by omega) (by omega) (by omega) (by rw [seen_split.2.1, seen_kept.2.1])).mono ?_
  rw [seen_split.2.1, seen_kept.1, seen_kept.2.2.1, seen_kept.2.2.2]
  rintro e w3 ⟨rfl, hb3⟩
  have hB4 := hB3.trans (hb3.mono hB3.size)
  clear hb3 hB3 hin2 hs2
  go_wp2_with fail
  refine (split_told (mny 5) (2 : Nat) (2 : Nat) (mny 5) _ (H32.out.2 5) (H32.out.2 5)).mono ?_; rintro e w4 ⟨A4, k4, c4, rfl, ho4, hb4, hl4⟩
  rw [show splitK (mny 5) (2 : Nat) (2 : Nat) (mny 5) = true from seen_split.1]
  rw [HV.out.1] at ho4 hl4
  obtain rfl : 2 = k4 := hl4
  obtain ⟨gl, cl, hv, hgl, hgl2⟩ := ho4.form (by omega)
  have hv' : A4 = some ⟨gl, 0, none⟩ := by injection hv
  subst hv'
  clear hv hgl hgl2
  have hin4 : ShIn w4 w4.heap.size (some ⟨gl, 0, none⟩) 2 [(1, mny 0), (2, mny 15)] := KH.Reads.of_own ho4
  have hB5 := hB4.trans (hb4.mono hB4.size)
  have hs5 := hB5.size
  clear hb4 hB4 ho4
  have e1 : splitE true = 0 := rfl
  rw [e1]
  go_wp2_with fail
  refine (tmany_any 6 32 (by omega) _).mono ?_; rintro e w5 ⟨rfl, hb5⟩
  rw [show tx 32 (fun _ => 6) = mny 6 from rfl]
  have hin5 := KH.Reads.below hin4 hb5
  have hB6 := hB5.trans (hb5.mono hs5)
  have hs6 := hb5.size
  clear hb5 hB5 hin4
  go_wp2_with fail
  refine (split_told (mny 6) (2 : Nat) (2 : Nat) (mny 6) _ (H32.out.2 6) (H32.out.2 6)).mono ?_; rintro e w6 ⟨A6, k6, c6, rfl, ho6, hb6, hl6⟩
  rw [show splitK (mny 6) (2 : Nat) (2 : Nat) (mny 6) = true from seen_split.2.2.1]
  rw [HV.out.2] at ho6 hl6
  obtain rfl : 2 = k6 := hl6
  rw [e1]
  obtain ⟨gm, cm, hv, hgm, hgm2⟩ := ho6.form (by omega)
  have hv' : A6 = some ⟨gm, 0, none⟩ := by injection hv
  subst hv'
  clear hv hgm hgm2
  have hin6 : ShIn w6 w6.heap.size (some ⟨gm, 0, none⟩) 2 [(1, mny 0), (2, mny 10)] := KH.Reads.of_own ho6
  have hin7 : ShIn w6 w4.heap.size (some ⟨gl, 0, none⟩) 2 [(1, mny 0), (2, mny 15)] := KH.Reads.below hin5 (hb6.mono hs6)
  have hB7 := hB6.trans (hb6.mono (by omega))
  clear hb6 hB6 hin5 ho6 e1
  obtain ⟨ad, x0, b0, hA, _, hx0, c1, c2⟩ := ShIn.at_ hin7 (k := 0) (by omega)
  obtain ⟨ad', x1, b1, hA', _, hx1, c3, c4'⟩ := ShIn.at_ hin7 (k := 1) (by omega)
  injection hA with hA; subst hA
  injection hA' with hA'; subst hA'
  obtain ⟨bd, y0, d0, hB, _, hy0, d1, d2⟩ := ShIn.at_ hin6 (k := 0) (by omega)
  obtain ⟨bd', y1, d1', hB', _, hy1, d3, d4⟩ := ShIn.at_ hin6 (k := 1) (by omega)
  injection hB with hB; subst hB
  injection hB' with hB'; subst hB'
  injection hx0 with hx0; injection hx0 with e1 e2; subst e1; subst e2
  injection hx1 with hx1; injection hx1 with e1 e2; subst e1; subst e2
  injection hy0 with hy0; injection hy0 with e1 e2; subst e1; subst e2
  injection hy1 with hy1; injection hy1 with e1 e2; subst e1; subst e2
  have hne : ((mny 15).toList == (mny 10).toList) = false := bytes_ne seen_ne
  have f1 : w6.cell? ⟨gl, 0, none⟩ = some (.int .i64 1) := by simpa [Addr.add] using c1
  have f2 : w6.cell? ⟨gl, 1, none⟩ = some (.string (mny 0)) := by simpa [Addr.add] using c2
  have f3 : w6.cell? ⟨gl, 2, none⟩ = some (.int .i64 2) := by simpa [Addr.add] using c3
  have f4 : w6.cell? ⟨gl, 3, none⟩ = some (.string (mny 15)) := by simpa [Addr.add] using c4'
  have g1 : w6.cell? ⟨gm, 0, none⟩ = some (.int .i64 1) := by simpa [Addr.add] using d1
  have g2 : w6.cell? ⟨gm, 1, none⟩ = some (.string (mny 0)) := by simpa [Addr.add] using d2
  have g3 : w6.cell? ⟨gm, 2, none⟩ = some (.int .i64 2) := by simpa [Addr.add] using d3
  have g4 : w6.cell? ⟨gm, 3, none⟩ = some (.string (mny 10)) := by simpa [Addr.add] using d4
  clear hin6 hin7 c1 c2 c3 c4' d1 d2 d3 d4
  generalize mny 0 = m0 at *
  generalize mny 15 = m15 at *
  generalize mny 10 = m10 at *
  go_wp2
  go_quiet (fail)
  go_wp2
  go_ret
  exact ⟨rfl, below_drewN hB7 _⟩
end Go.Proofs.YtdeoibgedjbeiaaDoor
