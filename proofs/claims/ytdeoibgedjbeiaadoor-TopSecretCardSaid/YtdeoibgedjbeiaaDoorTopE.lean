/- The walk of TopSecret where Remap tells a tape. -/
import Derived.Test.YtdeoibgedjbeiaaDoorTopD
namespace Go.Proofs.YtdeoibgedjbeiaaDoor
open Go.RowKit

theorem own_cap {w : World} {base n c : Nat} {e : TypeId} {size : Nat} {A : Option Addr} {xs : List Value} (h : w.ownsRow base e size (.slice A n c) n xs) : n ≤ c := by
  obtain ⟨hl, h0 | ⟨g', cap, cur, hv, _, hh, hnc, _, hsz, ht⟩⟩ := h
  · have := h0.1; cases this; exact Nat.zero_le _
  · cases hv; exact hnc
theorem ShIn.take {w : World} {B n : Nat} {A : Option Addr} {l : List (Int × ByteArray)} (h : ShIn w B A n l) {k : Nat} (hk : k ≤ n) : ShIn w B A k (l.take k) := by
  have hl := h.len
  refine ⟨by rw [shC_length, List.length_take, Nat.min_eq_left (by omega)], fun hp => ?_⟩
  obtain ⟨ad, e, hb, hc⟩ := h.2 (by omega)
  refine ⟨ad, e, hb, fun j u hu => hc j u ?_⟩
  have : shC l = shC (l.take k) ++ shC (l.drop k) := by rw [← shC_append, List.take_append_drop]
  rw [this, List.getElem?_append_left]
  · exact hu
  · rcases Nat.lt_or_ge j (shC (l.take k)).length with h' | h'
    · exact h'
    · rw [List.getElem?_eq_none h'] at hu; cases hu
set_option maxHeartbeats 2000000 in
set_option maxRecDepth 100000 in
theorem top_yes (K : Nat → Nat) {A5 A6 : Option Addr} {m5 m6 c5 c6 : Nat} {l5 : List ByteArray} {wh : List Bool} (s o : ByteArray) (n k f : Nat) (t : ByteArray) {w : World} (hK : RoundsAt K w) (hs : s.size = 32) (ho : o.size = 32) (ht : t.size ≤ 400) (hn : n ≤ 10) (hk : k ≤ n) (h2 : 2 ≤ k) (hsp : splitK s n k t = true) (hf : f + 1 + (chs (splitL s t n k) wh n).length = k) (hm5 : m5 ≤ 20) (hm6 : m6 ≤ 30) (hl5 : ∀ x ∈ l5, x.size ≤ maxLen) (hz5 : shrt l5 = true)
    (h5 : KH.Reads w w.heap.size 1 A5 m5 (l5.map .string)) (h6 : KH.Reads w w.heap.size 1 A6 m6 (wh.map .bool)) :
    Calls Tryd.prog 3 #[.string s, .string o, .int .i64 n, .int .i64 k, .string t, .slice A5 m5 c5, .slice A6 m6 c6] w fun e w' => e = .returned (.bool true) ∧ Below w.heap.size w w' := by
  obtain ⟨L1, L2, L3⟩ := remap_law (s := s) (t := t) (wh := wh) ho (by omega) hk h2 hf
  obtain ⟨cc, hcc⟩ : ∃ cc, cc = (kpt (splitL s t n k) wh f n).1 := ⟨_, rfl⟩
  obtain ⟨T, hT⟩ : ∃ T, T = tapeV o cc := ⟨_, rfl⟩
  rw [← hcc] at L1 L2 L3
  rw [← hT] at L2 L3
  have hTz : T.size ≤ maxLen := by
    have := (splitK_iff.1 L2).2.2.2.2.2
    unfold maxLen; omega
  have hsz : s.size ≤ maxLen := by unfold maxLen; omega
  have hoz : o.size ≤ maxLen := by unfold maxLen; omega
  have htz : t.size ≤ maxLen := by unfold maxLen; omega
  have hV1 : splitV s n k t = splitL s t n k := by unfold splitV; rw [hsp]; rfl
  have hV2 : splitV o n k T = splitL o T n k := by unfold splitV; rw [L2]; rfl
  obtain ⟨C1, C2, _⟩ := any_law (secret := s) (tape := t) (n := n) (k := k) hs (by omega) (by omega) (List.take_sublist k (splitL s t n k)) (by rw [List.length_take, splitL_length]; omega)
  obtain ⟨D1, D2, _⟩ := any_law (secret := o) (tape := T) (n := n) (k := k) ho (by omega) (by omega) (List.take_sublist k (splitL o T n k)) (by rw [List.length_take, splitL_length]; omega)
  have hR := fun (W : World) (hw : KH.Reads W W.heap.size 1 A6 m6 (wh.map .bool)) => remap_yes (c' := c6) s o n k f t W ho hsz htz (by unfold maxLen; omega) hw hsp (by omega) hk (by omega) hf
  rw [← hcc, ← hT, L1] at hR
  have hR := KH.hid hR
  have hb1 := (Below.refl w.heap.size w).alloc (Nat.le_refl _) (.cells #[.string s, .string o] 9)
  have hlit := strs_lit w s o 9 _ rfl
  have h51 := h5.alloc (Nat.le_refl _) (.cells #[.string s, .string o] 9)
  have h61 := (h6.alloc (Nat.le_refl _) (.cells #[.string s, .string o] 9)).more (B' := (w.alloc (.cells #[.string s, .string o] 9)).heap.size) (by simp)
  have hz0 : shrt [s, o] = true := by unfold shrt; simp; omega
  have hl0 : ∀ x ∈ [s, o], x.size ≤ maxLen := by intro x hx; simp at hx; unfold maxLen; rcases hx with rfl | rfl <;> omega
  have hmm : ∀ (a : ByteArray) (u : ByteArray), ∀ p ∈ (splitL a u n k).take k, p.2.size ≤ maxLen := fun a u p hp => by
    obtain ⟨i, hi, rfl⟩ := splitL_mem (List.mem_of_mem_take hp)
    rw [tx_size]; unfold maxLen; omega
  have hcm : ∀ (i : Nat) (p : Int × ByteArray), (chs (splitL s t n k) wh n)[i]? = some p → ∃ x : Nat, p.1 = (x : Int) ∧ 1 ≤ x ∧ x ≤ 255 ∧ p.2.size = 32 := fun i p hp => by
    obtain ⟨j, hj, rfl⟩ := splitL_mem (List.mem_of_mem_take ((chs_sub _ _ _ (by rw [splitL_length]; omega)).subset (List.mem_of_getElem? hp)))
    exact ⟨j + 1, rfl, by omega, by omega, tx_size _ _⟩
  have HZ := KH.hid (And.intro (And.intro hz0 hl0) (And.intro hz5 hl5))
  have HS := KH.hid (And.intro hsz (And.intro hoz (And.intro htz (And.intro hTz (And.intro hsp (And.intro L2 (And.intro hV1 hV2)))))))
  have HC := KH.hid (And.intro (And.intro C1 C2) (And.intro (And.intro D1 D2) L3))
  have HM := KH.hid (And.intro (And.intro (hmm s t) (hmm o T)) hcm)
  have hll : Hid ((splitL s t n k).length = n ∧ (splitL o T n k).length = n) := ⟨splitL_length _ _ _ _, splitL_length _ _ _ _⟩
  clear hz0 hl0 hz5 hl5 h5 h6 L1 L2 L3 C1 C2 D1 D2 hmm hcm hV1 hV2 hsz hoz htz hTz hsp hcc hT
  have dt : decide ((400 : Int) < (t.size : Int)) = false := by rw [decide_eq_false_iff_not]; omega
  have dn : decide ((10 : Int) < (n : Int)) = false := by rw [decide_eq_false_iff_not]; omega
  have d6 : decide ((30 : Int) < (m6 : Int)) = false := by rw [decide_eq_false_iff_not]; omega
  have d5 : decide ((20 : Int) < (m5 : Int)) = false := by rw [decide_eq_false_iff_not]; omega
  have dk : decide ((k : Int) < 0) = false := by rw [decide_eq_false_iff_not]; omega
  have dl : decide (n < k) = false := by rw [decide_eq_false_iff_not]; omega
  go_enter Tryd.func3, Tryd.ntmps3
  go_wp2_with fail
  refine (tshort_any _ hlit (by unfold maxLen; omega) HZ.out.1.2).mono ?_; rintro e w1 ⟨rfl, rfl⟩
  rw [HZ.out.1.1]
  generalize w.alloc (.cells #[.string s, .string o] 9) = w1 at *
  go_wp2_with fail
  refine (tshort_any _ h51 (by unfold maxLen; omega) HZ.out.2.2).mono ?_; rintro e w2 ⟨rfl, rfl⟩
  rw [HZ.out.2.1]
  go_wp2_with fail
  refine (hR.out _ h61).mono ?_; rintro e w2 ⟨rfl, hb2⟩
  have hB2 := hb1.trans (hb2.mono hb1.size)
  have hs2 := hB2.size
  have h52 := h51.below (hb2.mono hb1.size)
  have h62 := (h61.below hb2).more hb2.size
  clear hb1 hb2 h51 h61 hlit hR
  go_wp2_with fail
  refine (split_told s n k t _ HS.out.1 HS.out.2.2.1).mono ?_; rintro e w3 ⟨A3, n3, c3, rfl, ho3, hb3, hl3⟩
  rw [HS.out.2.2.2.2.1]
  rw [HS.out.2.2.2.2.2.2.1] at ho3 hl3
  rw [hll.out.1] at hl3
  subst hl3
  have e1 : splitE true = 0 := rfl
  rw [e1]
  have hB3 := hB2.trans (hb3.mono hs2)
  have hs3 := hb3.size
  have h53 := h52.below (hb3.mono hs2)
  have h63 := (h62.below hb3).more hs3
  have hca3 := own_cap ho3
  have hin3 : ShIn w3 w3.heap.size A3 n (splitL s t n k) := KH.Reads.of_own ho3
  clear hB2 hb3 h52 h62 ho3
  go_wp2_with fail
  refine (split_told o n k T _ HS.out.2.1 HS.out.2.2.2.1).mono ?_; rintro e w4 ⟨A4, n4, c4, rfl, ho4, hb4, hl4⟩
  rw [HS.out.2.2.2.2.2.1, e1]
  rw [HS.out.2.2.2.2.2.2.2] at ho4 hl4
  rw [hll.out.2] at hl4
  subst hl4
  have hs4 := hb4.size
  have hB4 := hB3.trans (hb4.mono (by omega))
  have h54 := h53.below (hb4.mono (by omega))
  have h64 := (h63.below hb4).more hs4
  have hin34 : ShIn w4 w4.heap.size A3 n (splitL s t n k) := (KH.Reads.below hin3 hb4).more hs4
  have hca4 := own_cap ho4
  have hin4 : ShIn w4 w4.heap.size A4 n (splitL o T n k) := KH.Reads.of_own ho4
  clear hB3 hb4 h53 h63 ho4 hin3
  go_wp2_with fail
  refine (vshares_any _ _ hin34 (by omega) h64 (by unfold maxLen; omega)).mono ?_; rintro e w5 ⟨A7, r, c7, rfl, ho5, hb5, hl5⟩
  have hs5 := hb5.size
  have hB5 := hB4.trans (hb5.mono (by omega))
  have h55 := h54.below (hb5.mono (by omega))
  have h65 := (h64.below hb5).more hs5
  have hin35 : ShIn w5 w5.heap.size A3 n (splitL s t n k) := (KH.Reads.below hin34 hb5).more hs5
  have hin45 : ShIn w5 w5.heap.size A4 n (splitL o T n k) := (KH.Reads.below hin4 hb5).more hs5
  have hin5 : ShIn w5 w5.heap.size A7 r (chs (splitL s t n k) wh n) := KH.Reads.of_own ho5
  clear hB4 hb5 h54 h64 ho5 hin34 hin4
  go_wp2_with fail
  refine (vshares_any _ _ hin45 (by omega) h65 (by unfold maxLen; omega)).mono ?_; rintro e w6 ⟨A8, r8, c8, rfl, ho6, hb6, hl6⟩
  rw [HC.out.2.2] at ho6 hl6
  rw [hl5] at hl6 hf
  subst hl6
  have hs6 := hb6.size
  have hB6 := hB5.trans (hb6.mono (by omega))
  have h56 := h55.below (hb6.mono (by omega))
  have hin36 : ShIn w6 w6.heap.size A3 n (splitL s t n k) := (KH.Reads.below hin35 hb6).more hs6
  have hin46 : ShIn w6 w6.heap.size A4 n (splitL o T n k) := (KH.Reads.below hin45 hb6).more hs6
  have hin56 : ShIn w6 w6.heap.size A7 r (chs (splitL s t n k) wh n) := (KH.Reads.below hin5 hb6).more hs6
  have hin6 : ShIn w6 w6.heap.size A8 r (chs (splitL s t n k) wh n) := KH.Reads.of_own ho6
  clear hB5 hb6 h55 h65 ho6 hin35 hin45 hin5 hl5
  go_wp2_with fail
  refine (tshares_any _ _ hin56 hin6 (by unfold maxLen; omega)).mono ?_; rintro e w7 ⟨rfl, q, rfl⟩
  have hB7 := below_drewN hB6 q
  have h57 := KH.Reads.drewN h56 q
  have hin37 : ShIn (w6.drewN q) (w6.drewN q).heap.size A3 n (splitL s t n k) := KH.Reads.drewN hin36 q
  have hin47 : ShIn (w6.drewN q) (w6.drewN q).heap.size A4 n (splitL o T n k) := KH.Reads.drewN hin46 q
  have hin57 : ShIn (w6.drewN q) (w6.drewN q).heap.size A7 r (chs (splitL s t n k) wh n) := KH.Reads.drewN hin56 q
  have hin67 : ShIn (w6.drewN q) (w6.drewN q).heap.size A8 r (chs (splitL s t n k) wh n) := KH.Reads.drewN hin6 q
  have hrk : r < k := by omega
  have HF := KH.hid hf
  have hs7 := hB7.size
  have hm6 : w.heap.size ≤ w6.heap.size := hs7
  generalize w6.drewN q = w7 at *
  generalize chs (splitL s t n k) wh n = C at *
  generalize splitL s t n k = L at *
  generalize splitL o T n k = M at *
  clear h56 hin36 hin46 hin56 hin6 hB6 hf
  go_wp2
  go_loopw [23] (fun i wr => ∃ j : Nat, j ≤ r ∧ i = .int .i64 j ∧ Below w7.heap.size w7 wr) (fun i _ => r - (intOf i).toNat)
  case atStart => exact ⟨0, Nat.zero_le _, rfl, Below.refl _ _⟩
  case round =>
    obtain ⟨j, hj, rfl, hb⟩ := hrel
    have hsz := hb.size
    by_cases hgo : j < r ∧ j < m5
    · obtain ⟨hja, hjb⟩ := hgo
      have d1 : decide ((j : Int) < (r : Int)) = true := by rw [decide_eq_true_iff]; omega
      have d2 : decide ((j : Int) < (m5 : Int)) = true := by rw [decide_eq_true_iff]; omega
      obtain ⟨ad5, u, rfl, ha5, hx5, hc5⟩ := (h57.below (hb.mono hs7)).at_ hjb
      obtain ⟨sa, rfl⟩ : ∃ sa, u = .string sa := by
        rw [List.getElem?_map] at hx5
        cases hq : l5[j]? with
        | none => rw [hq] at hx5; cases hx5
        | some b => rw [hq] at hx5; exact ⟨b, by simpa using hx5.symm⟩
      obtain ⟨ad7, x, b, rfl, ha7, hx7, hc7, hd7⟩ := ShIn.at_ (KH.Reads.below hin57 hb) hja
      obtain ⟨ad8, x8, b8, rfl, ha8, hx8, hc8, hd8⟩ := ShIn.at_ (KH.Reads.below hin67 hb) hja
      rw [hx7] at hx8
      injection hx8 with hx8; injection hx8 with e2 e3
      subst e2; subst e3
      obtain ⟨x, rfl, hx1, hx2, hbz⟩ := HM.out.2 j _ hx7
      obtain ⟨p, h, hmk⟩ := make_any K sa x b hx1 hx2 hbz
      have HMK := KH.hid hmk
      clear hmk hx5 hx7 hbz
      have hB8 := hB7.trans (hb.mono hs7)
      have hKr : RoundsAt K wr := rounds_below hK hB8 hK.1
      have k0 : (0 : Int) ≤ (j : Int) := by omega
      have k1 : (j : Int) < (r : Int) := by omega
      have k2 : (j : Int) < (m5 : Int) := by omega
      have H8 : Hid (∀ w8, Below wr.heap.size wr w8 → w8.cell? (ad5.add j) = some (.string sa) ∧ w8.cell? (ad7.add (j * 2)) = some (.int .i64 x) ∧ w8.cell? ⟨(ad7.add (j * 2)).block, (ad7.add (j * 2)).off + 1, none⟩ = some (.string b) ∧ w8.cell? (ad8.add (j * 2)) = some (.int .i64 x) ∧ w8.cell? ⟨(ad8.add (j * 2)).block, (ad8.add (j * 2)).off + 1, none⟩ = some (.string b) ∧ Below w7.heap.size w7 w8 ∧ RoundsAt K w8) := fun w8 h8 =>
        ⟨(h8.cell (p := ad5.add j) (by rw [KH.block_of_add]; omega)).trans hc5, (h8.cell (p := ad7.add (j * 2)) (by rw [KH.block_of_add]; omega)).trans hc7, (h8.cell (p := ⟨(ad7.add (j * 2)).block, (ad7.add (j * 2)).off + 1, none⟩) (by show (ad7.add (j * 2)).block < _; rw [KH.block_of_add]; omega)).trans hd7,
          (h8.cell (p := ad8.add (j * 2)) (by rw [KH.block_of_add]; omega)).trans hc8, (h8.cell (p := ⟨(ad8.add (j * 2)).block, (ad8.add (j * 2)).off + 1, none⟩) (by show (ad8.add (j * 2)).block < _; rw [KH.block_of_add]; omega)).trans hd8, hb.trans (h8.mono hsz), rounds_below hKr h8 hKr.1⟩
      clear h57 hin37 hin47 hin57 hin67 hB7 hB8 hb hca3 hca4 hc8 hd8
      go_wp2
      go_region_held3 (fun w' => w'.cell? (ad5.add j) = some (.string sa) ∧ w'.cell? (ad7.add (j * 2)) = some (.int .i64 x) ∧ w'.cell? ⟨(ad7.add (j * 2)).block, (ad7.add (j * 2)).off + 1, none⟩ = some (.string b)) (first | exact ⟨by assumption, by assumption, by assumption⟩ | go_keep) (first | (go_at_call 10; refine (HMK.out wr.drew hKr).mono ?_; rintro e w8 ⟨rfl, hb8⟩; obtain ⟨i1, i2, i3, i4, i5, hB9, hK9⟩ := H8.out w8 (((Below.refl wr.heap.size wr).drew).trans hb8)))
      have hs8 : wr.heap.size ≤ w8.heap.size := hb8.size
      have H9 : Hid (∀ w9, Below w8.heap.size w8 w9 → w9.cell? (ad5.add j) = some (.string sa) ∧ w9.cell? (ad8.add (j * 2)) = some (.int .i64 x) ∧ w9.cell? ⟨(ad8.add (j * 2)).block, (ad8.add (j * 2)).off + 1, none⟩ = some (.string b) ∧ Below w7.heap.size w7 w9) := fun w9 h9 =>
        ⟨(h9.cell (p := ad5.add j) (by rw [KH.block_of_add]; omega)).trans i1, (h9.cell (p := ad8.add (j * 2)) (by rw [KH.block_of_add]; omega)).trans i4, (h9.cell (p := ⟨(ad8.add (j * 2)).block, (ad8.add (j * 2)).off + 1, none⟩) (by show (ad8.add (j * 2)).block < _; rw [KH.block_of_add]; omega)).trans i5, hB9.trans (h9.mono hB9.size)⟩
      clear hKr H8 hb8 i2 i3 hc5 hc7 hd7 hB9 hs8
      go_wp2
      go_region_held3 (fun w' => w'.cell? (ad5.add j) = some (.string sa) ∧ w'.cell? (ad8.add (j * 2)) = some (.int .i64 x) ∧ w'.cell? ⟨(ad8.add (j * 2)).block, (ad8.add (j * 2)).off + 1, none⟩ = some (.string b)) (first | exact ⟨by assumption, by assumption, by assumption⟩ | go_keep) (first | (go_at_call 10; refine (HMK.out w8.drew hK9).mono ?_; rintro e w9 ⟨rfl, hb9⟩; obtain ⟨j1, j2, j3, hB10⟩ := H9.out w9 (((Below.refl w8.heap.size w8).drew).trans hb9)))
      clear hK9 H9 hb9 i1 i4 i5 j1 j2 j3
      go_wp2
      go_roundw
      case rel => exact ⟨j + 1, by omega, by go_num, hB10⟩
      case measure => simp [intOf]; omega
    · have hin38 : ShIn wr wr.heap.size A3 k (L.take k) := ShIn.take ((KH.Reads.below hin37 hb).more hsz) hk
      have hin48 : ShIn wr wr.heap.size A4 k (M.take k) := ShIn.take ((KH.Reads.below hin47 hb).more hsz) hk
      have hB8 := hB7.trans (hb.mono hs7)
      have hsb := hB8.size
      have hk3 : k ≤ c3 := by omega
      have hk4 : k ≤ c4 := by omega
      clear h57 hin37 hin47 hin57 hin67 hB7 hb
      have dr : decide (r < k) = true := by rw [decide_eq_true_iff]; omega
      have he : ∃ b1 b2, decide (j < r) = b1 ∧ decide (j < m5) = b2 ∧ (b1 && b2) = false := ⟨_, _, rfl, rfl, by rw [Bool.and_eq_false_iff, decide_eq_false_iff_not, decide_eq_false_iff_not]; omega⟩
      obtain ⟨b1, b2, d1, d2, d3⟩ := he
      clear hgo
      cases b1
      all_goals (try cases b2)
      all_goals (try (exact absurd d3 (by decide)))
      all_goals
        clear d3
        go_wp2_with fail
        refine (combine_told _ hin38 (by unfold maxLen; omega) HM.out.1.1).mono ?_; rintro e w9 ⟨rfl, hb9⟩
        rw [HC.out.1.1, HC.out.1.2]
        have hs9 := hb9.size
        have hin49 := (KH.Reads.below hin48 hb9).more hs9
        have hB9 := hB8.trans (hb9.mono (by omega))
        clear hB8 hb9 hin38 hin48
        go_wp2_with fail
        refine (combine_told _ hin49 (by unfold maxLen; omega) HM.out.1.2).mono ?_; rintro e w10 ⟨rfl, hb10⟩
        rw [HC.out.2.1.1, HC.out.2.1.2]
        have hs10 := hb10.size
        have hB10 := hB9.trans (hb10.mono (by omega))
        clear hB9 hb10 hin49
        go_wp2_with fail
        refine (seen_any _).mono ?_; rintro e w11 ⟨rfl, hb11⟩
        go_wp2
        go_ret
        exact ⟨rfl, hB10.trans (hb11.mono (by omega))⟩
end Go.Proofs.YtdeoibgedjbeiaaDoor
