/- For any texts and numbers ShareSums returns true and turns nothing that was there: shares of two secrets, held against one another, are those of the secrets and tapes held so. No condition. -/
import Derived.Test.YtdeoibgedjbeiaaShareJ
import Derived.WalkKit
import Derived.ProofKit
import Derived.OpenShut
import Derived.ShutString
import Derived.ChangeOld
import Derived.Below
namespace Go.Proofs.Ytdeoibgedjbeiaa.shareSums
open Go.ChangeShapes Go.WideShapes Go.ChangeAt Go.RowKit
open Go.ChangeMaps (open_string shut_string)
set_option linter.unusedVariables false

set_option maxHeartbeats 2000000 in
set_option maxRecDepth 100000 in
theorem core1 (s t : ByteArray) (n k : Int) (a b : ByteArray) {w : World} (hs : s.size ≤ 100) (ht : t.size ≤ 100) (ha : a.size ≤ 300) (hb : b.size ≤ 300) (hn : n ≤ 12 ∨ (12 < n ∧ 255 < n)) (hK : splitK s n k a = false) :
    Calls Try.prog 15 #[.string s, .string t, .int .i64 n, .int .i64 k, .string a, .string b] w fun e w' => e = .returned (.bool true) ∧ Below w.heap.size w w' := by
  have hsm : s.size ≤ maxLen := by unfold maxLen; omega
  have htm : t.size ≤ maxLen := by unfold maxLen; omega
  have ham : a.size ≤ maxLen := by unfold maxLen; omega
  have hbm : b.size ≤ maxLen := by unfold maxLen; omega
  have hV : splitV s n k a = [] := by unfold splitV; rw [hK]; rfl
  have HV := KH.hid hV; clear hV
  rcases hn with h4 | ⟨h4, h5⟩
  all_goals
    go_enter Try.func15, Try.ntmps15
    go_wp2_with fail
    refine (split_told s n k a _ hsm ham).mono ?_; rintro e w1 ⟨A1, n1, c1, rfl, ho1, hb1, hl1⟩
    rw [HV.out] at hl1
    obtain rfl : 0 = n1 := hl1
    rw [hK]
    clear ho1
    have hs1 := hb1.size
    have e1 : splitE false = 1 := rfl
    rw [e1]
    go_wp2_with fail
    refine (split_told t n k b _ htm hbm).mono ?_; rintro e w2 ⟨A2, n2, c2, rfl, ho2, hb2, hl2⟩
    clear ho2 hl2
    have hs2 := hb2.size
    go_wp2_with fail
    refine (shares_any _).mono ?_; rintro e w3 ⟨rfl, hb3⟩
    go_wp2
    go_ret
    exact ⟨rfl, (hb1.trans (hb2.mono (by omega))).trans (hb3.mono (by omega))⟩

set_option maxHeartbeats 2000000 in
set_option maxRecDepth 100000 in
theorem core (s t : ByteArray) (n k : Int) (a b : ByteArray) {w : World} (hs : s.size ≤ 100) (ht : t.size ≤ 100) (ha : a.size ≤ 300) (hb : b.size ≤ 300) (hn : n ≤ 12 ∨ (12 < n ∧ 255 < n)) (hK : splitK s n k a = true) :
    Calls Try.prog 15 #[.string s, .string t, .int .i64 n, .int .i64 k, .string a, .string b] w fun e w' => e = .returned (.bool true) ∧ Below w.heap.size w w' := by
  have hsm : s.size ≤ maxLen := by unfold maxLen; omega
  have htm : t.size ≤ maxLen := by unfold maxLen; omega
  have ham : a.size ≤ maxLen := by unfold maxLen; omega
  have hbm : b.size ≤ maxLen := by unfold maxLen; omega
  obtain ⟨q1, q2, q3, q4, q5, q6⟩ := splitK_iff.1 hK
  obtain ⟨n', rfl⟩ := Int.eq_ofNat_of_zero_le (show 0 ≤ n by omega)
  obtain ⟨k', rfl⟩ := Int.eq_ofNat_of_zero_le (show 0 ≤ k by omega)
  have hV : splitV s n' k' a = splitL s a n' k' := by unfold splitV; rw [hK]; rfl
  have HV := KH.hid hV; clear hV
  have hn40 : n' ≤ 12 := by omega
  cases hK2 : splitK t n' k' b
  · clear q1 q2 q3 q4 q5 q6 hn
    go_enter Try.func15, Try.ntmps15
    go_wp2_with fail
    refine (split_told s n' k' a _ hsm ham).mono ?_; rintro e w1 ⟨A1, n1, c1, rfl, ho1, hb1, hl1⟩
    rw [hK]
    clear ho1 hl1
    have hs1 := hb1.size
    have e1 : splitE true = 0 := rfl
    rw [e1]
    go_wp2_with fail
    refine (split_told t n' k' b _ htm hbm).mono ?_; rintro e w2 ⟨A2, n2, c2, rfl, ho2, hb2, hl2⟩
    rw [hK2]
    have e2 : splitE false = 1 := rfl
    rw [e2]
    clear ho2 hl2
    have hs2 := hb2.size
    go_wp2_with fail
    refine (shares_any _).mono ?_; rintro e w3 ⟨rfl, hb3⟩
    go_wp2
    go_ret
    exact ⟨rfl, (hb1.trans (hb2.mono (by omega))).trans (hb3.mono (by omega))⟩
  · obtain ⟨r1, _, _, _, _, r6⟩ := splitK_iff.1 hK2
    have hK3 := sums_K hK hK2
    have HT : Hid (∀ i, i < n' → xbS (tx 32 (shv s a k' i)) (tx 32 (shv t b k' i)) = tx 32 (shv (xbS s t) (xbS a b) k' i)) := fun i hi => sums_text q1 r1 (by omega) (by omega) (by omega)
    have hV2 : splitV t n' k' b = splitL t b n' k' := by unfold splitV; rw [hK2]; rfl
    have HV2 := KH.hid hV2; clear hV2
    have hV3 : splitV (xbS s t) n' k' (xbS a b) = splitL (xbS s t) (xbS a b) n' k' := by unfold splitV; rw [hK3]; rfl
    have HV3 := KH.hid hV3; clear hV3
    have hz1 : (xbS s t).size ≤ maxLen := by rw [xbS_size (by omega)]; exact hsm
    have hz2 : (xbS a b).size ≤ maxLen := by rw [xbS_size (by omega)]; exact ham
    clear q1 q2 q3 q4 q5 q6 hn r1 r6
    have sh : s.size ≤ 140737488351232 := by omega
    have ah : a.size ≤ 140737488351232 := by omega
    go_enter Try.func15, Try.ntmps15
    go_wp2_with fail
    refine (split_told s n' k' a _ hsm ham).mono ?_; rintro e w1 ⟨A1, n1, c1, rfl, ho1, hb1, hl1⟩
    rw [HV.out] at ho1 hl1
    rw [splitL_length] at hl1
    subst hl1
    have hin1 : ShIn w1 w1.heap.size A1 n' (splitL s a n' k') := KH.Reads.of_own ho1
    rw [hK]
    clear ho1
    have hs1 := hb1.size
    have e1 : splitE true = 0 := rfl
    rw [e1]
    go_wp2_with fail
    refine (split_told t n' k' b _ htm hbm).mono ?_; rintro e w2 ⟨A2, n2, c2, rfl, ho2, hb2, hl2⟩
    rw [HV2.out] at ho2 hl2
    rw [splitL_length] at hl2
    subst hl2
    have hin2 : ShIn w2 w2.heap.size A2 n' (splitL t b n' k') := KH.Reads.of_own ho2
    have hin12 := KH.Reads.below hin1 hb2
    rw [hK2, e1]
    clear ho2 hin1
    have hs2 := hb2.size
    have hB2 := hb1.trans (hb2.mono hs1)
    clear hb1 hb2
    go_wp2_with fail
    refine (rxor_any s t _ sh htm).mono ?_; rintro e w3 ⟨rfl, hb3⟩
    have hs3 := hb3.size
    go_wp2_with fail
    refine (rxor_any a b _ ah hbm).mono ?_; rintro e w4 ⟨rfl, hb4⟩
    have hs4 := hb4.size
    have hb24 := hb3.trans (hb4.mono hs3)
    clear hb3 hb4
    go_wp2_with fail
    refine (split_told (xbS s t) n' k' (xbS a b) _ hz1 hz2).mono ?_; rintro e w5 ⟨A5, n5, c5, rfl, ho5, hb5, hl5⟩
    rw [HV3.out] at ho5 hl5
    rw [splitL_length] at hl5
    subst hl5
    rw [hK3, e1]
    have hs5 := hb5.size
    have hb25 := hb24.trans (hb5.mono (by omega))
    have hin5 : ShIn w5 w5.heap.size A5 n' (splitL (xbS s t) (xbS a b) n' k') := KH.Reads.of_own ho5
    have hin25 := KH.Reads.below hin2 hb25
    have hin15 := KH.Reads.below hin12 (hb25.mono (by omega))
    have hB5 := hB2.trans (hb25.mono (by omega))
    clear hin2 hin12 hb24 hb5 hb25 ho5 hB2
    go_wp2
    go_loopw [19] (fun i wr => ∃ i' : Nat, i' ≤ n' ∧ i = .int .i64 i' ∧ Below w5.heap.size w5 wr) (fun i _ => n' - (intOf i).toNat)
    case atStart => exact ⟨0, Nat.zero_le _, rfl, Below.refl _ _⟩
    case round =>
      obtain ⟨i, hin, rfl, hbw⟩ := hrel
      have hsz := hbw.size
      by_cases hil : i < n'
      · obtain ⟨ad1, X1, b1, rfl, hab1, hx1, hc11, hc12⟩ := ShIn.at_ (KH.Reads.below hin15 (hbw.mono (by omega))) hil
        obtain ⟨ad2, X2, b2, rfl, hab2, hx2, hc21, hc22⟩ := ShIn.at_ (KH.Reads.below hin25 (hbw.mono (by omega))) hil
        obtain ⟨ad5, X5, b5, rfl, hab5, hx5, hc51, hc52⟩ := ShIn.at_ (KH.Reads.below hin5 hbw) hil
        rw [splitL_get hil] at hx1 hx2 hx5
        injection hx1 with hx1; injection hx1 with e2 e3
        subst e2; subst e3
        injection hx2 with hx2; injection hx2 with e2 e3
        subst e2; subst e3
        injection hx5 with hx5; injection hx5 with e2 e3
        subst e2; subst e3
        have hy1 : (tx 32 (shv s a k' i)).size ≤ 140737488351232 := by rw [tx_size]; omega
        have hy2 : (tx 32 (shv t b k' i)).size ≤ maxLen := by rw [tx_size]; unfold maxLen; omega
        have HX := KH.hid (fun W => rxor_any (tx 32 (shv s a k' i)) (tx 32 (shv t b k' i)) W hy1 hy2)
        rw [HT.out i hil] at HX
        have HC : Hid (∀ w7, Below wr.drew.heap.size wr.drew w7 → (w7.cell? (ad1.add (i * 2)) = some (.int .i64 ((i + 1 : Nat) : Int)) ∧ w7.cell? ⟨(ad1.add (i * 2)).block, (ad1.add (i * 2)).off + 1, none⟩ = some (.string (tx 32 (shv s a k' i))) ∧ w7.cell? ⟨(ad2.add (i * 2)).block, (ad2.add (i * 2)).off + 1, none⟩ = some (.string (tx 32 (shv t b k' i))) ∧ w7.cell? (ad5.add (i * 2)) = some (.int .i64 ((i + 1 : Nat) : Int)) ∧ w7.cell? ⟨(ad5.add (i * 2)).block, (ad5.add (i * 2)).off + 1, none⟩ = some (.string (tx 32 (shv (xbS s t) (xbS a b) k' i)))) ∧ Below w5.heap.size w5 w7) := fun w7 h7 => by
          have h8 : Below wr.heap.size wr w7 := ((Below.refl _ _).drew).trans h7
          exact ⟨⟨(h8.cell (World.block_lt_of_cell? _ _ hc11)).trans hc11, (h8.cell (World.block_lt_of_cell? _ _ hc12)).trans hc12, (h8.cell (World.block_lt_of_cell? _ _ hc22)).trans hc22, (h8.cell (World.block_lt_of_cell? _ _ hc51)).trans hc51, (h8.cell (World.block_lt_of_cell? _ _ hc52)).trans hc52⟩, hbw.trans (h8.mono hsz)⟩
        clear hc21
        generalize tx 32 (shv s a k' i) = v1 at *
        generalize tx 32 (shv t b k' i) = v2 at *
        generalize tx 32 (shv (xbS s t) (xbS a b) k' i) = v5 at *
        go_wp2
        go_region_held3 (fun w' => w'.cell? (ad1.add (i * 2)) = some (.int .i64 ((i + 1 : Nat) : Int)) ∧ w'.cell? ⟨(ad1.add (i * 2)).block, (ad1.add (i * 2)).off + 1, none⟩ = some (.string v1) ∧ w'.cell? ⟨(ad2.add (i * 2)).block, (ad2.add (i * 2)).off + 1, none⟩ = some (.string v2) ∧ w'.cell? (ad5.add (i * 2)) = some (.int .i64 ((i + 1 : Nat) : Int)) ∧ w'.cell? ⟨(ad5.add (i * 2)).block, (ad5.add (i * 2)).off + 1, none⟩ = some (.string v5)) (first | exact ⟨by assumption, by assumption, by assumption, by assumption, by assumption⟩ | go_keep) (first | (go_at_call 48; refine (HX.out _).mono ?_; rintro e w8 ⟨rfl, hb8⟩; obtain ⟨⟨k1, k2, k3, k4, k5⟩, hB9⟩ := HC.out w8 hb8))
        go_wp2
        go_roundw
        case rel => exact ⟨i + 1, by omega, by go_num, hB9⟩
        case measure => simp [intOf]; omega
      · obtain rfl : i = n' := by omega
        go_wp2_with fail
        refine (shares_any _).mono ?_; rintro e w6 ⟨rfl, hb6⟩
        go_wp2
        go_ret
        exact ⟨rfl, (hB5.trans (hbw.mono hB5.size)).trans (hb6.mono (by have := hB5.size; omega))⟩

theorem walk {w : World} (s : ByteArray) (w0 : s.size ≤ 9223372036854775807) (t : ByteArray) (w1 : t.size ≤ 9223372036854775807) (n : Int) (w2 : (Lit.int .i64 n).wf = true) (k : Int) (w3 : (Lit.int .i64 k).wf = true) (a : ByteArray) (w4 : a.size ≤ 9223372036854775807) (b : ByteArray) (w5 : b.size ≤ 9223372036854775807) :
    Calls Try.prog 15 #[.string s, .string t, .int .i64 n, .int .i64 k, .string a, .string b] w fun e w' => e = .returned (.bool true) ∧ Below w.heap.size w w' := by
  clear w2 w3
  by_cases h1 : s.size ≤ 100
  · by_cases h2 : t.size ≤ 100
    · by_cases h3 : a.size ≤ 300
      · by_cases h4 : b.size ≤ 300
        · by_cases h5 : 12 < n ∧ n ≤ 255
          · obtain ⟨h5, h6⟩ := h5
            go_enter Try.func15, Try.ntmps15
            go_wp2
            go_ret
            exact ⟨rfl, Below.refl _ _⟩
          · have h6 : n ≤ 12 ∨ (12 < n ∧ 255 < n) := by omega
            cases hK : splitK s n k a
            · exact core1 s t n k a b h1 h2 h3 h4 h6 hK
            · exact core s t n k a b h1 h2 h3 h4 h6 hK
        · go_enter Try.func15, Try.ntmps15
          go_wp2
          go_ret
          exact ⟨rfl, Below.refl _ _⟩
      · go_enter Try.func15, Try.ntmps15
        go_wp2
        go_ret
        exact ⟨rfl, Below.refl _ _⟩
    · go_enter Try.func15, Try.ntmps15
      go_wp2
      go_ret
      exact ⟨rfl, Below.refl _ _⟩
  · go_enter Try.func15, Try.ntmps15
    go_wp2
    go_ret
    exact ⟨rfl, Below.refl _ _⟩

theorem own : ownKnob Try.prog.godebug = none := by kernel_rfl
theorem laidOut : laidOutB Try.prog = true := by kernel_rfl

/-! ### The step from the walk to the row -/
set_option maxRecDepth 100000 in
theorem lifted (os : Os) (started : os.Started) (H : Type) (enc : TypeId × Value → H) :
    ReturnsInHanded {} Try.checked os 15 .any (Rows.shareSumsSpec.pre6 enc Try.prog Try.f15 Rows.shareSumsRow.domain false) (Rows.shareSumsSpec.post enc Try.prog Try.f15 false true false false) := by
  refine returnsInHanded_of_change (C := Try.checked) own started (by kernel_rfl) Try.func15
    (ChangeSpec.witness6 (enc := enc) (C := Try.checked) false ⟨#[], #[.string ByteArray.empty, .string ByteArray.empty, .int .i64 0, .int .i64 0, .string ByteArray.empty, .string ByteArray.empty], []⟩ 8 (by kernel_rfl) (by kernel_rfl) (by kernel_rfl) (by kernel_rfl)) ?_
  intro W base args ds gs before hval0 hW hcnd _
  have hval : ∀ (j : Nat) t v, Try.f15.params[j]? = some t → args[j]? = some v → Value.okWide Try.prog W .any base t v := hval0
  have hW' := hW
  obtain ⟨p, q, hA0, hV, rfl, hfz, hnd⟩ := hW
  have hA : DataW.TrodAll enc Try.prog W 0 (fun _ => true) true Try.f15.params.toList args.toList ds p := hA0
  rw [Try.params15] at hA hval
  obtain ⟨v0, vs0, d0, ds0, p0, q0, hargs, rfl, rfl, h0, r0⟩ := trodAll_cons hA
  obtain ⟨v1, vs1, d1, ds1, p1, q1, rfl, rfl, rfl, h1, r1⟩ := trodAll_cons r0
  obtain ⟨v2, vs2, d2, ds2, p2, q2, rfl, rfl, rfl, h2, r2⟩ := trodAll_cons r1
  obtain ⟨v3, vs3, d3, ds3, p3, q3, rfl, rfl, rfl, h3, r3⟩ := trodAll_cons r2
  obtain ⟨v4, vs4, d4, ds4, p4, q4, rfl, rfl, rfl, h4, r4⟩ := trodAll_cons r3
  obtain ⟨v5, vs5, d5, ds5, p5, q5, rfl, rfl, rfl, h5, r5⟩ := trodAll_cons r4
  obtain ⟨rfl, rfl, rfl⟩ := trodAll_nil r5
  obtain rfl : args = #[v0, v1, v2, v3, v4, v5] := by cases args; simp_all
  obtain ⟨rfl, rfl⟩ := trodVars_none hV
  obtain ⟨a0, rfl, rfl, rfl, w0⟩ := open_string Try.underlying9 (hval 0 9 v0 rfl rfl) h0
  obtain ⟨a1, rfl, rfl, rfl, w1⟩ := open_string Try.underlying9 (hval 1 9 v1 rfl rfl) h1
  obtain ⟨a2, rfl, rfl, rfl, w2⟩ := open_int Try.underlying3 (hval 2 3 v2 rfl rfl) h2
  obtain ⟨a3, rfl, rfl, rfl, w3⟩ := open_int Try.underlying3 (hval 3 3 v3 rfl rfl) h3
  obtain ⟨a4, rfl, rfl, rfl, w4⟩ := open_string Try.underlying9 (hval 4 9 v4 rfl rfl) h4
  obtain ⟨a5, rfl, rfl, rfl, w5⟩ := open_string Try.underlying9 (hval 5 9 v5 rfl rfl) h5
  clear hA0 hval0
  refine (walk a0 w0 a1 w1 a2 w2 a3 w3 a4 w4 a5 w5).mono fun e W' ⟨he, bel⟩ => ?_
  subst he
  exact ⟨_, rfl, _, _, _, [], _, [], hW', trodAll_mk1 (shut_bool Try.underlying4 _), (trodAll_cons_mk (shut_string Try.underlying9 w0) (trodAll_cons_mk (shut_string Try.underlying9 w1) (trodAll_cons_mk (shut_int Try.underlying3 w2) (trodAll_cons_mk (shut_int Try.underlying3 w3) (trodAll_cons_mk (shut_string Try.underlying9 w4) (trodAll_cons_mk (shut_string Try.underlying9 w5) (trodAll_mk0))))))), rfl, bel.frame _, fun h => by cases h⟩

theorem over : Rows.shareSumsRow.holds Try.pinned (OpenSpec.ofChange Rows.shareSumsSpec) :=
  OpenClaim.holds_of_wide 15 Try.f15 rfl rfl rfl rfl rfl rfl rfl ⟨rfl, rfl, rfl, rfl, rfl⟩ rfl rfl rfl rfl rfl (by kernel_rfl) Try.func15 (by kernel_rfl)
    (of_decide_eq_true (by kernel_rfl)) (by unfold Func.isWrapper; first | (rw [if_pos (by decide +kernel)]; kernel_rfl) | (rw [if_neg (by decide +kernel)]; exact ⟨rfl, rfl⟩))
    (fun os started H enc _ => lifted os started H enc)

theorem proved : Rows.ShareSumsSaid := over

end Go.Proofs.Ytdeoibgedjbeiaa.shareSums
