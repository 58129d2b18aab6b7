/- For any shares and number ShareOrder returns true and turns nothing that was there: the order of shares plays no part, nor does one more of the same polynomial. No condition. -/
import Derived.Test.YtdeoibgedjbeiaaShareK
import Derived.WalkKit
import Derived.ProofKit
import Derived.OpenShut
import Derived.ShutString
import Derived.ChangeOld
import Derived.Below
namespace Go.Proofs.Ytdeoibgedjbeiaa.shareOrder
open Go.ChangeShapes Go.WideShapes Go.ChangeAt Go.RowKit
open Go.ChangeMaps (open_string shut_string)
set_option linter.unusedVariables false

theorem opened0 {H : Type} {enc : TypeId × Value → H} {W : World} {a : Option Addr} {len cap : Nat} {d : DataW H} {p : List MemPlace}
    (h : DataW.Trod enc Try.prog W 0 (fun _ => true) true 43 (.slice a len cap) d p) (_ : ∀ x ∈ p, x.block < W.heap.size) : ∃ zs, SharesIn W a len cap zs := shares_in h

set_option maxHeartbeats 2000000 in
set_option maxRecDepth 100000 in
theorem walk {w : World} {A : Option Addr} {n c : Nat} {l : List (Int × ByteArray)} (w0 : SharesIn w A n c l) (x : Int) (w1 : (Lit.int .i64 x).wf = true) :
    Calls Try.prog 14 #[.slice A n c, .int .i64 x] w fun e w' => e = .returned (.bool true) ∧ Below w.heap.size w w' := by
  obtain ⟨hsz, hnc, hcm, hnil, hin⟩ := w0
  have hnm : n ≤ maxLen := Nat.le_trans hnc hcm
  have hl := hin.len
  clear w1 hnc hcm
  by_cases hbig : bigS l = true
  · clear hl
    go_enter Try.func14, Try.ntmps14
    go_wp2_with fail
    refine (big_any _ hin hnm hsz).mono ?_; rintro e w1 ⟨rfl, rfl⟩
    rw [hbig]
    go_wp2
    go_ret
    exact ⟨rfl, Below.refl _ _⟩
  · have hbig : bigS l = false := by simpa using hbig
    have hn3 : n ≤ 300 := by
      unfold bigS bigL at hbig
      rw [Bool.or_eq_false_iff, decide_eq_false_iff_not] at hbig
      omega
    have hn9 : n ≤ 255 → n ≤ 8 := by
      unfold bigS bigL at hbig
      rw [Bool.or_eq_false_iff, decide_eq_false_iff_not] at hbig
      omega
    obtain ⟨i2, hi2, hx0, hx1, hx2⟩ := info_parts share_row
    have HL := KH.hid hl
    have HN := KH.hid hnil
    have HSZ := KH.hid hsz
    have HN9 := KH.hid hn9
    clear hl hnil hn9
    have nmm : n ≤ 9223372036854775807 := by omega
    go_enter Try.func14, Try.ntmps14
    go_wp2_with fail
    refine (big_any _ hin hnm hsz).mono ?_; rintro e w1 ⟨rfl, rfl⟩
    rw [hbig]
    clear hsz hbig
    go_wp2
    go_loopw [5, 6] (fun v i wr => ∃ j : Nat, j ≤ n ∧ ((j = 0 ∧ i = .int .i64 (-1)) ∨ ∃ j', j = j' + 1 ∧ i = .int .i64 (j' : Nat)) ∧ wr.ownsRow w.heap.size 55 2 v (n - j) (shC (l.reverse.take (n - j))) ∧ Below w.heap.size w wr) (fun _ i _ => (intOf i + 1).toNat)
    case atStart =>
      refine ⟨n, Nat.le_refl _, ?_, by rw [Nat.sub_self]; exact World.ownsRow_nil _ _ _ _, Below.refl _ _⟩
      cases n with
      | zero => exact .inl ⟨rfl, rfl⟩
      | succ n => exact .inr ⟨n, rfl, by first | rfl | (congr 1; done) | (congr 1; omega)⟩
    case round =>
      obtain ⟨j, hj, hi, hown, hb⟩ := hrel
      have hszw := hb.size
      rcases hi with ⟨rfl, rfl⟩ | ⟨j, rfl, rfl⟩
      · rw [Nat.sub_zero, List.take_of_length_le (by rw [List.length_reverse, HL.out]; exact Nat.le_refl _)] at hown
        obtain ⟨Ab, cb, rfl⟩ := KH.own_form hown
        have hin1 : ShIn wr wr.heap.size A n l := (KH.Reads.below hin hb).more hszw
        have hin2 : ShIn wr wr.heap.size Ab n l.reverse := KH.Reads.of_own hown
        clear hown hj
        have HSR : Hid (∀ p ∈ l.reverse, p.2.size ≤ maxLen) := fun p hp => HSZ.out p (List.mem_reverse.1 hp)
        go_wp2_with fail
        refine (at_told _ hin1 hnm HSZ.out x).mono ?_; rintro e w2 ⟨rfl, hb2⟩
        have hs2 := hb2.size
        have hin3 : ShIn w2 w2.heap.size Ab n l.reverse := (KH.Reads.below hin2 hb2).more hs2
        have hin4 := KH.Reads.below hin1 hb2
        clear hin1 hin2
        go_wp2_with fail
        refine (at_told _ hin3 hnm HSR.out x).mono ?_; rintro e w3 ⟨rfl, hb3⟩
        have hs3 := hb3.size
        have hin5 := KH.Reads.below hin4 (hb3.mono hs2)
        have hB3 := (hb.trans (hb2.mono hszw)).trans (hb3.mono (by omega))
        clear hin3 hin4 hb hb2 hb3
        rw [order_rev.1, order_rev.2]
        by_cases he : atE l x = 0
        · have hr := (atE_ok he).1
          have hn255 := (rightS_iff.1 hr).2.1
          rw [HL.out] at hn255
          have hn8 := HN9.out hn255
          have HM : Hid (x ∉ l.map (·.1) → atE l 7 = 0 ∧ atE (l ++ [(x, atV l x)]) 7 = 0 ∧ atV (l ++ [(x, atV l x)]) 7 = atV l 7) := fun hx => order_more he hx (by rw [HL.out]; omega)
          have HTH : Hid (∀ b, (x, b) ∈ l → atV l x = b) := fun b hb => order_there he hb
          have HVS : Hid ((atV l x).size ≤ maxLen) := by unfold Hid atV; split <;> first | (rw [tx_size]; unfold maxLen; omega) | exact Nat.zero_le _
          rw [he]
          clear he hr hn255
          generalize atV l x = a at *
          go_wp2
          go_loopw [11] (fun i wr => ∃ k : Nat, k ≤ n ∧ i = .int .i64 k ∧ Hid (x ∉ (l.take k).map (·.1)) ∧ wr = w3) (fun i _ => n - (intOf i).toNat)
          case atStart => exact ⟨0, Nat.zero_le _, rfl, by simp [Hid], rfl⟩
          case round =>
            obtain ⟨k, hk, rfl, HT, rfl⟩ := hrel
            by_cases hlt : k < n
            · obtain ⟨ad, y, b, rfl, hab, hx, hc1, hc2⟩ := ShIn.at_ hin5 hlt
              by_cases hy : y = x
              · subst hy
                have hab2 : a = b := HTH.out b (List.mem_of_getElem? hx)
                subst hab2
                clear hx
                go_wp2_with fail
                refine (shares_any _).mono ?_; rintro e w6 ⟨rfl, hb6⟩
                have hc3 := (hb6.cell (p := ⟨(ad.add (k * 2)).block, (ad.add (k * 2)).off + 1, none⟩) (World.block_lt_of_cell? _ _ hc2)).trans hc2
                go_wp2
                go_ret
                exact ⟨rfl, hB3.trans (hb6.mono hB3.size)⟩
              · have hye : (y == x) = false := by simpa using hy
                have HT2 : Hid (x ∉ (l.take (k + 1)).map (·.1)) := by
                  unfold Hid
                  rw [List.take_add_one, hx, List.map_append]
                  intro hm
                  rcases List.mem_append.1 hm with hm | hm
                  · exact HT.out hm
                  · simp at hm; exact hy hm.symm
                clear hx hy
                go_wp2
                go_roundw
                case rel => exact ⟨k + 1, by omega, by go_num, HT2, trivial⟩
                case measure => simp [intOf]; omega
            · obtain rfl : k = n := by omega
              have hxn := HT.out
              rw [List.take_of_length_le (Nat.le_of_eq HL.out)] at hxn
              obtain ⟨m1, m2, m3⟩ := HM.out hxn
              have HMM := KH.hid (And.intro m1 (And.intro m2 m3))
              clear hxn m1 m2 m3 HM HT HTH
              have hin6 : ShIn wr wr.heap.size A k l := KH.Reads.more hin5 (by omega)
              go_wp2_with fail
              refine (rown_any _ hin6 (by omega) HN.out).mono ?_; rintro e w6 ⟨Ar, cr, rfl, ho6, hb6⟩
              have hs6 := hb6.size
              go_wp2_with (at_builtin; refine KH.wpList_append_two rfl (.tmp 87) (.tmp 91) 43 rfl wr.heap.size 55 i2 _ 24 Try.underlying43 hi2 hx0 hx1 hx2 rfl _ k _ rfl (ho6.alloc _) w6.heap.size 1 (.int .i64 x) (.string a) rfl ?d1 ?d2 rfl rfl ?d3 ?d4 ?d5 ?_)
              first | (case d1 => simp) | skip
              first | (case d2 => simp) | skip
              case d3 => unfold maxLen; omega
              case d4 => omega
              case d5 => first | omega | (simp; omega)
              intro v7 w7 hown7 hb7
              have hb67 : Below wr.heap.size wr w7 := (hb6.alloc hs6 (.cells #[.int .i64 x, .string a] 55)).trans hb7
              have hown8 : w7.ownsRow wr.heap.size 55 2 v7 (k + 1) (shC (l ++ [(x, a)])) := by rw [shC_append]; exact hown7
              clear hown7 ho6 hb6 hb7
              obtain ⟨Am, cm, rfl⟩ := KH.own_form hown8
              have hin7 : ShIn w7 w7.heap.size Am (k + 1) (l ++ [(x, a)]) := KH.Reads.of_own hown8
              have hs7 := hb67.size
              have hin8 := KH.Reads.below hin6 hb67
              have HSM : Hid (∀ p ∈ l ++ [(x, a)], p.2.size ≤ maxLen) := fun p hp => by
                rcases List.mem_append.1 hp with hp | hp
                · exact HSZ.out p hp
                · simp at hp; subst hp; exact HVS.out
              clear hown8 hin6
              have hk1 : k + 1 ≤ maxLen := by unfold maxLen; omega
              go_wp2_with fail
              refine (at_told _ hin7 hk1 HSM.out 7).mono ?_; rintro e w8 ⟨rfl, hb8⟩
              rw [HMM.out.2.1, HMM.out.2.2]
              have hs8 := hb8.size
              have hin9 : ShIn w8 w8.heap.size A k l := KH.Reads.more (KH.Reads.below hin8 (hb8.mono hs7)) (by omega)
              clear hin7 hin8
              go_wp2_with fail
              refine (at_told _ hin9 hnm HSZ.out 7).mono ?_; rintro e w9 ⟨rfl, hb9⟩
              rw [HMM.out.1]
              have hs9 := hb9.size
              have hB9 := (hB3.trans (hb67.mono hB3.size)).trans ((hb8.trans (hb9.mono hs8)).mono (by have := hB3.size; omega))
              clear hin9 hb67 hb8 hb9 hB3
              go_wp2_with fail
              refine (shares_any _).mono ?_; rintro e w10 ⟨rfl, hb10⟩
              go_wp2
              go_ret
              exact ⟨rfl, hB9.trans (hb10.mono hB9.size)⟩
        · obtain ⟨hv, he⟩ := order_no he
          rw [hv]
          rcases he with he | he
          all_goals
            rw [he]
            go_wp2_with fail
            refine (shares_any _).mono ?_; rintro e w6 ⟨rfl, hb6⟩
            go_wp2
            go_ret
            exact ⟨rfl, hB3.trans (hb6.mono hB3.size)⟩
      · obtain ⟨ad, y, b, rfl, hab, hx, hc1, hc2⟩ := ShIn.at_ (KH.Reads.below hin hb) (show j < n by omega)
        have HS : Hid (shC (l.reverse.take (n - j)) = shC (l.reverse.take (n - (j + 1))) ++ [.int .i64 y, .string b]) := by
          unfold Hid
          rw [show n - j = (n - (j + 1)) + 1 by omega, List.take_add_one, shC_append, List.getElem?_reverse (by rw [HL.out]; omega), HL.out, show n - 1 - (n - (j + 1)) = j by omega, hx]
          rfl
        clear hx
        have j0 : (0 : Int) ≤ (j : Int) := by omega
        go_wp2_with (at_builtin; refine KH.wpList_append_two rfl (.tmp 26) (.tmp 31) 43 rfl w.heap.size 55 i2 _ 24 Try.underlying43 hi2 hx0 hx1 hx2 rfl _ (n - (j + 1)) _ rfl (hown.alloc _) wr.heap.size 1 (.int .i64 y) (.string b) rfl ?d1 ?d2 rfl rfl ?d3 ?d4 ?d5 ?_)
        first | (case d1 => simp) | skip
        first | (case d2 => simp) | skip
        case d3 => unfold maxLen; omega
        case d4 => omega
        case d5 => first | omega | (simp; omega)
        intro v1 w1' hown1 hb1
        have hb2 := (hb.alloc hszw (.cells #[.int .i64 y, .string b] 55)).trans hb1
        rw [show n - (j + 1) + 1 = n - j by omega, ← HS.out] at hown1
        clear hown hb HS
        go_wp2
        go_roundw
        case rel =>
          refine ⟨j, by omega, ?_, hown1, hb2⟩
          cases j with
          | zero => exact .inl ⟨rfl, rfl⟩
          | succ j => exact .inr ⟨j, rfl, by first | rfl | (congr 1; done) | (congr 1; omega)⟩
        case measure => first | (simp [intOf]; done) | (simp [intOf]; omega)

theorem own : ownKnob Try.prog.godebug = none := by kernel_rfl
theorem laidOut : laidOutB Try.prog = true := by kernel_rfl

/-! ### The step from the walk to the row -/
set_option maxRecDepth 100000 in
theorem lifted (os : Os) (started : os.Started) (H : Type) (enc : TypeId × Value → H) :
    ReturnsInHanded {} Try.checked os 14 .any (Rows.shareOrderSpec.pre6 enc Try.prog Try.f14 Rows.shareOrderRow.domain false) (Rows.shareOrderSpec.post enc Try.prog Try.f14 false true false false) := by
  refine returnsInHanded_of_change (C := Try.checked) own started (by kernel_rfl) Try.func14
    (ChangeSpec.witness6 (enc := enc) (C := Try.checked) false ⟨#[], #[.slice none 0 0, .int .i64 0], []⟩ 8 (by kernel_rfl) (by kernel_rfl) (by kernel_rfl) (by kernel_rfl)) ?_
  intro W base args ds gs before hval0 hW hcnd _
  have hval : ∀ (j : Nat) t v, Try.f14.params[j]? = some t → args[j]? = some v → Value.okWide Try.prog W .any base t v := hval0
  have hW' := hW
  obtain ⟨p, q, hA0, hV, rfl, hfz, hnd⟩ := hW
  have hA : DataW.TrodAll enc Try.prog W 0 (fun _ => true) true Try.f14.params.toList args.toList ds p := hA0
  rw [Try.params14] at hA hval
  obtain ⟨v0, vs0, d0, ds0, p0, q0, hargs, rfl, rfl, h0, r0⟩ := trodAll_cons hA
  obtain ⟨v1, vs1, d1, ds1, p1, q1, rfl, rfl, rfl, h1, r1⟩ := trodAll_cons r0
  obtain ⟨rfl, rfl, rfl⟩ := trodAll_nil r1
  obtain rfl : args = #[v0, v1] := by cases args; simp_all
  obtain ⟨rfl, rfl⟩ := trodVars_none hV
  obtain ⟨a0, len0, cap0, rfl⟩ := okWide_slice Try.underlying43 (hval 0 43 v0 rfl rfl)
  have k0 := h0
  have lt0 : ∀ x ∈ p0, x.block < W.heap.size := by obtain ⟨m, hm⟩ := k0; exact DataW.trod_lt m _ _ _ hm
  obtain ⟨z0, w0⟩ := opened0 h0 lt0
  obtain ⟨a1, rfl, rfl, rfl, w1⟩ := open_int Try.underlying3 (hval 1 3 v1 rfl rfl) h1
  clear hA0 hval0
  refine (walk w0 a1 w1).mono fun e W' ⟨he, bel⟩ => ?_
  subst he
  exact ⟨_, rfl, _, _, _, [], _, [], hW', trodAll_mk1 (shut_bool Try.underlying4 _), (trodAll_cons_mk (Below.trod laidOut (by kernel_rfl) (of_decide_eq_true (by kernel_rfl)) k0 bel lt0) (trodAll_cons_mk (shut_int Try.underlying3 w1) (trodAll_mk0))), rfl, bel.frame _, fun h => by cases h⟩

theorem over : Rows.shareOrderRow.holds Try.pinned (OpenSpec.ofChange Rows.shareOrderSpec) :=
  OpenClaim.holds_of_wide 14 Try.f14 rfl rfl rfl rfl rfl rfl rfl ⟨rfl, rfl, rfl, rfl, rfl⟩ rfl rfl rfl rfl rfl (by kernel_rfl) Try.func14 (by kernel_rfl)
    (of_decide_eq_true (by kernel_rfl)) (by unfold Func.isWrapper; first | (rw [if_pos (by decide +kernel)]; kernel_rfl) | (rw [if_neg (by decide +kernel)]; exact ⟨rfl, rfl⟩))
    (fun os started H enc _ => lifted os started H enc)

theorem proved : Rows.ShareOrderSaid := over

end Go.Proofs.Ytdeoibgedjbeiaa.shareOrder
