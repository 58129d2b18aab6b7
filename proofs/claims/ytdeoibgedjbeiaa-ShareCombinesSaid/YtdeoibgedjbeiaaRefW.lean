/- The walk of the document's Tape, where it tells one. -/
import Derived.Test.YtdeoibgedjbeiaaRefV
namespace Go.Proofs.Ytdeoibgedjbeiaa
open Go.RowKit

set_option maxHeartbeats 2000000 in
set_option maxRecDepth 100000 in
theorem rctape_yes {n : Nat} {A : Option Addr} (c : Nat) {l : List (Int × ByteArray)} {w : World} (s : ByteArray) (h : ShIn w w.heap.size A n l) (hs : s.size = 32) (hr : rightS l 1 = true) (hn : n ≤ 254) :
    Calls Try.prog 52 #[.string s, .slice A n c] w fun e w' => e = .returned (.tuple #[.string (tx (n * 32) (tapF s l)), .int .i64 0]) ∧ Below w.heap.size w w' := by
  obtain ⟨i1, hi1, hy0, hy1, hy2⟩ := info_parts byte_info
  obtain ⟨i2, hi2, hx0, hx1, hx2⟩ := info_parts share_row
  have hl := h.len
  have HL := KH.hid hl
  have HR := KH.hid (rightS_iff.1 hr)
  have HR1 := KH.hid hr
  have h1n : 1 ≤ n := by have := HR.out.1; omega
  have hz := zeroS_right (l := l)
  rw [hr, Bool.and_eq_true, Bool.not_eq_true'] at hz
  obtain ⟨hr0, hz0⟩ := hz
  have hnm : n ≤ maxLen := by unfold maxLen; omega
  have hsz : ∀ p ∈ l, p.2.size ≤ maxLen := fun p hp => by rw [(HR.out.2.2.2 p hp).2.2]; unfold maxLen; omega
  have hse : ((s.size : Int) != 32) = false := by simp [hs]
  have HS := KH.hid hs
  have hge : decide ((255 : Int) ≤ (n : Int)) = false := by simp; omega
  clear hl hs hr
  go_enter Try.func52, Try.ntmps52
  go_wp2_with fail
  refine (rRight_any _ h hnm hsz).mono ?_; rintro e w1 ⟨rfl, q, rfl⟩
  rw [hr0]
  clear hr0
  go_wp2_with fail
  refine (rzero_any _ (h.drewN q) hnm).mono ?_; rintro e w' ⟨rfl, rfl⟩
  rw [hz0]
  clear hz0
  have h1 : ShIn (w.drewN q) (w.drewN q).heap.size A n l := h
  have hb1 := below_drewN (Below.refl w.heap.size w) q
  have hs1 := hb1.size
  have hw1 : (w.drewN q).heap.size = w.heap.size := rfl
  clear h
  generalize w.drewN q = w1 at *
  obtain ⟨ad, hA, hadl, hcl⟩ := h1.2 h1n
  subst hA
  have hown0 : (w1.alloc (.cells #[.int .i64 0, .string s] 55)).ownsRow w1.heap.size 55 2 (.slice (some ⟨w1.heap.size, 0, none⟩) 1 1) 1 [.int .i64 0, .string s] :=
    World.ownsRow_lit (base := w1.heap.size) (size := 2) w1 #[.int .i64 0, .string s] 1 (e := 55) (Nat.le_refl _) (by unfold maxLen; omega) rfl
  have HNW : Hid (∀ j u, (shC l)[j]? = some u → (w1.alloc (.cells #[.int .i64 0, .string s] 55)).cell? (ad.add j) = some u) := fun j u hu => by
    rw [World.cell?_alloc_lt _ _ _ (by rw [KH.block_of_add]; exact hadl)]; exact hcl j u hu
  have HNL : Hid ((shC l).length = n * 2) := by unfold Hid; rw [shC_length, HL.out]
  have HONE : Hid (∀ u ∈ shC l, u.oneCell' = true) := fun u hu => by
    unfold shC at hu
    obtain ⟨p, _, hp⟩ := List.mem_flatMap.1 hu
    rcases List.mem_cons.1 hp with rfl | hp
    · rfl
    · rw [List.mem_singleton.1 hp]; rfl
  have hB0 := hb1.alloc hs1 (.cells #[.int .i64 0, .string s] 55)
  have HW1 := KH.hid hw1
  clear hcl hw1 hb1 h1
  go_wp2_with (at_builtin; refine wpList_append_own _ rfl (.tmp 32) (.tmp 33) 43 rfl w1.heap.size 55 i2 _ 2 24 Try.underlying43 hi2 hx0 hx1 hx2 rfl (by omega) _ 1 [.int .i64 0, .string s] rfl hown0 ad n _ (shC l) rfl HNL.out HNW.out HONE.out ?d1 ?d2 ?d3 ?_)
  case d1 => unfold maxLen; omega
  case d2 => omega
  case d3 => simp
  intro v2 w2 hown2 hgrow hnil
  have hB2 := hB0.grown hgrow (by simp; omega) (fun k hk => by have := (hown0.lt k hk).1; have := HW1.out; omega)
  clear hgrow hnil hown0 hB0
  obtain ⟨la, hla⟩ : ∃ la, la = (0, s) :: l := ⟨_, rfl⟩
  have hown2 : w2.ownsRow w1.heap.size 55 2 v2 (1 + n) (shC la) := by rw [hla]; exact hown2
  have HLA := KH.hid hla
  have hlan : la.length = 1 + n := by rw [hla, List.length_cons, HL.out]; omega
  have hall : allB (la.map (·.1)) = true := by
    rw [allB_iff]; intro x hx
    obtain ⟨p, hp, rfl⟩ := List.mem_map.1 hx
    rw [hla] at hp
    rcases List.mem_cons.1 hp with rfl | hp
    · show (0 : Int) ≤ 0 ∧ (0 : Int) ≤ 255; omega
    · have := HR.out.2.2.2 p hp; omega
  have hnd : (la.map (·.1)).Nodup := by
    rw [hla, List.map_cons, List.nodup_cons]
    refine ⟨fun h0 => ?_, HR.out.2.2.1⟩
    obtain ⟨p, hp, h0⟩ := List.mem_map.1 h0
    have := (HR.out.2.2.2 p hp).1
    omega
  have hsz : ∀ p ∈ la, p.2.size = 32 := fun p hp => by
    rw [hla] at hp
    rcases List.mem_cons.1 hp with rfl | hp
    · exact HS.out
    · exact (HR.out.2.2.2 p hp).2.2
  have HALL := KH.hid (And.intro hall (And.intro hnd (And.intro hsz hlan)))
  clear hla hall hnd hsz hlan
  generalize hN : 1 + n = N at *
  have h1N : 1 ≤ N := by omega
  have hNn : N ≤ 255 := by omega
  have HN := KH.hid hN
  have hN1 : N ≤ n + 1 := by omega
  have hN2 : n + 1 ≤ N := by omega
  clear hN
  obtain ⟨ga, ca, rfl, hga, hga'⟩ := hown2.form (by omega)
  have hr2 : ShIn w2 w2.heap.size (some ⟨ga, 0, none⟩) N la := KH.Reads.of_own hown2
  clear hown2
  have hs2 := hB2.size
  go_wp2_with fail
  refine (rcplaces_any _ hr2 (by omega)).mono ?_; rintro e w3 ⟨A3, c3, rfl, ho3, hb3⟩
  have hs3 := hb3.size
  have hB3 := hB2.trans (hb3.mono hs2)
  have hr3 := KH.Reads.of_own ho3
  have hla3 : ShIn w3 w3.heap.size (some ⟨ga, 0, none⟩) N la := (KH.Reads.below hr2 hb3).more hs3
  clear ho3 hb3 hr2 hB2
  have hzw : w.heap.size ≤ w3.heap.size := hB3.size
  go_wp2_with (at_make; refine wpList_make_full _ rfl _ _ 73 rfl w3.heap.size 5 i1 (.int .u8 0) 1 Try.underlying73 hi1 hy0 hy1 .i64 .i64 _ _ (n * 32) (by first | rfl | (show Value.int _ _ = Value.int _ _; congr 1; omega)) (by first | rfl | (show Value.int _ _ = Value.int _ _; congr 1; omega)) rfl rfl (by rw [hy2]; omega) (by unfold maxLen; omega) (Nat.le_refl _) ?_; intro w4 hown4 hg4)
  have hb4 : Below w3.heap.size w3 w4 := (Below.refl _ _).grown hg4 (Nat.le_refl _) (fun _ h => by cases h)
  rw [show (madeCells (Value.int .u8 0).cells (n * 32 * 1)).toList = bl (n * 32) (tcv la 0) by
    rw [Nat.mul_one]
    refine (toList_madeCells_one _ _).trans ?_
    refine List.ext_getElem (by simp [bl]) fun j h1 h2 => ?_
    simp [bl, tcv_zero]] at hown4
  clear hg4
  go_loopw [9] (fun t wr => ∃ i : Nat, i ≤ N ∧ t = .int .i64 i ∧ wr.ownsRow w3.heap.size 5 1 (.slice (some ⟨w3.heap.size, 0, none⟩) (n * 32) (n * 32)) (n * 32) (bl (n * 32) (tcv la i)) ∧ Below w3.heap.size w3 wr) (fun t _ => N - (intOf t).toNat)
  case atStart => exact ⟨0, Nat.zero_le _, rfl, hown4, hb4⟩
  case round =>
    obtain ⟨i, hiN, rfl, ho, hb⟩ := hrel
    clear hown4 hb4
    have hsr := hb.size
    by_cases hil : i < N
    · have hrX : KH.Reads wr wr.heap.size 1 A3 N ((la.map (·.1)).map (.int .i64)) := (hr3.below hb).more hsr
      go_wp2_with fail
      refine (rcbasis_any _ hrX (by omega) HALL.out.1 HALL.out.2.1 hil).mono ?_; rintro e w5 ⟨A5, c5, rfl, ho5, hb5⟩
      have HWC : Hid (nats (la.map (·.1)) = xsN la) := rfl
      rw [HWC.out] at ho5
      have hr5 := KH.Reads.of_own ho5
      have hs5 := hb5.size
      have hO5 := KH.own_below ho hb5
      have hB5 := hb.trans (hb5.mono hsr)
      obtain ⟨ad5, hA5, had5, hc5⟩ := hr5.2 h1N
      have hne5 : w3.heap.size ≠ ad5.block := by
        obtain ⟨g', c', hv, hga, _⟩ := ho5.form h1N
        injection hv with hv
        rw [hA5] at hv
        injection hv with hv
        have := (ho.lt w3.heap.size rfl).2
        rw [hv]
        show w3.heap.size ≠ g'
        omega
      subst hA5
      obtain ⟨ad0, X, b, hA0, hab0, hx0', hcx0, hcb0⟩ := ShIn.at_ (KH.Reads.below hla3 hB5) hil
      injection hA0 with hA0
      subst hA0
      have hb32 := HALL.out.2.2.1 _ (List.mem_of_getElem? hx0')
      have hb32' : b.size = 32 := hb32
      have HB32 := KH.hid hb32'
      have hbz : (32 : Int) ≤ (b.size : Int) := by omega
      have HXI := KH.hid hx0'
      have hg5 : ga < w3.heap.size := by omega
      clear ho5 ho hb hb5 hc5 hrX hx0' hcx0 hcb0 hb32 hb32'
      have hdz : bl (n * 32) (tcv la i) = bl (n * 32) (mixF (tcv la i) (tcv la (i + 1)) 0 0) := mixF_none _ _ _
      rw [hdz] at hO5
      clear hdz
      go_wp2
      go_loopw [11] (fun t wr => ∃ j : Nat, j ≤ 32 ∧ t = .int .i64 j ∧ wr.ownsRow w3.heap.size 5 1 (.slice (some ⟨w3.heap.size, 0, none⟩) (n * 32) (n * 32)) (n * 32) (bl (n * 32) (mixF (tcv la i) (tcv la (i + 1)) j 0)) ∧ Below w3.heap.size w3 wr ∧ KH.Reads wr w5.heap.size 1 (some ad5) N (bz N fun o => (KH.wc (xsN la) i N).getD o 0) ∧ w5.heap.size ≤ wr.heap.size) (fun t _ => 32 - (intOf t).toNat)
      case atStart => exact ⟨0, Nat.zero_le _, rfl, hO5, hB5, hr5, Nat.le_refl _⟩
      case round =>
        obtain ⟨j, hj, rfl, ho, hb, hrb, hz5⟩ := hrel
        clear hO5 hB5 hr5
        by_cases hjl : j < 32
        · have hdj : decide ((j : Int) < 32) = true := by rw [decide_eq_true_iff]; omega
          go_wp2
          go_loopw [12] (fun t wr => ∃ e : Nat, e ≤ n ∧ t = .int .i64 ((e : Int) + 1) ∧ wr.ownsRow w3.heap.size 5 1 (.slice (some ⟨w3.heap.size, 0, none⟩) (n * 32) (n * 32)) (n * 32) (bl (n * 32) (mixF (tcv la i) (tcv la (i + 1)) j e)) ∧ Below w3.heap.size w3 wr ∧ KH.Reads wr w5.heap.size 1 (some ad5) N (bz N fun o => (KH.wc (xsN la) i N).getD o 0) ∧ w5.heap.size ≤ wr.heap.size) (fun t _ => n + 1 - (intOf t).toNat)
          case atStart => exact ⟨0, Nat.zero_le _, rfl, ho, hb, hrb, hz5⟩
          case round =>
            obtain ⟨e, he, rfl, ho, hb, hrb, hz5⟩ := hrel
            by_cases hel : e < n
            · have hd1 : decide ((e : Int) + 1 < (N : Int)) = true := by rw [decide_eq_true_iff]; omega
              obtain ⟨ad', u, hA', had', hxu, hcb⟩ := KH.Reads.at_ hrb (show e + 1 < N by omega)
              injection hA' with hA'
              subst hA'
              rw [bz_get _ (show e + 1 < N by omega)] at hxu
              injection hxu with hxu
              subst hxu
              obtain ⟨ad', X', b', hA0, hab0, hx0', hcx0, hcb0⟩ := ShIn.at_ (KH.Reads.below hla3 hb) hil
              injection hA0 with hA0
              subst hA0
              rw [HXI.out] at hx0'
              injection hx0' with hx0'
              injection hx0' with hX hb'
              subst hX; subst hb'
              have hoat : e * 32 + j < n * 32 := by omega
              have hco := (ho.cellAt (e * 32 + j) (by omega)).trans (bl_get _ hoat)
              rw [mixF_at _ _ _ _ hjl] at hco
              have hfo := ho.frozenAt (e * 32 + j)
              have hjb : j < b.size := by omega
              have HST : Hid (tcv la (i + 1) (e * 32 + j) = tcv la i (e * 32 + j) ^^^ KH.mul ((KH.wc (xsN la) i N).getD (e + 1) 0) b[j].toNat) := by
                unfold Hid
                rw [sb_get b j hjb]
                have := tcv_step (e := e) HXI.out hjl (by have := HALL.out.2.2.2; omega)
                rw [HALL.out.2.2.2] at this
                exact this
              have HSS := KH.hid (mixF_step (tcv la i) (tcv la (i + 1)) j e (n * 32) hjl)
              have hwc : (KH.wc (xsN la) i N).getD (e + 1) 0 < 256 := (KH.Dg.wc i N).getD _
              have htc := tcv_lt la i (e * 32 + j)
              have hcb : wr.cell? ⟨ad5.block, ad5.off + (e + 1), none⟩ = some (.int .i64 ((KH.wc (xsN la) i N).getD (e + 1) 0 : Nat)) := by
                rw [show (⟨ad5.block, ad5.off + (e + 1), none⟩ : Addr) = ad5.add (e + 1) from by unfold Addr.add; rw [if_neg (by omega)]]; exact hcb
              rw [addr_at] at hcb0
              have HO := KH.hid ho
              have HB := KH.hid hb
              have HRB := KH.hid hrb
              rw [HST.out] at HSS
              clear ho hb hrb hcx0
              generalize (KH.wc (xsN la) i N).getD (e + 1) 0 = wd at *
              generalize tcv la i (e * 32 + j) = tv at *
              have hbj : b[j].toNat < 256 := UInt8.toNat_lt _
              have hml : KH.mul wd b[j].toNat < 256 := KH.mul_lt _ _
              have hx8 : tv ^^^ KH.mul wd b[j].toNat < 256 := KH.xor_lt htc hml
              have i0 : (0 : Int) ≤ (i : Int) := by omega
              have i1' : (i : Int) < (N : Int) := by omega
              have j0 : (0 : Int) ≤ (j : Int) := by omega
              have j1 : (j : Int) < (b.size : Int) := by omega
              have e0 : (0 : Int) ≤ (e : Int) := by omega
              have e1 : (e : Int) + 1 < (N : Int) := by omega
              have e2 : (0 : Int) ≤ (e : Int) + 1 := by omega
              have at0 : (0 : Int) ≤ 32 * (e : Int) + (j : Int) := by omega
              have at1 : 32 * (e : Int) + (j : Int) < (n : Int) * 32 := by omega
              have at2 : 32 * (e : Int) + (j : Int) ≤ 100000 := by omega
              go_wp2
              have kt : (32 * (e : Int) + (j : Int)).toNat = e * 32 + j := by omega
              have kt2 : ((e : Int) + 1).toNat = e + 1 := by omega
              have wb : IntKind.i64.wrap (b[j].toNat : Int) = (b[j].toNat : Int) := IntWalk.i64_in _ (by omega)
              have wt : IntKind.i64.wrap (tv : Int) = (tv : Int) := IntWalk.i64_in _ (by omega)
              have wu : IntKind.u8.wrap ((tv ^^^ KH.mul wd b[j].toNat : Nat) : Int) = ((tv ^^^ KH.mul wd b[j].toNat : Nat) : Int) := by
                rw [IntKind.wrap_u8]; omega
              refine wp_region_still_tail 23 (by kernel_rfl) (by kernel_rfl) ?_
              simp only [List.take_succ_cons, List.take_zero, List.drop_succ_cons, List.drop_zero]
              repeat still_step
              still_call (still_eq (rtimes_nat wd b[j].toNat _ hwc hbj))
              repeat still_step
              still_call (still_eq (rsum_nat tv (KH.mul wd b[j].toNat) _ htc hml))
              repeat still_step
              refine wpStill_nil ?_
              clear wb wt wu
              go_wp2
              have ho6 : (wr.setCell ⟨w3.heap.size, e * 32 + j, none⟩ (.int .u8 (tv ^^^ KH.mul wd b[j].toNat : Nat))).drew.ownsRow w3.heap.size 5 1 (.slice (some ⟨w3.heap.size, 0, none⟩) (n * 32) (n * 32)) (n * 32) (bl (n * 32) (mixF (tcv la i) (tcv la (i + 1)) j (e + 1))) := by
                rw [← HSS.out]; exact (HO.out.stored (e * 32 + j) (.int .u8 (tv ^^^ KH.mul wd b[j].toNat : Nat))).1
              have hb6 : Below w3.heap.size w3 (wr.setCell ⟨w3.heap.size, e * 32 + j, none⟩ (.int .u8 (tv ^^^ KH.mul wd b[j].toNat : Nat))).drew := (HB.out.setCell (p := ⟨w3.heap.size, e * 32 + j, none⟩) (Nat.le_refl _) _).drew
              have hrb6 : KH.Reads (wr.setCell ⟨w3.heap.size, e * 32 + j, none⟩ (.int .u8 (tv ^^^ KH.mul wd b[j].toNat : Nat))).drew w5.heap.size 1 (some ad5) N (bz N fun o => (KH.wc (xsN la) i N).getD o 0) := reads_far HRB.out hne5 _
              have hz6 : w5.heap.size ≤ (wr.setCell ⟨w3.heap.size, e * 32 + j, none⟩ (.int .u8 (tv ^^^ KH.mul wd b[j].toNat : Nat))).drew.heap.size := by simpa using hz5
              clear kt kt2
              go_roundw
              case rel => exact ⟨e + 1, by omega, by go_num, ho6, hb6, hrb6, hz6⟩
              case measure => simp [intOf]; omega
            · obtain rfl : e = n := by omega
              have hd1 : decide ((e : Int) + 1 < (N : Int)) = false := by rw [decide_eq_false_iff_not]; omega
              have hnx := mixF_next (tcv la i) (tcv la (i + 1)) j e
              rw [hnx] at ho
              clear hnx
              go_wp2
              go_roundw
              case rel => exact ⟨j + 1, by omega, by go_num, ho, hb, hrb, hz5⟩
              case measure => simp [intOf]; omega
        · obtain rfl : j = 32 := by omega
          have hnx := mixF_all (tcv la i) (tcv la (i + 1)) (n * 32)
          rw [hnx] at ho
          clear hnx
          go_wp2
          go_roundw
          case rel => exact ⟨i + 1, by omega, by go_num, ho, hb⟩
          case measure => simp [intOf]; omega
    · obtain rfl : i = N := by omega
      have hd1 : decide ((i : Int) < (i : Int)) = false := by simp
      have hfin : bl (n * 32) (tcv la i) = bl (n * 32) (tapF s l) := by
        refine bl_congr fun o _ => ?_
        rw [HLA.out, show i = l.length + 1 by have := HL.out; omega]
        exact tcv_all HR1.out o
      rw [hfin, bl_map] at ho
      clear hfin
      have hback := conv_own ho
      have HTX : Hid (strOfNums ((List.range (n * 32)).map fun o => ((tapF s l o : Nat) : Int)) = tx (n * 32) (tapF s l)) := rfl
      rw [HTX.out] at hback
      have HB := KH.hid (hB3.trans (hb.mono hzw))
      clear ho hb hB3
      go_wp2
      go_ret2
      exact ⟨rfl, HB.out⟩

theorem rctape_told {n : Nat} {A : Option Addr} (c : Nat) {l : List (Int × ByteArray)} {w : World} (s : ByteArray) (h : ShIn w w.heap.size A n l) (hn : n ≤ maxLen) (hsz : ∀ p ∈ l, p.2.size ≤ maxLen) :
    Calls Try.prog 52 #[.string s, .slice A n c] w fun e w' => e = .returned (.tuple #[.string (tapeV s l), .int .i64 (tapeE s l)]) ∧ Below w.heap.size w w' := by
  cases hk : tapeK s l
  · exact rctape_no c s h hn hsz hk
  · have hk' := hk
    unfold tapeK at hk'
    rw [Bool.and_eq_true, Bool.and_eq_true, decide_eq_true_iff, decide_eq_true_iff] at hk'
    obtain ⟨h1, h2, h3⟩ := hk'
    have hl := h.len
    have h255 := (rightS_iff.1 h2).2.1
    refine (rctape_yes c s h h1 h2 (by omega)).mono fun e w' ⟨he, hw⟩ => ⟨?_, hw⟩
    rw [he]
    unfold tapeV tapeE
    rw [hk, if_pos h1, h2, decide_eq_true h3, ← hl]; rfl
end Go.Proofs.Ytdeoibgedjbeiaa
