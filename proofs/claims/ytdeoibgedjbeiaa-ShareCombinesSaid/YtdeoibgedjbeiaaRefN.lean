/- The walks of the document's At and Combine. -/
import Derived.Test.YtdeoibgedjbeiaaRefL
namespace Go.Proofs.Ytdeoibgedjbeiaa
open Go.RowKit

set_option maxRecDepth 100000 in
theorem rat_no {n : Nat} {A : Option Addr} (c : Nat) {l : List (Int × ByteArray)} {w : World} (h : ShIn w w.heap.size A n l) (hn : n ≤ maxLen) (hsz : ∀ p ∈ l, p.2.size ≤ maxLen) (x : Int) (hk : (rightS l 0 && dgB x) = false) :
    Calls Try.prog 50 #[.slice A n c, .int .i64 x] w fun e w' => e = .returned (.tuple #[.string (atV l x), .int .i64 (atE l x)]) ∧ Below w.heap.size w w' := by
  have HV : Hid (atV l x = ⟨#[]⟩) := by unfold Hid atV; rw [hk]; rfl
  have hl := h.len
  have HL := KH.hid hl
  clear hl
  cases hr : rightS l 0
  · have HE : Hid (atE l x = 90) := by unfold Hid atE; rw [hr]; rfl
    rw [HV.out, HE.out]
    clear hk
    go_enter Try.func50, Try.ntmps50
    go_wp2_with fail
    refine (rRight_any _ h hn hsz).mono ?_; rintro e w1 ⟨rfl, q, rfl⟩
    rw [hr]
    go_wp2
    go_ret2
    exact ⟨rfl, below_drewN (Below.refl _ _) q⟩
  · have hd : dgB x = false := by rw [hr, Bool.true_and] at hk; exact hk
    have HE : Hid (atE l x = 1) := by unfold Hid atE; rw [hr, hd]; rfl
    have HW : Hid (weightsK (l.map (·.1)) x = false) := by unfold Hid weightsK; rw [hd, Bool.and_false]
    have h255 := (rightS_iff.1 hr).2.1
    have h300 : n ≤ 300 := by have := HL.out; omega
    rw [HV.out, HE.out]
    clear hk hd h255
    go_enter Try.func50, Try.ntmps50
    go_wp2_with fail
    refine (rRight_any _ h hn hsz).mono ?_; rintro e w1 ⟨rfl, q, rfl⟩
    rw [hr]
    clear hr hsz
    have h1 : ShIn (w.drewN q) (w.drewN q).heap.size A n l := h
    have hb1 := below_drewN (Below.refl w.heap.size w) q
    have hs1 := hb1.size
    generalize w.drewN q = w1 at *
    go_wp2_with fail
    refine (rcplaces_any _ h1 h300).mono ?_; rintro e w2 ⟨A2, c2, rfl, ho2, hb2⟩
    have hr2 := KH.Reads.of_own ho2
    have hs2 := hb2.size
    go_wp2_with fail
    refine (rweights_told _ hr2 hn x).mono ?_; rintro e w3 ⟨A3, n3, c3, rfl, ho3, hb3, hn3⟩
    rw [HW.out]
    clear ho3 hr2 ho2
    go_wp2
    go_ret2
    exact ⟨rfl, (hb1.trans (hb2.mono hs1)).trans (hb3.mono (by omega))⟩

set_option maxHeartbeats 1000000 in
set_option maxRecDepth 100000 in
theorem rat_yes {n : Nat} {A : Option Addr} (c : Nat) {l : List (Int × ByteArray)} {w : World} (h : ShIn w w.heap.size A n l) (hn : n ≤ maxLen) (hsz : ∀ p ∈ l, p.2.size ≤ maxLen) (x : Nat) (hr : rightS l 0 = true) (hx : x < 256) :
    Calls Try.prog 50 #[.slice A n c, .int .i64 x] w fun e w' => e = .returned (.tuple #[.string (tx 32 (atF l x n)), .int .i64 0]) ∧ Below w.heap.size w w' := by
  obtain ⟨i1, hi1, hy0, hy1, hy2⟩ := info_parts byte_info
  have hl := h.len
  have HL := KH.hid hl
  have HR := KH.hid (rightS_iff.1 hr)
  have h300 : n ≤ 300 := by have := HR.out.2.1; omega
  have h1n : 1 ≤ n := by have := HR.out.1; omega
  have HW : Hid (weightsK (l.map (·.1)) x = true) := by unfold Hid weightsK; rw [right_places hr, dgB_iff.2 (by omega)]; rfl
  have HWV : Hid (weightsV (l.map (·.1)) x = wts (l.map (·.1)) x n n) := by unfold Hid weightsV; rw [HW.out, List.length_map, hl]; rfl
  clear hl
  go_enter Try.func50, Try.ntmps50
  go_wp2_with fail
  refine (rRight_any _ h hn hsz).mono ?_; rintro e w1 ⟨rfl, q, rfl⟩
  rw [hr]
  clear hr hsz
  have h1 : ShIn (w.drewN q) (w.drewN q).heap.size A n l := h
  have hb1 := below_drewN (Below.refl w.heap.size w) q
  have hs1 := hb1.size
  generalize w.drewN q = w1 at *
  go_wp2_with fail
  refine (rcplaces_any _ h1 h300).mono ?_; rintro e w2 ⟨A2, c2, rfl, ho2, hb2⟩
  have hr2 := KH.Reads.of_own ho2
  have hs2 := hb2.size
  go_wp2_with fail
  refine (rweights_told _ hr2 hn x).mono ?_; rintro e w3 ⟨A3, n3, c3, rfl, ho3, hb3, hn3⟩
  rw [HW.out]
  rw [HWV.out, bz_wts] at ho3
  rw [HWV.out, wts_length] at hn3
  subst hn3
  have hr3 := KH.Reads.of_own ho3
  have hs3 := hb3.size
  have hB3 := (hb1.trans (hb2.mono hs1)).trans (hb3.mono (by omega))
  have hin3 : ShIn w3 w.heap.size A n l := KH.Reads.below h hB3
  have hzw : w.heap.size ≤ w3.heap.size := hB3.size
  clear hr2 ho2 ho3 hb1 hb2 hb3 h1 hs1 hs2 hs3 h
  obtain ⟨adw, hA3, hadw, hcw⟩ := hr3.2 h1n
  subst hA3
  have HCW := KH.hid hcw
  clear hcw
  obtain ⟨ad, hA, hadl, hcl⟩ := hin3.2 h1n
  subst hA
  clear hcl
  have HX : Hid (∀ p ∈ l, p.2.size = 32) := fun p hp => (HR.out.2.2.2 p hp).2.2
  go_wp2
  go_loopw [8, 9] (fun v i wr => ∃ j : Nat, j ≤ 32 ∧ i = .int .i64 j ∧ wr.ownsRow w3.heap.size 5 1 v j (bl j (atF l x n)) ∧ Below w3.heap.size w3 wr) (fun _ i _ => 32 - (intOf i).toNat)
  case atStart => exact ⟨0, Nat.zero_le _, rfl, World.ownsRow_nil _ _ _ _, Below.refl _ _⟩
  case round =>
    obtain ⟨j, hj, rfl, hown, hb⟩ := hrel
    have hsz := hb.size
    by_cases hjl : j < 32
    · obtain ⟨wo, hwo⟩ : ∃ wo : World, wo = wr := ⟨_, rfl⟩
      subst hwo
      go_wp2
      go_loopw [10, 11] (fun v t wr => ∃ k q : Nat, k ≤ n ∧ t = .int .i64 k ∧ v = .int .i64 (atF l x k j : Nat) ∧ wr = wo.drewN q) (fun _ t _ => n - (intOf t).toNat)
      case atStart => exact ⟨0, 0, Nat.zero_le _, rfl, rfl, rfl⟩
      case round =>
        obtain ⟨k, q, hk, rfl, rfl, hwq⟩ := hrel
        have HQ := KH.hid hwq
        have hownq : wr.ownsRow w3.heap.size 5 1 u8 j (bl j (atF l x n)) := by rw [hwq]; exact hown
        have hbq : Below w3.heap.size w3 wr := by rw [hwq]; exact below_drewN hb q
        clear hwq hown hb hsz
        have hsq := hbq.size
        by_cases hkl : k < n
        · obtain ⟨ad', X, b, hA, hab, hx5, hc1, hc2⟩ := ShIn.at_ (KH.Reads.below hin3 (hbq.mono hzw)) hkl
          injection hA with hA
          subst hA
          have hb32 : b.size = 32 := HX.out _ (List.mem_of_getElem? hx5)
          have hjb : j < b.size := by omega
          have HS : Hid (atF l x (k + 1) j = atF l x k j ^^^ KH.mul (b[j].toNat) (KH.wt (xsN l) k x n)) := by
            unfold Hid
            rw [atF_step hx5, KH.mul_comm, sb_get b j hjb, HL.out]
          have hcw := (hbq.cell (p := adw.add k) (by rw [KH.block_of_add]; exact hadw)).trans (HCW.out k _ (bz_get _ hkl))
          have hwt : KH.wt (nats (l.map (·.1))) k x n < 256 := KH.wt_lt _ _ _ _
          have hat := atF_lt l x k j
          have hbj : b[j].toNat < 256 := UInt8.toNat_lt _
          have HXS : Hid (xsN l = nats (l.map (·.1))) := rfl
          rw [HXS.out] at HS
          generalize KH.wt (nats (l.map (·.1))) k x n = wk at *
          generalize atF l x k j = ak at *
          have k0 : (0 : Int) ≤ (k : Int) := by omega
          have k1 : (k : Int) < (n : Int) := by omega
          have j0 : (0 : Int) ≤ (j : Int) := by omega
          have j1 : (j : Int) < (b.size : Int) := by omega
          have hml : KH.mul (b[j].toNat) wk < 256 := KH.mul_lt _ _
          clear hownq hb32 hc1 hx5
          go_wp2
          go_quiet ((first | (go_at_call 58; exact quiet_eq (rtimes_nat _ _ _ (by omega) (by omega))) | (go_at_call 57; exact quiet_eq (rsum_nat _ _ _ (by omega) (by omega)))))
          go_wp2
          go_roundw
          case rel => exact ⟨k + 1, _, by omega, by go_num, by rw [HS.out], by rw [HQ.out]; exact KH.dd⟩
          case measure => simp [intOf]; omega
        · obtain rfl : k = n := by omega
          have hd1 : decide ((k : Int) < (k : Int)) = false := by simp
          have HS := KH.hid (bl_snoc j (atF l x k))
          have hat := atF_lt l x k j
          generalize atF l x k j = y at *
          go_wp2_with (at_builtin; refine KH.wpList_append_one rfl (.tmp 49) (.tmp 52) 73 rfl w3.heap.size 5 i1 _ 1 Try.underlying73 hi1 hy0 hy1 hy2 rfl _ j _ rfl (hownq.alloc _) wr.heap.size 1 (.int .u8 y) rfl ?c1 rfl ?c3 ?c4 ?c5 ?_)
          first | (case c1 => simp) | skip
          case c3 => unfold maxLen; omega
          case c4 => omega
          case c5 => first | omega | (simp; omega)
          intro v1 w1' hown1 hb1
          have hb2 := (hbq.alloc hsq (.cells #[.int .u8 y] 5)).trans hb1
          clear hownq hbq
          go_wp2
          go_roundw
          case rel => exact ⟨j + 1, by omega, by go_num, by rw [HS.out]; exact hown1, hb2⟩
          case measure => simp [intOf]; omega
    · obtain rfl : j = 32 := by omega
      rw [bl_map] at hown
      have hback := conv_own hown
      have HTX : Hid (strOfNums ((List.range 32).map fun o => ((atF l x n o : Nat) : Int)) = tx 32 (atF l x n)) := rfl
      rw [HTX.out] at hback
      have HB := KH.hid (hB3.trans (hb.mono hzw))
      clear hown hb hB3 hin3 hr3
      go_wp2
      go_ret2
      exact ⟨rfl, HB.out⟩

theorem rat_told {n : Nat} {A : Option Addr} (c : Nat) {l : List (Int × ByteArray)} {w : World} (h : ShIn w w.heap.size A n l) (hn : n ≤ maxLen) (hsz : ∀ p ∈ l, p.2.size ≤ maxLen) (x : Int) :
    Calls Try.prog 50 #[.slice A n c, .int .i64 x] w fun e w' => e = .returned (.tuple #[.string (atV l x), .int .i64 (atE l x)]) ∧ Below w.heap.size w w' := by
  cases hk : rightS l 0 && dgB x
  · exact rat_no c h hn hsz x hk
  · have hk' := hk
    rw [Bool.and_eq_true] at hk'
    have hx := dgB_iff.1 hk'.2
    obtain ⟨y, rfl⟩ := Int.eq_ofNat_of_zero_le hx.1
    refine (rat_yes c h hn hsz y hk'.1 (by omega)).mono fun e w' ⟨he, hw⟩ => ⟨?_, hw⟩
    rw [he]
    unfold atV atE
    rw [hk, hk'.1, hk'.2, h.len]; rfl

set_option maxRecDepth 100000 in
theorem rcombine_told {n : Nat} {A : Option Addr} (c : Nat) {l : List (Int × ByteArray)} {w : World} (h : ShIn w w.heap.size A n l) (hn : n ≤ maxLen) (hsz : ∀ p ∈ l, p.2.size ≤ maxLen) :
    Calls Try.prog 49 #[.slice A n c] w fun e w' => e = .returned (.tuple #[.string (combV l), .int .i64 (combE l)]) ∧ Below w.heap.size w w' := by
  have hz := zeroS_right (l := l)
  cases hr : rightS l 0
  · have hk : combK l = false := by unfold combK; rw [← hz, hr]; rfl
    have HV : Hid (combV l = ⟨#[]⟩ ∧ combE l = 90) := ⟨by unfold combV; rw [hk]; rfl, by unfold combE; rw [hk]; rfl⟩
    rw [HV.out.1, HV.out.2]
    clear hk hz
    go_enter Try.func49, Try.ntmps49
    go_wp2_with fail
    refine (rRight_any _ h hn hsz).mono ?_; rintro e w1 ⟨rfl, q, rfl⟩
    rw [hr]
    go_wp2
    go_ret2
    exact ⟨rfl, below_drewN (Below.refl _ _) q⟩
  · cases hz0 : zeroS l
    · have hk : combK l = true := by unfold combK; rw [← hz, hr, hz0]; rfl
      have HV : Hid (combV l = atV l 0 ∧ combE l = atE l 0) := ⟨by unfold combV atV; rw [hk, hr, h.len]; rfl, by unfold combE atE; rw [hk, hr]; rfl⟩
      rw [HV.out.1, HV.out.2]
      clear hk hz
      go_enter Try.func49, Try.ntmps49
      go_wp2_with fail
      refine (rRight_any _ h hn hsz).mono ?_; rintro e w1 ⟨rfl, q, rfl⟩
      rw [hr]
      go_wp2_with fail
      refine (rzero_any _ (h.drewN q) hn).mono ?_; rintro e w' ⟨rfl, rfl⟩
      rw [hz0]
      have h1 : ShIn (w.drewN q) (w.drewN q).heap.size A n l := h
      have hb1 := below_drewN (Below.refl w.heap.size w) q
      have hs1 := hb1.size
      clear hr hz0
      generalize w.drewN q = w1 at *
      go_wp2_with fail
      refine (rat_told _ h1 hn hsz 0).mono ?_; rintro e w2 ⟨rfl, hb2⟩
      go_wp2
      go_ret2
      exact ⟨rfl, hb1.trans (hb2.mono hs1)⟩
    · have hk : combK l = false := by unfold combK; rw [← hz, hr, hz0]; rfl
      have HV : Hid (combV l = ⟨#[]⟩ ∧ combE l = 90) := ⟨by unfold combV; rw [hk]; rfl, by unfold combE; rw [hk]; rfl⟩
      rw [HV.out.1, HV.out.2]
      clear hk hz
      go_enter Try.func49, Try.ntmps49
      go_wp2_with fail
      refine (rRight_any _ h hn hsz).mono ?_; rintro e w1 ⟨rfl, q, rfl⟩
      rw [hr]
      go_wp2_with fail
      refine (rzero_any _ (h.drewN q) hn).mono ?_; rintro e w' ⟨rfl, rfl⟩
      rw [hz0]
      go_wp2
      go_ret2
      exact ⟨rfl, below_drewN (Below.refl _ _) q⟩
end Go.Proofs.Ytdeoibgedjbeiaa
