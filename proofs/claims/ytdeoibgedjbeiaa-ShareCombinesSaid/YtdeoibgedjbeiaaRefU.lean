/- The walk of the document's basis. -/
import Derived.Test.YtdeoibgedjbeiaaRefT
import Derived.Deep.Onto
namespace Go.Proofs.Ytdeoibgedjbeiaa
open Go.RowKit

theorem wc_len (xs : List Nat) (i k m : Nat) (h : (KH.wc xs i k).length = m) : m ≤ k + 1 := by
  rw [KH.wc_length] at h
  split at h <;> omega

set_option maxHeartbeats 1000000 in
set_option maxRecDepth 100000 in
theorem rcbasis_any {n i : Nat} {A : Option Addr} (c : Nat) {X : List Int} {w : World} (h : KH.Reads w w.heap.size 1 A n (X.map (.int .i64))) (hn : n ≤ 299) (ha : allB X = true) (hnd : X.Nodup) (hi : i < n) :
    Calls Try.prog 83 #[.slice A n c, .int .i64 i] w fun e w' => ∃ A' c', e = .returned (.slice A' n c') ∧
      w'.ownsRow w.heap.size 3 1 (.slice A' n c') n (bz n fun o => (KH.wc (nats X) i n).getD o 0) ∧ Below w.heap.size w w' := by
  have hl : X.length = n := by have := h.1; simpa using this
  have HL := KH.hid hl
  have HA := KH.hid (And.intro ha hnd)
  clear hl ha hnd
  have hown0 : (w.alloc (.cells #[.int .i64 1] 3)).ownsRow w.heap.size 3 1 (.slice (some ⟨w.heap.size, 0, none⟩) 1 1) 1 (bz 1 fun o => (KH.wc (nats X) i 0).getD o 0) :=
    World.ownsRow_lit (base := w.heap.size) (size := 1) w #[.int .i64 1] 1 (e := 3) (Nat.le_refl _) (by unfold maxLen; omega) rfl
  have hb0 := (Below.refl w.heap.size w).alloc (Nat.le_refl _) (.cells #[.int .i64 1] 3)
  have HX : Hid (∀ k, k < n → (nats X).getD k 0 < 256) := fun k _ => (dg_nats HA.out.1).getD k
  obtain ⟨ad, hA, hadb, hcl⟩ := h.2 (by omega)
  subst hA
  clear hcl
  go_enter Try.func83, Try.ntmps83
  go_wp2
  go_loopw [5, 6] (fun v t wr => ∃ k m : Nat, k ≤ n ∧ t = .int .i64 k ∧ Hid ((KH.wc (nats X) i k).length = m) ∧ wr.ownsRow w.heap.size 3 1 v m (bz m fun o => (KH.wc (nats X) i k).getD o 0) ∧ Below w.heap.size w wr) (fun _ t _ => n - (intOf t).toNat)
  case atStart => exact ⟨0, 1, Nat.zero_le _, rfl, rfl, hown0, hb0⟩
  case round =>
    obtain ⟨k, m, hk, rfl, HM, hown, hb⟩ := hrel
    clear hown0 hb0
    have hsz := hb.size
    have hmk := wc_len _ _ _ _ HM.out
    by_cases hlt : k < n
    · by_cases hki : k = i
      · subst hki
        have heq : ((k : Int) == (k : Int)) = true := by simp
        have HW : Hid (KH.wc (nats X) k (k + 1) = KH.wc (nats X) k k) := by unfold Hid; rw [KH.wc, if_pos rfl]
        obtain ⟨A', c', rfl⟩ := KH.own_form hown
        go_wp2
        go_roundw
        case rel => exact ⟨k + 1, m, by omega, by go_num, by unfold Hid; rw [HW.out]; exact HM.out, by rw [HW.out]; exact hown, hb⟩
        case measure => simp [intOf]; omega
      · have heq : ((k : Int) == (i : Int)) = false := by simp; omega
        have hrr := h.below hb
        obtain ⟨ad1, z, hA, _, hx, hc⟩ := hrr.int hi
        injection hA with hA; subst hA
        have hz := nats_get HA.out.1 hx
        subst hz
        obtain ⟨ad2, z, hA, _, hx', hc'⟩ := hrr.int hlt
        injection hA with hA; subst hA
        have hz := nats_get HA.out.1 hx'
        subst hz
        have HW : Hid (KH.wc (nats X) i (k + 1) = KH.sc (KH.inv ((nats X).getD i 0 ^^^ (nats X).getD k 0)) (KH.ml (KH.wc (nats X) i k) ((nats X).getD k 0))) := by unfold Hid; rw [KH.wc, if_neg hki]
        have hdf : (nats X).getD i 0 ≠ (nats X).getD k 0 := by
          intro e
          rw [e] at hx
          have hp := List.pairwise_iff_getElem.1 HA.out.2
          have hil' : i < X.length := by have := HL.out; omega
          have hkl' : k < X.length := by have := HL.out; omega
          rw [List.getElem?_eq_getElem hil'] at hx
          rw [List.getElem?_eq_getElem hkl'] at hx'
          injection hx with hx; injection hx' with hx'
          rcases Nat.lt_or_ge i k with h' | h'
          · exact hp i k hil' hkl' h' (by rw [hx, hx'])
          · exact hp k i hkl' hil' (by omega) (by rw [hx, hx'])
        have hx1 : 1 ≤ (nats X).getD i 0 ^^^ (nats X).getD k 0 := by have := KH.xor_ne hdf; omega
        have ho8 := HX.out i hi
        have ha8 := HX.out k hlt
        clear hdf hx hx' hki
        have HD := KH.hid (KH.Dg.wc (xs := nats X) i k)
        generalize (nats X).getD i 0 = o at *
        generalize (nats X).getD k 0 = a at *
        generalize KH.wc (nats X) i k = L at *
        have hx2 : o ^^^ a < 256 := KH.xor_lt ho8 ha8
        have i0' : (0 : Int) ≤ (i : Int) := by omega
        have i1' : (i : Int) < (n : Int) := by omega
        have k0 : (0 : Int) ≤ (k : Int) := by omega
        have k1 : (k : Int) < (n : Int) := by omega
        obtain ⟨A', c', rfl⟩ := KH.own_form hown
        clear hrr
        go_wp2
        go_quiet ((first | (go_at_call 57; exact quiet_eq (rsum_nat _ _ _ (by omega) (by omega))) | (go_at_call 25; exact quiet_eq (rinv_nat _ _ (by omega) (by omega)))))
        have hinv8 : KH.inv (o ^^^ a) < 256 := KH.inv_lt _
        have hownq : (wr.drewN nq).ownsRow w.heap.size 3 1 (.slice A' m c') m (bz m fun o => L.getD o 0) := hown
        have hbq := below_drewN hb nq
        have hcq : (wr.drewN nq).cell? (ad.add k) = some (.int .i64 a) := hc'
        have hsq : w.heap.size ≤ (wr.drewN nq).heap.size := hsz
        clear hown hb hc' hc hsz
        generalize KH.inv (o ^^^ a) = iv at *
        generalize wr.drewN nq = wq at *
        have hrL := KH.Reads.of_own hownq
        clear hownq
        go_wp2_with fail
        refine (rctimes_any _ hrL HM.out (by omega) HD.out ha8).mono ?_; rintro e w2 ⟨g, cr, rfl, ho2, hb2⟩
        have hB2 := hbq.trans (hb2.mono hsq)
        have hown2 := ho2.mono hsq
        have hgl := (ho2.lt g rfl).2
        have HML : Hid (∀ p, (KH.ml L a).getD p 0 < 256) := fun p => (HD.out.ml a).getD p
        have HMN : Hid ((KH.ml L a).length = m + 1) := by unfold Hid; rw [KH.ml_length, HM.out]
        have hwg : w.heap.size ≤ g := (hown2.lt g rfl).1
        clear hrL ho2 hb2 hbq hcq
        generalize KH.ml L a = M at *
        have hst : w2.ownsRow w.heap.size 3 1 (.slice (some ⟨g, 0, none⟩) (m + 1) cr) (m + 1) (bz (m + 1) fun o => if o < 0 then KH.mul (M.getD o 0) iv else M.getD o 0) := by
          rw [bz_congr (G := fun o => M.getD o 0) fun o _ => if_neg (by omega)]; exact hown2
        clear hown2
        go_wp2
        go_loopw [10] (fun t wr => ∃ p : Nat, p ≤ m + 1 ∧ t = .int .i64 p ∧ wr.ownsRow w.heap.size 3 1 (.slice (some ⟨g, 0, none⟩) (m + 1) cr) (m + 1) (bz (m + 1) fun o => if o < p then KH.mul (M.getD o 0) iv else M.getD o 0) ∧ Below w.heap.size w wr) (fun t _ => m + 1 - (intOf t).toNat)
        case atStart => exact ⟨0, Nat.zero_le _, rfl, hst, hB2⟩
        case round =>
          obtain ⟨p, hp, rfl, hop, hbp⟩ := hrel
          clear hst hB2
          by_cases hpl : p < m + 1
          · have hcp := (hop.cellAt p (by omega)).trans (bz_get _ hpl)
            rw [if_neg (show ¬ p < p by omega)] at hcp
            have hfp := hop.frozenAt p
            have hM8 := HML.out p
            have HS : Hid ((bz (m + 1) fun o => if o < p then KH.mul (M.getD o 0) iv else M.getD o 0).set p (.int .i64 (KH.mul (M.getD p 0) iv : Nat)) = bz (m + 1) fun o => if o < p + 1 then KH.mul (M.getD o 0) iv else M.getD o 0) := by
              unfold Hid
              rw [bz_set]
              refine bz_congr fun o _ => ?_
              by_cases e : o = p
              · subst e; rw [if_pos rfl, if_pos (by omega)]
              · rw [if_neg e]
                by_cases h' : o < p
                · rw [if_pos h', if_pos (by omega)]
                · rw [if_neg h', if_neg (by omega)]
            have HO := KH.hid hop
            have HB := KH.hid hbp
            clear hop hbp
            generalize M.getD p 0 = mp at *
            have p0 : (0 : Int) ≤ (p : Int) := by omega
            have p1 : (p : Int) < (m : Int) + 1 := by omega
            go_wp2_with fail
            refine (rtimes_nat mp iv _ hM8 hinv8).mono ?_; rintro e w' ⟨rfl, rfl⟩
            have HO2 := KH.hid (HO.out.stored p (.int .i64 (KH.mul mp iv : Nat))).1
            generalize KH.mul mp iv = mi at *
            go_wp2
            go_roundw
            case rel => exact ⟨p + 1, by omega, by go_num, by rw [← HS.out]; exact HO2.out, HB.out.setCell (p := ⟨g, p, none⟩) hwg _⟩
            case measure => simp [intOf]; omega
          · obtain rfl : p = m + 1 := by omega
            have hd1 : decide (((m + 1 : Nat) : Int) < (m : Int) + 1) = false := by simp
            have hd2 : decide ((m : Int) + 1 < (m : Int) + 1) = false := by simp
            have HF : Hid (bz (m + 1) (fun o => if o < m + 1 then KH.mul (M.getD o 0) iv else M.getD o 0) = bz (m + 1) fun o => (KH.sc iv M).getD o 0) := by
              refine bz_congr fun o ho => ?_
              rw [if_pos ho]
              unfold KH.sc
              rw [KH.getD_map (by rw [HMN.out]; exact ho), KH.mul_comm]
            rw [HF.out, ← HW.out] at hop
            have HN : Hid ((KH.wc (nats X) i (k + 1)).length = m + 1) := by unfold Hid; rw [HW.out, KH.sc_length, HMN.out]
            go_wp2
            go_roundw
            case rel => exact ⟨k + 1, m + 1, by omega, by go_num, HN, hop, hbp⟩
            case measure => simp [intOf]; omega
    · obtain rfl : k = n := by omega
      have hd1 : decide ((k : Int) < (k : Int)) = false := by simp
      have hmn : m = k := by rw [← HM.out, KH.wc_length, if_pos hi]
      subst hmn
      obtain ⟨A', c', rfl⟩ := KH.own_form hown
      go_wp2
      go_ret
      exact ⟨_, _, rfl, hown, hb⟩
end Go.Proofs.Ytdeoibgedjbeiaa
