import Derived.Test.YtlnilfcjcoclhaaGreatDoorBc
/- Package word: Cut and Join, the lowest byte first. -/
namespace Go.Proofs.YtlnilfcjcoclhaaGreatDoor
open Go.RowKit

set_option maxHeartbeats 1000000 in
set_option maxRecDepth 100000 in
theorem cut_no (s : ByteArray) (w : World) (m : Nat) (hs : s.size = m * 4) (hm : m ≤ 100) :
    Calls Tryz.prog 74 #[.string s, .bool false] w fun e w' => e = .returned (.tuple #[.slice (some ⟨w.heap.size, 0, none⟩) m m, .bool true]) ∧
      w'.ownsRow w.heap.size 3 1 (.slice (some ⟨w.heap.size, 0, none⟩) m m) m (bzW m fun q => ctF false s q s.size) ∧ Below w.heap.size w w' := by
  obtain ⟨i0, hi, hz0, hz1, hz2⟩ := info_parts int_info
  have hr4 : ((s.size : Int) % 4 != 0) = false := by simp; omega
  have hs9 : s.size ≤ 400 := by omega
  have HS := KH.hid hs
  have hq4 : (s.size : Int) / 4 = (m : Nat) := by omega
  clear hs
  go_enter Tryz.func74, Tryz.ntmps74
  go_wp2_with fail
  refine (places_no _).mono ?_; rintro e w' ⟨rfl, rfl⟩
  go_wp2_with (at_make; refine wpList_make_full _ rfl _ _ 29 rfl w.heap.size 3 i0 (.int .i64 0) 1 Tryz.underlying29 hi hz0 hz1 .i64 .i64 _ _ m rfl rfl rfl rfl (by rw [hz2]; omega) (by unfold maxLen; omega) (Nat.le_refl _) ?_; intro w3 hown3 hg3)
  have hb3 : Below w.heap.size w w3 := (Below.refl _ _).grown hg3 (Nat.le_refl _) (fun _ h => by cases h)
  rw [show (madeCells (Value.int .i64 0).cells (m * 1)).toList = bzW m fun q => ctF false s q 0 by
    rw [Nat.mul_one]
    refine (toList_madeCells_one _ _).trans ?_
    refine List.ext_getElem (by simp [bzW]) fun j h1 h2 => ?_
    simp [bzW, ctF]] at hown3
  clear hg3 hq4 hr4
  go_loopw [21] (fun i wr => ∃ k : Nat, k ≤ s.size ∧ i = .int .i64 k ∧ wr.ownsRow w.heap.size 3 1 (.slice (some ⟨w.heap.size, 0, none⟩) m m) m (bzW m fun q => ctF false s q k) ∧ Below w.heap.size w wr) (fun i _ => s.size - (intOf i).toNat)
  case atStart => exact ⟨0, Nat.zero_le _, rfl, hown3, hb3⟩
  case round =>
    obtain ⟨k, hk, rfl, ho, hb⟩ := hrel
    clear hown3 hb3
    by_cases hlt : k < s.size
    · have hq : k / 4 < m := by have := HS.out; omega
      have hc := (ho.cellAt (k / 4) (by omega)).trans (bzW_get _ hq)
      have hf := ho.frozenAt (k / 4)
      have hct := ctF_lt false s (k / 4) k
      have hsh := shl_lt false s k
      have hbl := blw_le false k
      have hsb : (s[k]'hlt).toNat = sb s k := sb_get s k hlt
      have hsk : (s[k]'hlt).toNat < 256 := UInt8.toNat_lt _
      have HST : Hid ((bzW m fun q => ctF false s q k).set (k / 4) (.int .i64 (ctF false s (k / 4) k ||| (sb s k * 2 ^ blw false k) : Nat)) = bzW m fun q => ctF false s q (k + 1)) := by
        unfold Hid
        rw [bzW_set]
        refine bzW_congr fun o _ => ?_
        show _ = if k / 4 = o then _ else _
        by_cases e : o = k / 4
        · subst e; rw [if_pos rfl]
        · rw [if_neg e, if_neg (fun h => e h.symm)]
      have HO := KH.hid ho
      have HB := KH.hid hb
      have HSB := KH.hid hsb
      have k0 : (0 : Int) ≤ (k : Int) := by omega
      have k1 : (k : Int) < (s.size : Int) := by omega
      clear ho hb hsb
      generalize ctF false s (k / 4) k = old at *
      have kw : IntKind.i64.wrap ((k : Int) / 4) = (k : Int) / 4 := IntWalk.i64_in _ (by omega)
      have km : IntKind.i64.wrap ((k : Int) % 4) = (k : Int) % 4 := IntWalk.i64_in _ (by omega)
      have kt : ((k : Int) / 4).toNat = k / 4 := by omega
      have k2 : (0 : Int) ≤ (k : Int) / 4 := by omega
      have k3 : (k : Int) / 4 < (m : Int) := by omega
      have wb : IntKind.i64.wrap ((s[k]'hlt).toNat : Int) = ((s[k]'hlt).toNat : Int) := IntWalk.i64_in _ (by omega)
      have ktm : Int.tmod (k : Int) 4 = (k : Int) % 4 := Int.tmod_eq_emod_of_nonneg (by omega)
      go_wp2
      refine wp_region_still_tail 16 (by kernel_rfl) (by kernel_rfl) ?_
      simp only [List.take_succ_cons, List.take_zero, List.drop_succ_cons, List.drop_zero]
      repeat still_step
      still_call (still_eq2 (places2_any k _))
      repeat still_step
      refine wpStill_nil ?_
      clear kw km ktm wb
      have hval : bits .or .i64 (old : Int) (IntKind.i64.wrap (((s[k]'hlt).toNat : Int) * 2 ^ blw false k)) = ((old ||| (sb s k * 2 ^ blw false k) : Nat) : Int) := by
        rw [← bits_or_i64_nat _ _ (by omega) (by omega), HSB.out]
        congr 1
        have : ((sb s k * 2 ^ blw false k : Nat) : Int) = (sb s k : Int) * 2 ^ blw false k := by simp
        rw [← this]
        exact IntWalk.i64_in _ (by omega)
      go_wp2
      have ho6 : (wr.setCell ⟨w.heap.size, k / 4, none⟩ (.int .i64 (old ||| (sb s k * 2 ^ blw false k) : Nat))).drew.ownsRow w.heap.size 3 1 (.slice (some ⟨w.heap.size, 0, none⟩) m m) m (bzW m fun q => ctF false s q (k + 1)) := by
        rw [← HST.out]; exact (HO.out.stored (k / 4) _).1
      have hb6 : Below w.heap.size w (wr.setCell ⟨w.heap.size, k / 4, none⟩ (.int .i64 (old ||| (sb s k * 2 ^ blw false k) : Nat))).drew := (HB.out.setCell (p := ⟨w.heap.size, k / 4, none⟩) (Nat.le_refl _) _).drew
      go_roundw
      case rel => exact ⟨k + 1, by omega, by go_num, ho6, hb6⟩
      case measure => simp [intOf]; omega
    · obtain rfl : k = s.size := by omega
      have hd1 : decide ((s.size : Int) < (s.size : Int)) = false := by simp
      go_wp2
      go_ret2
      exact ⟨rfl, ho, hb⟩

set_option maxHeartbeats 1000000 in
set_option maxRecDepth 100000 in
theorem join_no {m : Nat} {A : Option Addr} (c : Nat) {L : List Nat} {w : World} (h : KH.Reads w w.heap.size 1 A m ((zi L).map (.int .i64))) (hL : ∀ x ∈ L, x < 4294967296) (hm : m ≤ 100) :
    Calls Tryz.prog 47 #[.slice A m c, .bool false] w fun e w' => e = .returned (.tuple #[.string (joV false L), .bool true]) ∧ Below w.heap.size w w' := by
  obtain ⟨i1, hi1, hy0, hy1, hy2⟩ := info_parts byte_info
  have hl : L.length = m := by have := h.1; simpa [zi] using this
  have HL := KH.hid (And.intro hl hL)
  have HV : Hid (joV false L = tx (m * 4) (joF false L)) := by unfold Hid joV; rw [hl]
  rw [HV.out]
  clear hl hL
  go_enter Tryz.func47, Tryz.ntmps47
  go_wp2_with fail
  refine (is_yes _ h HL.out.2 (by unfold maxLen; omega)).mono ?_; rintro e w' ⟨rfl, rfl⟩
  go_wp2_with fail
  refine (places_no _).mono ?_; rintro e w' ⟨rfl, rfl⟩
  go_wp2_with (at_make; refine wpList_make_full _ rfl _ _ 84 rfl w.heap.size 5 i1 (.int .u8 0) 1 Tryz.underlying84 hi1 hy0 hy1 .i64 .i64 _ _ (m * 4) (by first | rfl | (show Value.int _ _ = Value.int _ _; congr 1; omega)) (by first | rfl | (show Value.int _ _ = Value.int _ _; congr 1; omega)) rfl rfl (by rw [hy2]; omega) (by unfold maxLen; omega) (Nat.le_refl _) ?_; intro w3 hown3 hg3)
  have hb3 : Below w.heap.size w w3 := (Below.refl _ _).grown hg3 (Nat.le_refl _) (fun _ h => by cases h)
  rw [show (madeCells (Value.int .u8 0).cells (m * 4 * 1)).toList = bl (m * 4) (fun o => if o < 0 then joF false L o else 0) by
    rw [Nat.mul_one]
    refine (toList_madeCells_one _ _).trans ?_
    refine List.ext_getElem (by simp [bl]) fun j h1 h2 => ?_
    simp [bl]] at hown3
  clear hg3
  go_loopw [20] (fun i wr => ∃ k : Nat, k ≤ m * 4 ∧ i = .int .i64 k ∧ wr.ownsRow w.heap.size 5 1 (.slice (some ⟨w.heap.size, 0, none⟩) (m * 4) (m * 4)) (m * 4) (bl (m * 4) fun o => if o < k then joF false L o else 0) ∧ Below w.heap.size w wr) (fun i _ => m * 4 - (intOf i).toNat)
  case atStart => exact ⟨0, Nat.zero_le _, rfl, hown3, hb3⟩
  case round =>
    obtain ⟨k, hk, rfl, ho, hb⟩ := hrel
    clear hown3 hb3
    by_cases hlt : k < m * 4
    · have hq : k / 4 < m := by omega
      obtain ⟨ad, z, rfl, hab, hx, hc⟩ := KH.Reads.int (h.below hb) hq
      have hz : z = ((L.getD (k / 4) 0 : Nat) : Int) := by
        rw [zi_get (by rw [HL.out.1]; omega)] at hx; injection hx with hx; exact hx.symm
      subst hz
      have hL8 : L.getD (k / 4) 0 < 4294967296 := by
        rw [KH.getD_eq (by rw [HL.out.1]; omega)]; exact HL.out.2 _ (List.getElem_mem _)
      have hco := (ho.cellAt k (by omega)).trans (bl_get _ hlt)
      have hf := ho.frozenAt k
      have hbl := blw_le false k
      have HJ : Hid (joF false L k = (L.getD (k / 4) 0 / 2 ^ blw false k) % 256) := rfl
      have HST : Hid ((bl (m * 4) fun o => if o < k then joF false L o else 0).set k (.int .u8 ((L.getD (k / 4) 0 / 2 ^ blw false k) % 256 : Nat)) = bl (m * 4) fun o => if o < k + 1 then joF false L o else 0) := by
        unfold Hid
        rw [bl_set]
        refine bl_congr fun o _ => ?_
        by_cases e : o = k
        · subst e; rw [if_pos rfl, if_pos (by omega)]; rfl
        · rw [if_neg e]
          by_cases h : o < k
          · rw [if_pos h, if_pos (by omega)]
          · rw [if_neg h, if_neg (by omega)]
      have HO := KH.hid ho
      have HB := KH.hid hb
      clear hx ho hb
      generalize L.getD (k / 4) 0 = y at *
      generalize (if k < k then joF false L k else 0) = old at *
      have k0 : (0 : Int) ≤ (k : Int) := by omega
      have k1 : (k : Int) < (m : Int) * 4 := by omega
      have kw : IntKind.i64.wrap ((k : Int) / 4) = (k : Int) / 4 := IntWalk.i64_in _ (by omega)
      have kt : ((k : Int) / 4).toNat = k / 4 := by omega
      have k2 : (0 : Int) ≤ (k : Int) / 4 := by omega
      have k3 : (k : Int) / 4 < (m : Int) := by omega
      have km : IntKind.i64.wrap ((k : Int) % 4) = (k : Int) % 4 := IntWalk.i64_in _ (by omega)
      have ktm : Int.tmod (k : Int) 4 = (k : Int) % 4 := Int.tmod_eq_emod_of_nonneg (by omega)
      go_wp2
      refine wp_region_still_tail 14 (by kernel_rfl) (by kernel_rfl) ?_
      simp only [List.take_succ_cons, List.take_zero, List.drop_succ_cons, List.drop_zero]
      repeat still_step
      still_call (still_eq2 (places2_any k _))
      repeat still_step
      refine wpStill_nil ?_
      clear kw km ktm
      have hval : IntKind.u8.wrap ((y : Int) / 2 ^ blw false k) = (((y / 2 ^ blw false k) % 256 : Nat) : Int) := by
        rw [IntKind.wrap_u8]; simp
      generalize (y / 2 ^ blw false k) % 256 = v at *
      go_wp2
      have ho6 : (wr.setCell ⟨w.heap.size, k, none⟩ (.int .u8 (v : Nat))).drew.ownsRow w.heap.size 5 1 (.slice (some ⟨w.heap.size, 0, none⟩) (m * 4) (m * 4)) (m * 4) (bl (m * 4) fun o => if o < k + 1 then joF false L o else 0) := by
        rw [← HST.out]; exact (HO.out.stored k _).1
      have hb6 : Below w.heap.size w (wr.setCell ⟨w.heap.size, k, none⟩ (.int .u8 (v : Nat))).drew := (HB.out.setCell (p := ⟨w.heap.size, k, none⟩) (Nat.le_refl _) _).drew
      generalize (wr.setCell ⟨w.heap.size, k, none⟩ (.int .u8 (v : Nat))).drew = wz at *
      go_roundw
      case rel => exact ⟨k + 1, by omega, by go_num, ho6, hb6⟩
      case measure => simp [intOf]; omega
    · obtain rfl : k = m * 4 := by omega
      have hd1 : decide (((m * 4 : Nat) : Int) < ((m * 4 : Nat) : Int)) = false := by simp
      have hd2 : decide ((m : Int) * 4 < (m : Int) * 4) = false := by simp
      rw [bl_congr (G := joF false L) (fun o ho => by rw [if_pos ho]), bl_map] at ho
      have hback := conv_own ho
      have HTX : Hid (strOfNums ((List.range (m * 4)).map fun o => ((joF false L o : Nat) : Int)) = tx (m * 4) (joF false L)) := rfl
      rw [HTX.out] at hback
      clear ho
      go_wp2
      go_ret2
      exact ⟨rfl, hb⟩
end Go.Proofs.YtlnilfcjcoclhaaGreatDoor
