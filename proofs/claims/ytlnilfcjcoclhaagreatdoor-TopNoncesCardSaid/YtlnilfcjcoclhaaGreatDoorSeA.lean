import Derived.Test.YtlnilfcjcoclhaaGreatDoorTgJ
import Derived.Test.YtlnilfcjcoclhaaGreatDoorBuB
/- Package seal: Once, Seal, fits, Open. -/
namespace Go.Proofs.YtlnilfcjcoclhaaGreatDoor
open Go.RowKit

/-- the key of one Tag -/
def onK (key nonce : ByteArray) : ByteArray := (blkV key nonce 0).extract 0 32
theorem onK_size (key nonce : ByteArray) : (onK key nonce).size = 32 := by unfold onK; rw [ByteArray.size_extract, blkV_size]; rfl
/-- what is sealed -/
def endV (key nonce b h : ByteArray) : ByteArray := tagV (onK key nonce) (pdV [b, h])
def slV (key nonce b s : ByteArray) : ByteArray := crV key nonce s ++ endV key nonce b (crV key nonce s)
theorem endV_size (key nonce b h : ByteArray) : (endV key nonce b h).size = 16 := tagV_size _ _
theorem slV_size (key nonce b s : ByteArray) : (slV key nonce b s).size = s.size + 16 := by unfold slV; rw [ByteArray.size_append, crV_size, endV_size]
theorem pd2_size {a b : ByteArray} (ha : a.size ≤ 1000) (hb : b.size ≤ 1000) : (pdV [a, b]).size ≤ 2046 := pdV_size (fun i => by
  match i with
  | 0 => exact ha
  | 1 => exact hb
  | i + 2 => exact Nat.zero_le _) (by simp)
set_option maxRecDepth 100000 in
theorem once_any (key nonce : ByteArray) (w : World) (hk : key.size = 32) (hn : nonce.size = 12) (hT : TurnsAt w) :
    Calls Tryz.prog 78 #[.string key, .string nonce] w fun e w' => e = .returned (.tuple #[.string (onK key nonce), .int .i64 0]) ∧ Below w.heap.size w w' := by
  have HB := KH.hid (block_any key nonce 0 w hk hn (by omega) hT)
  have hs := blkV_size key nonce 0
  have HV : Hid (onK key nonce = (blkV key nonce 0).extract 0 32) := rfl
  go_enter Tryz.func78, Tryz.ntmps78
  go_wp2_with fail
  refine HB.out.mono ?_; rintro e w1 ⟨rfl, hb⟩
  have h32 : (32 : Int) ≤ ((blkV key nonce 0).size : Int) := by omega
  generalize blkV key nonce 0 = B at *
  go_wp2
  go_ret2
  rw [HV.out]
  exact ⟨rfl, hb⟩
set_option maxRecDepth 100000 in
theorem seal_any (key nonce b s : ByteArray) (w : World) (hk : key.size = 32) (hn : nonce.size = 12) (hb : b.size ≤ 100) (hs : s.size ≤ 64) (hT : TurnsAt w) :
    Calls Tryz.prog 53 #[.string key, .string nonce, .string b, .string s] w fun e w' => e = .returned (.tuple #[.string (slV key nonce b s), .int .i64 0]) ∧ Below w.heap.size w w' := by
  have HO := KH.hid (once_any key nonce w hk hn hT)
  have HC := KH.hid fun w hT => cryptE_any key nonce s w hk hn hs hT
  have HTD := KH.hid fun w => told_any b (crV key nonce s) w (by omega) (by rw [crV_size]; omega)
  have HTG := KH.hid fun w => tag_any (onK key nonce) (pdV [b, crV key nonce s]) w (onK_size _ _) (by have := pd2_size (a := b) (b := crV key nonce s) (by omega) (by rw [crV_size]; omega); omega)
  have HV : Hid (slV key nonce b s = crV key nonce s ++ tagV (onK key nonce) (pdV [b, crV key nonce s])) := rfl
  have hcat : (crV key nonce s).size + (tagV (onK key nonce) (pdV [b, crV key nonce s])).size ≤ 9223372036854775807 := by rw [crV_size, tagV_size]; omega
  have hg := hT.1
  have HTT := KH.hid hT
  have d1 : decide ((4000 : Int) < (b.size : Int)) = false := by rw [decide_eq_false_iff_not]; omega
  have d2 : decide ((4000 : Int) < (s.size : Int)) = false := by rw [decide_eq_false_iff_not]; omega
  clear hT
  generalize pdV [b, crV key nonce s] = pd at *
  generalize crV key nonce s = h at *
  generalize onK key nonce = ok at *
  generalize tagV ok pd = en at *
  go_enter Tryz.func53, Tryz.ntmps53
  go_wp2_with fail
  refine HO.out.mono ?_; rintro e w1 ⟨rfl, hb1⟩
  have hT1 := turns_below HTT.out hb1 hg
  go_wp2_with fail
  refine (HC.out w1 hT1).mono ?_; rintro e w2 ⟨rfl, hb2⟩
  go_wp2_with fail
  refine (HTD.out w2).mono ?_; rintro e w3 ⟨rfl, hb3⟩
  go_wp2_with fail
  refine (HTG.out w3).mono ?_; rintro e w4 ⟨rfl, hb4⟩
  have z1 := hb1.size
  have z2 := hb2.size
  have z3 := hb3.size
  have hB := ((hb1.trans (hb2.mono z1)).trans (hb3.mono (by omega))).trans (hb4.mono (by omega))
  clear hb1 hb2 hb3 hb4
  go_wp2
  go_ret2
  rw [HV.out]
  exact ⟨rfl, hB⟩
theorem cat_left (a b : ByteArray) : (a ++ b).extract 0 a.size = a := by
  simp [ByteArray.extract_append]
theorem cat_right (a b : ByteArray) : (a ++ b).extract a.size (a.size + b.size) = b := by
  have h := ByteArray.extract_append_eq_right (a := a) (b := b) (i := a.size) (j := a.size + b.size) rfl rfl
  exact h
set_option maxRecDepth 100000 in
theorem same_yes (s : ByteArray) (w : World) : Calls Tryz.prog 102 #[.string s, .string s] w fun e w' => e = .returned (.bool true) ∧ w = w' := by
  go_enter Tryz.func102, Tryz.ntmps102
  go_wp2
  go_ret
  exact ⟨rfl, rfl⟩
set_option maxRecDepth 100000 in
theorem fits_yes (ok b h : ByteArray) (w : World) (hk : ok.size = 32) (hb : b.size ≤ 100) (hh : h.size ≤ 64) :
    Calls Tryz.prog 83 #[.string ok, .string b, .string (h ++ tagV ok (pdV [b, h]))] w fun e w' => e = .returned (.bool true) ∧ Below w.heap.size w w' := by
  have HTD := KH.hid fun w => told_any b h w (by omega) (by omega)
  have HTG := KH.hid fun w => tag_any ok (pdV [b, h]) w hk (by have := pd2_size (a := b) (b := h) (by omega) (by omega); omega)
  have hz : (h ++ tagV ok (pdV [b, h])).size = h.size + 16 := by rw [ByteArray.size_append, tagV_size]
  have hl : (h ++ tagV ok (pdV [b, h])).extract 0 h.size = h := cat_left _ _
  have hr : (h ++ tagV ok (pdV [b, h])).extract h.size (h.size + 16) = tagV ok (pdV [b, h]) := by have := cat_right h (tagV ok (pdV [b, h])); rwa [tagV_size] at this
  generalize pdV [b, h] = pd at *
  generalize tagV ok pd = en at *
  generalize h ++ en = se at *
  have e16 : (se.size : Int) - 16 = (h.size : Int) := by omega
  have HSZ := KH.hid hz
  have i1 : (0 : Int) ≤ (h.size : Int) := by omega
  have i2 : (h.size : Int) ≤ (se.size : Int) := by omega
  go_enter Tryz.func83, Tryz.ntmps83
  go_wp2_with fail
  refine (HTD.out w).mono ?_; rintro e w3 ⟨rfl, hb3⟩
  go_wp2_with fail
  refine (HTG.out w3).mono ?_; rintro e w4 ⟨rfl, hb4⟩
  have hB := hb3.trans (hb4.mono hb3.size)
  clear hb3 hb4
  go_wp2_with fail
  refine (same_yes en _).mono ?_; rintro e w5 ⟨rfl, rfl⟩
  go_wp2
  go_ret
  exact ⟨rfl, hB⟩
set_option maxRecDepth 100000 in
theorem open_yes (key nonce b s : ByteArray) (w : World) (hk : key.size = 32) (hn : nonce.size = 12) (hb : b.size ≤ 100) (hs : s.size ≤ 64) (hT : TurnsAt w) :
    Calls Tryz.prog 57 #[.string key, .string nonce, .string b, .string (slV key nonce b s)] w fun e w' => e = .returned (.tuple #[.string s, .int .i64 0]) ∧ Below w.heap.size w w' := by
  have HO := KH.hid (once_any key nonce w hk hn hT)
  have hz := slV_size key nonce b s
  have hl : (slV key nonce b s).extract 0 s.size = crV key nonce s := by have := cat_left (crV key nonce s) (endV key nonce b (crV key nonce s)); rwa [crV_size] at this
  have HF := KH.hid fun w => fits_yes (onK key nonce) b (crV key nonce s) w (onK_size _ _) hb (by rw [crV_size]; omega)
  have HV : Hid (slV key nonce b s = crV key nonce s ++ tagV (onK key nonce) (pdV [b, crV key nonce s])) := rfl
  rw [← HV.out] at HF
  have HC := KH.hid fun w hT => cryptE_any key nonce (crV key nonce s) w hk hn (by rw [crV_size]; omega) hT
  rw [crV_crV] at HC
  have hg := hT.1
  have HTT := KH.hid hT
  clear hT HV
  generalize crV key nonce s = h at *
  generalize slV key nonce b s = se at *
  generalize onK key nonce = ok at *
  have d1 : decide ((4000 : Int) < (b.size : Int)) = false := by rw [decide_eq_false_iff_not]; omega
  have d2 : decide ((4016 : Int) < (se.size : Int)) = false := by rw [decide_eq_false_iff_not]; omega
  have d3 : decide ((se.size : Int) < 16) = false := by rw [decide_eq_false_iff_not]; omega
  have e16 : (se.size : Int) - 16 = (s.size : Int) := by omega
  have i1 : (0 : Int) ≤ (s.size : Int) := by omega
  have i2 : (s.size : Int) ≤ (se.size : Int) := by omega
  have HSZ := KH.hid hz
  clear hz
  go_enter Tryz.func57, Tryz.ntmps57
  go_wp2_with fail
  refine HO.out.mono ?_; rintro e w1 ⟨rfl, hb1⟩
  have hT1 := turns_below HTT.out hb1 hg
  go_wp2_with fail
  refine (HF.out w1).mono ?_; rintro e w2 ⟨rfl, hb2⟩
  have z1 := hb1.size
  have hT2 := turns_below hT1 hb2 (by omega)
  have hB2 := hb1.trans (hb2.mono z1)
  clear hb1 hb2 hT1
  go_wp2_with fail
  refine (HC.out w2 hT2).mono ?_; rintro e w3 ⟨rfl, hb3⟩
  have hB := hB2.trans (hb3.mono hB2.size)
  clear hb3 hB2
  go_wp2
  go_ret2
  exact ⟨rfl, hB⟩
end Go.Proofs.YtlnilfcjcoclhaaGreatDoor
