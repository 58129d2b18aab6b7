import Derived.Test.YtlnilfcjcoclhaaGreatDoorStC
/- Package stream: Crypt, of a text of one block. -/
namespace Go.Proofs.YtlnilfcjcoclhaaGreatDoor
open Go.RowKit

/-- a row of bytes -/
structure ByAt (n : Nat) (H : Nat → Nat) (B : Nat) (w : World) : Prop where
  cell : ∀ j, j < n → w.cell? ⟨B, j, none⟩ = some (.int .u8 (H j : Nat))
  free : ∀ j, j < n → w.frozen? ⟨B, j, none⟩ = false
theorem ByAt.start (s : ByteArray) (w : World) (e : TypeId) : ByAt s.size (sb s) w.heap.size (Lib.bytesWorld w e s) := by
  refine ⟨fun j hj => ?_, fun j hj => ?_⟩
  · rw [Lib.bytesWorld_cell w e s j hj]; rfl
  · have hs : s.size ≤ (Lib.bytesCells w e s).size := by simp [Lib.bytesCells]
    unfold World.frozen?
    rw [Lib.bytesWorld_at_new]
    simp
    omega
theorem ByAt.set {n : Nat} {H : Nat → Nat} {B k v : Nat} {w : World} (h : ByAt n H B w) (hk : k < n) : ByAt n (fun j => if j = k then v else H j) B (w.setCell ⟨B, k, none⟩ (.int .u8 (v : Nat))) := by
  refine ⟨fun j hj => ?_, fun j hj => by rw [World.frozen?_setCell]; exact h.free j hj⟩
  by_cases e : j = k
  · subst e; rw [KH.cell_put_same (h.cell j hj), if_pos rfl]
  · rw [KH.cell_put_other (fun h => e h.symm), h.cell j hj, if_neg e]
theorem ByAt.congr {n : Nat} {H G : Nat → Nat} {B : Nat} {w : World} (h : ByAt n H B w) (e : ∀ j, j < n → H j = G j) : ByAt n G B w := ⟨fun j hj => by rw [← e j hj]; exact h.cell j hj, h.free⟩
theorem ByAt.drew {n : Nat} {H : Nat → Nat} {B : Nat} {w : World} (h : ByAt n H B w) : ByAt n H B w.drew := ⟨h.cell, h.free⟩
theorem ByAt.below {n : Nat} {H : Nat → Nat} {B C : Nat} {w w' : World} (h : ByAt n H B w) (hb : Below C w w') (hB : B < C) : ByAt n H B w' := by
  refine ⟨fun j hj => (hb.cell (p := ⟨B, j, none⟩) hB).trans (h.cell j hj), fun j hj => ?_⟩
  have := h.free j hj
  unfold World.frozen? at this ⊢
  rw [hb.block B hB]
  exact this
theorem ByAt.back {n cap : Nat} {H : Nat → Nat} {B : Nat} {w : World} (h : ByAt n H B w) : (convert 84 9 (.slice (some ⟨B, 0, none⟩) n cap)).run Tryz.prog w = .ok (.string (tx n H)) w := by
  refine run_convert_bytes_arg (P := Tryz.prog) w 84 5 Tryz.underlying84 Tryz.underlying5 B 0 n cap ((List.range n).map fun o => ((H o : Nat) : Int)) (by simp) (fun i hi => ?_) _ Tryz.underlying9
  rw [Nat.zero_add, h.cell i hi]; simp [hi]
theorem wrap_nat (k : Nat) (h : k < 4611686018427387904) : IntKind.i64.wrap (k : Int) = (k : Int) := IntWalk.i64_in _ (by omega)
/-- a text, hidden or shown -/
def crV (key nonce s : ByteArray) : ByteArray := tx s.size fun o => sb s o ^^^ sb (blkV key nonce 1) o
theorem xor_b (a b : ByteArray) (o p : Nat) : sb a o ^^^ sb b p < 256 := Nat.xor_lt_two_pow (n := 8) (sb_lt _ _) (sb_lt _ _)
theorem crV_size (key nonce s : ByteArray) : (crV key nonce s).size = s.size := tx_size _ _
theorem crV_crV (key nonce s : ByteArray) : crV key nonce (crV key nonce s) = s := by
  have h : ∀ o, o < s.size → sb (crV key nonce s) o ^^^ sb (blkV key nonce 1) o = sb s o := fun o ho => by
    unfold crV
    rw [tx_sb (fun o _ => xor_b _ _ _ _) ho, Nat.xor_assoc, Nat.xor_self, Nat.xor_zero]
  show tx (crV key nonce s).size _ = s
  rw [crV_size, tx_congr h]
  exact tx_self rfl

set_option maxHeartbeats 1000000 in
set_option maxRecDepth 100000 in
theorem crypt_any (key nonce s : ByteArray) (w : World) (hk : key.size = 32) (hn : nonce.size = 12) (hs : s.size ≤ 64) (h0 : 0 < s.size) (hT : TurnsAt w) :
    Calls Tryz.prog 79 #[.string key, .string nonce, .int .i64 1, .string s] w fun e w' => e = .returned (.tuple #[.string (crV key nonce s), .int .i64 0]) ∧ Below w.heap.size w w' := by
  have hcv : ∀ w, (convert 9 84 (.string s)).run Tryz.prog w = .ok (.slice (some ⟨w.heap.size, 0, none⟩) s.size (grownCap w s.size 0 5)) (Lib.bytesWorld w 5 s) :=
    fun w => Lib.run_convert_string_bytes w _ _ _ s Tryz.underlying9 Tryz.underlying84 Tryz.underlying5
  have d1 : decide ((4000 : Int) < (s.size : Int)) = false := by rw [decide_eq_false_iff_not]; omega
  have d2 : s.toList.isEmpty = false := str_some h0
  have d3 : Int.tdiv ((s.size : Int) + 64 - 1) 64 = 1 := by rw [Int.tdiv_eq_ediv_of_nonneg (by omega)]; omega
  have hs9 : s.size ≤ 9223372036854775807 := by omega
  have HT := KH.hid hT
  have hTg := hT.1
  clear hT
  have HI := KH.hid (And.intro (inf16' (frV key nonce 1)) (one16 (frV key nonce 1)))
  have HWa := KH.hid (fun (w : World) => there16 w (frV key nonce 1))
  go_enter Tryz.func79, Tryz.ntmps79
  go_wp2_with fail
  go_step3
  go_wp2_with fail
  refine (first_yes key nonce 1 w hk hn (by omega)).mono ?_; rintro e w1 ⟨rfl, hb1⟩
  generalize frV key nonce 1 = F at *
  rw [← S16_eq]
  have hs1 := hb1.size
  go_wp2_with (first
    | ((with_reducible show wpList _ _ _ (⟨none, Op.store _ (Operand.tmp 10) (Operand.tmp 22), _, _, _, _⟩ :: _) _ _); refine wpList_store_mid (by rfl) 153 (.tmp 10) (.tmp 22) (by rfl) w1.heap.size 0 (bzW 16 F).toArray (by rfl) (by rfl) (HWa.out w1) HI.out.1 HI.out.2 ?_; have hBA : Below w.heap.size w (World.setCells (w1.alloc (.cells #[.int .i64 0, .int .i64 0, .int .i64 0, .int .i64 0, .int .i64 0, .int .i64 0, .int .i64 0, .int .i64 0, .int .i64 0, .int .i64 0, .int .i64 0, .int .i64 0, .int .i64 0, .int .i64 0, .int .i64 0, .int .i64 0] 153)) w1.heap.size 0 (bzW 16 F)) := below_setCells hs1 _ _ _ (hb1.alloc hs1 _); obtain ⟨Wa, hWa⟩ : ∃ W, W = World.setCells (w1.alloc (.cells #[.int .i64 0, .int .i64 0, .int .i64 0, .int .i64 0, .int .i64 0, .int .i64 0, .int .i64 0, .int .i64 0, .int .i64 0, .int .i64 0, .int .i64 0, .int .i64 0, .int .i64 0, .int .i64 0, .int .i64 0, .int .i64 0] 153)) w1.heap.size 0 (bzW 16 F) := ⟨_, rfl⟩; rw [← hWa] at hBA ⊢; clear hWa)
    | (go_at_call 72; fail))
  have hzA := hBA.size
  have hr : KH.Reads (Wa.alloc (.cells #[.int .i64 1] 3)) (Wa.heap.size + 1) 1 (some ⟨Wa.heap.size, 0, none⟩) 1 ((zi [1]).map (.int .i64)) := lits_reads Wa [1] 3
  have hBb := hBA.alloc hzA (.cells #[.int .i64 1] 3)
  generalize Wa.alloc (.cells #[.int .i64 1] 3) = Wb at *
  refine (is_yes 1 hr (by intro x hx; simp at hx; omega) (by unfold maxLen; omega)).mono ?_; rintro e w2 ⟨rfl, rfl⟩
  have hTb := turns_below HT.out hBb hTg
  clear hr hBA
  go_wp2_with fail
  generalize grownCap _ _ _ _ = cap
  have hby := ByAt.start s Wb 5
  have hbw := bytesWorld_below Wb 5 s
  have hsz3 := Lib.bytesWorld_size Wb 5 s
  have hBc := hBb.trans (hbw.mono hBb.size)
  have hTc := turns_below hTb hbw (by have := hTb.1; omega)
  obtain ⟨gb, hgb⟩ : ∃ g, g = Wb.heap.size := ⟨_, rfl⟩
  have hgw : w.heap.size ≤ gb := by rw [hgb]; exact hBb.size
  rw [← hgb] at hby ⊢
  have hglt : gb < (Lib.bytesWorld Wb 5 s).heap.size := by omega
  generalize Lib.bytesWorld Wb 5 s = W at *
  obtain ⟨M, hM⟩ : ∃ M, M = blkV key nonce 1 := ⟨_, rfl⟩
  have hMs : M.size = 64 := by rw [hM]; exact blkV_size _ _ _
  have HC : Hid (crV key nonce s = tx s.size fun o => sb s o ^^^ sb M o) := by rw [hM]; exact rfl
  have HB : Hid (∀ w', TurnsAt w' → Calls Tryz.prog 94 #[.string key, .string nonce, .int .i64 1] w' fun e w'' => e = .returned (.tuple #[.string M, .int .i64 0]) ∧ Below w'.heap.size w' w'') := by
    rw [hM]; exact fun w' h => block_any key nonce 1 w' hk hn (by omega) h
  have HW := KH.hid (And.intro hBc hTc)
  clear hM hbw hsz3 hBc hTc hTb hBb hgb hcv HI HWa
  go_step3
  go_wp2_with fail
  go_loopw [13, 14, 15, 16] (fun t _ _ _ wr => (t = .int .i64 0 ∧ W = wr) ∨ (t = .int .i64 64 ∧ s.size = 64 ∧ Below gb W wr ∧ ByAt s.size (fun o => sb s o ^^^ sb M o) gb wr)) (fun t _ _ _ _ => 64 - (intOf t).toNat)
  case atStart => exact .inl ⟨rfl, rfl⟩
  case round =>
    rcases hrel with ⟨rfl, rfl⟩ | ⟨rfl, h64, hbo, hba⟩
    · have d0 : decide ((0 : Int) < (s.size : Int)) = true := by rw [decide_eq_true_iff]; omega
      go_wp2_with fail
      refine (HB.out W HW.out.2).mono ?_; rintro e w3 ⟨rfl, hb3⟩
      have hby3 := hby.below hb3 hglt
      have hb3' := hb3.mono (show gb ≤ W.heap.size by omega)
      go_wp2_with fail
      go_loopw [16, 62] (fun _ t wr => ∃ k : Nat, k ≤ s.size ∧ t = .int .i64 k ∧ Below gb W wr ∧ ByAt s.size (fun o => if o < k then sb s o ^^^ sb M o else sb s o) gb wr) (fun _ t _ => 64 - (intOf t).toNat)
      case atStart => exact ⟨0, Nat.zero_le _, rfl, hb3', hby3.congr fun j _ => by rw [if_neg (by omega)]⟩
      case round =>
        obtain ⟨k, hk, rfl, hbo, hba⟩ := hrel
        clear hby3 hb3' hby
        by_cases hlt : k < s.size
        · have hc := hba.cell k hlt
          rw [if_neg (by omega)] at hc
          have hf := hba.free k hlt
          have hkM : k < M.size := by omega
          have hmk : (M[k]'hkM).toNat = sb M k := sb_get M k hkM
          have hxor := KH.bits_xor_u8_nat (sb s k) (sb M k) (sb_lt _ _) (sb_lt _ _)
          have HST := KH.hid ((hba.set (v := sb s k ^^^ sb M k) hlt).congr (G := fun o => if o < k + 1 then sb s o ^^^ sb M o else sb s o) fun j _ => by
            by_cases e : j = k
            · subst e; rw [if_pos rfl, if_pos (by omega)]
            · rw [if_neg e]
              by_cases h : j < k
              · rw [if_pos h, if_pos (by omega)]
              · rw [if_neg h, if_neg (by omega)])
          have HBO := KH.hid hbo
          have k0 : (0 : Int) ≤ (k : Int) := by omega
          have k1 : (k : Int) < (s.size : Int) := by omega
          have k2 : (k : Int) < (M.size : Int) := by omega
          have k3 : (k : Int) < 64 := by omega
          have HMS := KH.hid hMs
          clear hMs
          have hwr : IntKind.i64.wrap (k : Int) = (k : Int) := wrap_nat k (by omega)
          have dk : decide ((k : Int) < 64) = true := by rw [decide_eq_true_iff]; omega
          have dk' : decide (k < 64) = true := by rw [decide_eq_true_iff]; omega
          have dq : ((k : Int) == (s.size : Int)) = false := by rw [beq_eq_false_iff_ne]; omega
          generalize sb s k ^^^ sb M k = z at *
          generalize sb s k = x at *
          generalize sb M k = y at *
          clear hba hbo
          go_wp2_with fail
          refine wp_region_still_tail 11 (by kernel_rfl) (by kernel_rfl) ?_
          simp only [List.take_succ_cons, List.take_zero, List.drop_succ_cons, List.drop_zero]
          repeat still_step
          refine wpStill_nil ?_
          go_wp2_with fail
          exact ⟨⟨k + 1, by omega, by go_num, (HBO.out.setCell (p := ⟨gb, k, none⟩) (Nat.le_refl _) _).drew, HST.out.drew⟩, by simp [intOf]; omega⟩
        · obtain rfl : k = s.size := by omega
          have hba' : ByAt s.size (fun o => sb s o ^^^ sb M o) gb wr := hba.congr fun j hj => by rw [if_pos hj]
          by_cases h64 : s.size = 64
          · have HR := KH.hid (And.intro h64 (And.intro hbo hba'))
            have dk : decide ((s.size : Int) < 64) = false := by rw [decide_eq_false_iff_not]; omega
            clear hba hba' hbo h64
            go_wp2_with fail
            exact ⟨.inr ⟨rfl, HR.out⟩, by simp [intOf]⟩
          · have hback := hba'.back (cap := cap)
            rw [← HC.out] at hback
            have dk : decide ((s.size : Int) < 64) = true := by rw [decide_eq_true_iff]; omega
            have hBF := HW.out.1.trans (hbo.mono hgw)
            clear hba hba' hbo
            go_wp2_with fail
            simp only [Exit.noGoto]
            go_ret2
            exact ⟨rfl, hBF⟩
    · have hba' := hba.back (cap := cap)
      rw [← HC.out] at hba'
      have HE := KH.hid hba'
      have hba2 : (convert 84 9 (.slice (some ⟨gb, 0, none⟩) 64 cap)).run Tryz.prog wr = .ok (.string (crV key nonce s)) wr := by rw [h64] at hba'; exact hba'
      have hBF := HW.out.1.trans (hbo.mono hgw)
      have dz : decide ((64 : Int) < (s.size : Int)) = false := by rw [decide_eq_false_iff_not]; omega
      clear hba hba' hbo
      go_wp2_with fail
      simp only [Exit.noGoto]
      go_ret2
      exact ⟨rfl, hBF⟩

set_option maxHeartbeats 1000000 in
set_option maxRecDepth 100000 in
theorem crypt_none (key nonce : ByteArray) (w : World) (hk : key.size = 32) (hn : nonce.size = 12) :
    Calls Tryz.prog 79 #[.string key, .string nonce, .int .i64 1, .string ⟨#[]⟩] w fun e w' => e = .returned (.tuple #[.string ⟨#[]⟩, .int .i64 0]) ∧ Below w.heap.size w w' := by
  have hcv : ∀ w, (convert 9 84 (.string ⟨#[]⟩)).run Tryz.prog w = .ok (.slice (some ⟨w.heap.size, 0, none⟩) 0 (grownCap w 0 0 5)) (Lib.bytesWorld w 5 ⟨#[]⟩) :=
    fun w => Lib.run_convert_string_bytes w _ _ _ ⟨#[]⟩ Tryz.underlying9 Tryz.underlying84 Tryz.underlying5
  have HI := KH.hid (And.intro (inf16' (frV key nonce 1)) (one16 (frV key nonce 1)))
  have HWa := KH.hid (fun (w : World) => there16 w (frV key nonce 1))
  go_enter Tryz.func79, Tryz.ntmps79
  go_wp2_with fail
  go_step3
  go_wp2_with fail
  refine (first_yes key nonce 1 w hk hn (by omega)).mono ?_; rintro e w1 ⟨rfl, hb1⟩
  generalize frV key nonce 1 = F at *
  rw [← S16_eq]
  have hs1 := hb1.size
  go_wp2_with (first
    | ((with_reducible show wpList _ _ _ (⟨none, Op.store _ (Operand.tmp 10) (Operand.tmp 22), _, _, _, _⟩ :: _) _ _); refine wpList_store_mid (by rfl) 153 (.tmp 10) (.tmp 22) (by rfl) w1.heap.size 0 (bzW 16 F).toArray (by rfl) (by rfl) (HWa.out w1) HI.out.1 HI.out.2 ?_; have hBA : Below w.heap.size w (World.setCells (w1.alloc (.cells #[.int .i64 0, .int .i64 0, .int .i64 0, .int .i64 0, .int .i64 0, .int .i64 0, .int .i64 0, .int .i64 0, .int .i64 0, .int .i64 0, .int .i64 0, .int .i64 0, .int .i64 0, .int .i64 0, .int .i64 0, .int .i64 0] 153)) w1.heap.size 0 (bzW 16 F)) := below_setCells hs1 _ _ _ (hb1.alloc hs1 _); obtain ⟨Wa, hWa⟩ : ∃ W, W = World.setCells (w1.alloc (.cells #[.int .i64 0, .int .i64 0, .int .i64 0, .int .i64 0, .int .i64 0, .int .i64 0, .int .i64 0, .int .i64 0, .int .i64 0, .int .i64 0, .int .i64 0, .int .i64 0, .int .i64 0, .int .i64 0, .int .i64 0, .int .i64 0] 153)) w1.heap.size 0 (bzW 16 F) := ⟨_, rfl⟩; rw [← hWa] at hBA ⊢; clear hWa))
  have hzA := hBA.size
  generalize grownCap _ _ _ _ = cap
  have hby := (ByAt.start ⟨#[]⟩ Wa 5).back (cap := cap)
  have hBc := hBA.trans ((bytesWorld_below Wa 5 ⟨#[]⟩).mono hzA)
  have he : tx (ByteArray.size ⟨#[]⟩) (sb ⟨#[]⟩) = ⟨#[]⟩ := rfl
  rw [he] at hby
  generalize Lib.bytesWorld Wa 5 ⟨#[]⟩ = W at *
  go_step3
  go_wp2_with fail
  go_loopw [13, 14, 15, 16] (fun t _ _ _ wr => t = .int .i64 0 ∧ W = wr) (fun _ _ _ _ _ => 0)
  case atStart => exact ⟨rfl, rfl⟩
  case round =>
    obtain ⟨rfl, rfl⟩ := hrel
    have hby' : (convert 84 9 (.slice (some ⟨Wa.heap.size, 0, none⟩) 0 cap)).run Tryz.prog W = .ok (.string ⟨#[]⟩) W := hby
    go_wp2_with fail
    simp only [Exit.noGoto]
    go_ret2
    exact ⟨rfl, hBc⟩
/-- the same, of any text that is short -/
theorem cryptE_any (key nonce s : ByteArray) (w : World) (hk : key.size = 32) (hn : nonce.size = 12) (hs : s.size ≤ 64) (hT : TurnsAt w) :
    Calls Tryz.prog 79 #[.string key, .string nonce, .int .i64 1, .string s] w fun e w' => e = .returned (.tuple #[.string (crV key nonce s), .int .i64 0]) ∧ Below w.heap.size w w' := by
  by_cases h : s.size = 0
  · obtain rfl : s = ⟨#[]⟩ := by
      rcases s with ⟨⟨l⟩⟩
      cases l with
      | nil => rfl
      | cons a l => simp [ByteArray.size] at h
    exact crypt_none key nonce w hk hn
  · exact crypt_any key nonce s w hk hn hs (by omega) hT
end Go.Proofs.YtlnilfcjcoclhaaGreatDoor
