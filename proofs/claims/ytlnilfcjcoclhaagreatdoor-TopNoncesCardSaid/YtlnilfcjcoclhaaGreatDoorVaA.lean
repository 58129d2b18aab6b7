import Derived.Test.YtlnilfcjcoclhaaGreatDoorVoE
import Derived.Test.YtlnilfcjcoclhaaGreatDoorTwE
import Derived.Test.YtlnilfcjcoclhaaGreatDoorWo
/- Package vault: New, Head, readHead, size, sector, rooted. -/
namespace Go.Proofs.YtlnilfcjcoclhaaGreatDoor
open Go.RowKit

/-- a head -/
def hdS (gen area : Nat) (root : ByteArray) : ByteArray := (joV true [gen] ++ ⟨#[UInt8.ofNat area]⟩) ++ root
theorem hdS_size (gen area : Nat) (root : ByteArray) (hr : root.size = 32) : (hdS gen area root).size = 37 := by
  unfold hdS; rw [ByteArray.size_append, ByteArray.size_append, joV_size, hr]; rfl
theorem one_byte (a : Nat) : strOfNums [((a : Nat) : Int)] = ⟨#[UInt8.ofNat a]⟩ := by
  simp [strOfNums]
set_option maxHeartbeats 1000000 in
set_option maxRecDepth 100000 in
theorem head_yes (gen area : Nat) (root : ByteArray) (w : World) (hg : gen ≤ 1000000000) (ha : area ≤ 1) (hr : root.size = 32) :
    Calls Tryz.prog 22 #[.int .i64 gen, .int .i64 area, .string root] w fun e w' => e = .returned (.string (hdS gen area root)) ∧ Below w.heap.size w w' := by
  have d1 : decide ((gen : Int) < 0) = false := by rw [decide_eq_false_iff_not]; omega
  have d2 : decide ((1000000000 : Int) < (gen : Int)) = false := by rw [decide_eq_false_iff_not]; omega
  have d3 : decide ((area : Int) < 0) = false := by rw [decide_eq_false_iff_not]; omega
  have d4 : decide ((1 : Int) < (area : Int)) = false := by rw [decide_eq_false_iff_not]; omega
  have d5 : ((root.size : Int) != 32) = false := by rw [hr]; rfl
  have hrd := lits_reads w [gen] 3
  have HJ := KH.hid (join_yes (w := w.alloc (.cells #[.int .i64 gen] 3)) 1 (hrd.more (by simp)) (by intro x hx; simp at hx; omega) (by simp))
  have hb1 := (Below.refl w.heap.size w).alloc (Nat.le_refl _) (.cells #[.int .i64 gen] 3)
  have hjs := joV_size true [gen]
  have hV : hdS gen area root = (joV true [gen] ++ ⟨#[UInt8.ofNat area]⟩) ++ root := rfl
  rw [← one_byte area] at hV
  have HV := KH.hid hV
  have hob : (strOfNums [((area : Nat) : Int)]).size = 1 := by rw [strOfNums_size]; rfl
  simp only [List.length_cons, List.length_nil] at hjs
  clear hrd hV
  rw [HV.out]
  generalize joV true [gen] = jo at *
  have h8 : (area : Int) % 256 = (area : Int) := by omega
  have hcv : ∀ w : World, (convert 84 9 (.slice (some ⟨w.heap.size, 0, none⟩) 1 1)).run Tryz.prog (w.alloc (.cells #[.int .u8 (area : Nat)] 5)) = .ok (.string (strOfNums [((area : Nat) : Int)])) (w.alloc (.cells #[.int .u8 (area : Nat)] 5)) := fun w =>
    conv_own (xs := [((area : Nat) : Int)]) (World.ownsRow_lit (base := w.heap.size) (size := 1) (e := 5) w #[.int .u8 (area : Nat)] 1 (Nat.le_refl _) (by unfold maxLen; omega) (by simp))
  have hc1 : jo.size + (strOfNums [((area : Nat) : Int)]).size ≤ 9223372036854775807 := by omega
  have hc2 : (jo ++ strOfNums [((area : Nat) : Int)]).size + root.size ≤ 9223372036854775807 := by rw [ByteArray.size_append]; omega
  go_enter Tryz.func22, Tryz.ntmps22
  go_wp2_with fail
  refine HJ.out.mono ?_; rintro e w2 ⟨rfl, hb2⟩
  have hB := hb1.trans (hb2.mono hb1.size)
  go_wp2_with fail
  go_ret
  exact ⟨rfl, hB.alloc hB.size _⟩
theorem cut_one (g : Nat) (hg : g < 256) (t : ByteArray) (ht : t = joV true [g]) : ctF true t 0 4 = g := by
  have hb : ∀ k, k < 4 → sb t k = if k = 3 then g else 0 := fun k hk => by
    rw [ht]
    show sb (tx 4 (joF true [g])) k = _
    rw [tx_sb (fun o _ => joF_lt true [g] o) hk]
    unfold joF blw
    match k, hk with
    | 0, _ => simp; omega
    | 1, _ => simp; omega
    | 2, _ => simp; omega
    | 3, _ => simp; omega
  simp [ctF, blw, hb]
theorem hdS_cut (gen area : Nat) (root : ByteArray) (hr : root.size = 32) : (hdS gen area root).extract 0 4 = joV true [gen] ∧ (hdS gen area root).extract 5 (hdS gen area root).size = root := by
  have h4 : (joV true [gen]).size = 4 := by rw [joV_size]; rfl
  have h5 : (joV true [gen] ++ (⟨#[UInt8.ofNat area]⟩ : ByteArray)).size = 5 := by rw [ByteArray.size_append, h4]; rfl
  constructor
  · have := cat_left (joV true [gen]) ((⟨#[UInt8.ofNat area]⟩ : ByteArray) ++ root)
    rw [h4] at this
    unfold hdS
    rw [ByteArray.append_assoc]
    exact this
  · have := cat_right (joV true [gen] ++ (⟨#[UInt8.ofNat area]⟩ : ByteArray)) root
    rw [h5, hr] at this
    rw [hdS_size gen area root hr]
    exact this
theorem hdS_area (gen area : Nat) (root : ByteArray) (ha : area < 256) : sb (hdS gen area root) 4 = area := by
  have h4 : (joV true [gen]).data.toList.length = 4 := by show (joV true [gen]).size = 4; rw [joV_size]; rfl
  unfold sb hdS
  rw [List.getD_eq_getElem?_getD]
  simp only [ByteArray.data_append, Array.toList_append, List.append_assoc]
  rw [List.getElem?_append_right (by omega), h4]
  simp
  omega
set_option maxHeartbeats 1000000 in
set_option maxRecDepth 100000 in
theorem readHead_yes (gen area : Nat) (root : ByteArray) (w : World) (hg : gen < 256) (ha : area ≤ 1) (hr : root.size = 32) :
    Calls Tryz.prog 49 #[.string (hdS gen area root)] w fun e w' => e = .returned (.tuple #[.int .i64 gen, .int .i64 area, .string root, .bool true]) ∧ Below w.heap.size w w' := by
  have hz := hdS_size gen area root hr
  obtain ⟨hc1, hc2⟩ := hdS_cut gen area root hr
  have hk4 : 4 < (hdS gen area root).size := by omega
  have ha4 : ((hdS gen area root)[4]'hk4).toNat = area := (sb_get _ 4 hk4).trans (hdS_area gen area root (by omega))
  have HC := KH.hid (cut_yes (joV true [gen]) w 1 (by rw [joV_size]; rfl) (by omega))
  have hj4 : (joV true [gen]).size = 4 := by rw [joV_size]; rfl
  have H1 : Hid (bzW 1 (fun q => ctF true (joV true [gen]) q (joV true [gen]).size) = [.int .i64 (gen : Nat)]) := by
    show [Value.int .i64 ((ctF true (joV true [gen]) 0 (joV true [gen]).size : Nat) : Int)] = _
    rw [hj4, cut_one gen hg _ rfl]
  rw [H1.out] at HC
  generalize joV true [gen] = jo at *
  generalize hdS gen area root = hd at *
  have HZ := KH.hid hz
  have i1 : (4 : Int) ≤ (hd.size : Int) := by omega
  have i2 : (5 : Int) ≤ (hd.size : Int) := by omega
  have i3 : (4 : Int) < (hd.size : Int) := by omega
  have d0 : ((hd.size : Int) != 37) = false := by rw [hz]; rfl
  have d1 : decide ((1000000000 : Int) < (gen : Int)) = false := by rw [decide_eq_false_iff_not]; omega
  have d2 : decide ((1 : Int) < (area : Int)) = false := by rw [decide_eq_false_iff_not]; omega
  go_enter Tryz.func49, Tryz.ntmps49
  go_wp2_with fail
  refine HC.out.mono ?_; rintro e w2 ⟨rfl, ho, hb2⟩
  have f0 : w2.cell? ⟨w.heap.size, 0, none⟩ = some (.int .i64 (gen : Nat)) := ho.cellAt 0 (by omega)
  clear ho hz hj4
  go_wp2_with fail
  go_quiet (fail)
  go_wp2_with fail
  exact bodyPost_ret (v := .tuple #[.int .i64 gen, .int .i64 area, .string root, .bool true]) (by simp [results, Tryz.results49, go_sem]) rfl ⟨rfl, below_drewN hb2 _⟩
set_option maxRecDepth 100000 in
theorem sector_any (n a0 area i : Nat) (w : World) (hn : n ≤ 64) (ha : area ≤ 1) (hi : i ≤ 64) :
    Calls Tryz.prog 50 #[.agg #[.int .i64 n, .int .i64 a0], .int .i64 area, .int .i64 i] w fun e w' => e = .returned (.int .i64 (3 + area * n + i : Nat)) ∧ Below w.heap.size w w' := by
  have hb1 := (Below.refl w.heap.size w).alloc (Nat.le_refl _) (.cells #[.int .i64 n, .int .i64 a0] 71)
  have k1 := KH.Blk.new w 71 #[.int .i64 n, .int .i64 a0]
  have f0 : (w.alloc (.cells #[.int .i64 n, .int .i64 a0] 71)).cell? ⟨w.heap.size, 0, none⟩ = some (.int .i64 n) := k1.cell 0
  have hm : area * n ≤ 64 := by have := Nat.mul_le_mul ha hn; omega
  have hxy : (area : Int) * (n : Int) = ((area * n : Nat) : Int) := (Int.natCast_mul _ _).symm
  have e1 : IntKind.i64.wrap ((area : Int) * (n : Int)) = ((area * n : Nat) : Int) := by rw [hxy]; exact wrap_nat _ (by omega)
  have HE : Hid (((3 + area * n + i : Nat) : Int) = 3 + (area : Int) * (n : Int) + (i : Int)) := by unfold Hid; rw [hxy]; omega
  rw [HE.out]
  have e0 : (0 : Int) ≤ (area : Int) * (n : Int) := by rw [hxy]; omega
  have e2 : (area : Int) * (n : Int) ≤ 64 := by rw [hxy]; omega
  clear hxy e1 HE
  go_enter Tryz.func50, Tryz.ntmps50
  go_wp2
  go_ret
  exact ⟨rfl, hb1⟩
set_option maxRecDepth 100000 in
theorem rooted_yes (K : Nat → Nat) {w : World} {v : Value} {Bl : List ByteArray} (hv : VlIn w v Bl (rootV K Bl)) (hn : cntB Bl.length = true) (hs : vSz Bl) (hK : RoundsAt K w) :
    Calls Tryz.prog 32 #[v] w fun e w' => e = .returned (.bool true) ∧ Below w.heap.size w w' := by
  obtain ⟨A, c, rfl, hrd⟩ := hv
  have hb1 := (Below.refl w.heap.size w).alloc (Nat.le_refl _) (.cells #[.slice A Bl.length c, .string (rootV K Bl)] 48)
  have k1 := KH.Blk.new w 48 #[.slice A Bl.length c, .string (rootV K Bl)]
  have f0 : (w.alloc (.cells #[.slice A Bl.length c, .string (rootV K Bl)] 48)).cell? ⟨w.heap.size, 0, none⟩ = some (.slice A Bl.length c) := k1.cell 0
  have HR := KH.hid (troot_any K (c := c) (hrd.below hb1) hb1.size hn hs.big (rounds_below hK hb1 hK.1))
  clear hrd hK
  go_enter Tryz.func32, Tryz.ntmps32
  go_wp2_with fail
  generalize w.alloc (.cells #[.slice A Bl.length c, .string (rootV K Bl)] 48) = W at *
  refine HR.out.mono ?_; rintro e w2 ⟨rfl, hb2⟩
  have k2 := k1.below hb2 k1.lt
  have f1 : w2.cell? ⟨w.heap.size, 1, none⟩ = some (.string (rootV K Bl)) := k2.cell 1
  have hB := hb1.trans (hb2.mono hb1.size)
  clear k1 k2 hb1 hb2 HR
  generalize rootV K Bl = rv at *
  go_wp2
  go_ret
  exact ⟨rfl, hB⟩
set_option maxRecDepth 100000 in
theorem vsize_yes (m n : Nat) (w : World) (hn : cntB n = true) (hm : m = 3 + 2 * n) :
    Calls Tryz.prog 48 #[.int .i64 m] w fun e w' => e = .returned (.tuple #[.int .i64 n, .bool true]) ∧ w = w' := by
  obtain ⟨n', hn', h⟩ := cntB_nat hn
  obtain rfl : n = n' := by omega
  subst hm
  have HN := KH.hid h
  clear hn hn' h
  go_enter Tryz.func48, Tryz.ntmps48
  go_wp2_with fail
  go_loopw [4] (fun t wr => ∃ q : Nat, t = .int .i64 q ∧ Hid ((q = 1 ∨ q = 2 ∨ q = 4 ∨ q = 8 ∨ q = 16 ∨ q = 32 ∨ q = 64) ∧ q ≤ n) ∧ wr = w) (fun t _ => 64 - (intOf t).toNat)
  case atStart => exact ⟨1, rfl, ⟨.inl rfl, by have := HN.out; omega⟩, rfl⟩
  case round =>
    obtain ⟨q, rfl, HQ, rfl⟩ := hrel
    have hq : 1 ≤ q ∧ q ≤ 64 := by have := HQ.out.1; omega
    have d1 : decide ((q : Int) ≤ 64) = true := by rw [decide_eq_true_iff]; omega
    obtain ⟨hq1, hq2⟩ := hq
    by_cases hqn : q = n
    · subst hqn
      have e1 : (((3 + 2 * q : Nat) : Int) == 3 + 2 * (q : Int)) = true := by rw [beq_iff_eq]; omega
      have e2 : ((3 : Int) + 2 * (q : Int) == 3 + 2 * (q : Int)) = true := by rw [beq_iff_eq]
      go_wp2_with fail
      go_ret2
      exact ⟨rfl, rfl⟩
    · have h2 : 2 * q ≤ n ∧ n ≤ 64 := by have h1 := HQ.out; have h2 := HN.out; omega
      have e1 : (((3 + 2 * n : Nat) : Int) == 3 + 2 * (q : Int)) = false := by rw [beq_eq_false_iff_ne]; omega
      have e2 : ((3 : Int) + 2 * (n : Int) == 3 + 2 * (q : Int)) = false := by rw [beq_eq_false_iff_ne]; omega
      have HQ2 : Hid ((2 * q = 1 ∨ 2 * q = 2 ∨ 2 * q = 4 ∨ 2 * q = 8 ∨ 2 * q = 16 ∨ 2 * q = 32 ∨ 2 * q = 64) ∧ 2 * q ≤ n) := by have h1 := HQ.out; unfold Hid; omega
      obtain ⟨h21, h22⟩ := h2
      clear HQ
      go_wp2_with fail
      exact ⟨⟨2 * q, by congr 1; omega, HQ2, by first | rfl | trivial⟩, by simp [intOf]; omega⟩
end Go.Proofs.YtlnilfcjcoclhaaGreatDoor
