/- The walks of digest.Pad, digest.Start, digest.blocks. -/
import Derived.Test.YtdeoibgedjbeiaaDoorDigD
import Derived.Test.YtdeoibgedjbeiaaDoorShareF
namespace Go.Proofs.YtdeoibgedjbeiaaDoor
open Go.RowKit

/-- how many zeros are laid behind a text of n bytes -/
def padZ (n : Nat) : Nat := (119 - n % 64) % 64
def padF (n o : Nat) : Nat := if o = 0 then 128 else if o < 1 + padZ n then 0 else (8 * n / 2 ^ (56 - 8 * (o - (1 + padZ n)))) % 256
theorem padF_lt (n o : Nat) : padF n o < 256 := by
  unfold padF; split
  · omega
  · split
    · omega
    · exact Nat.mod_lt _ (by omega)
def padV (n : Nat) : ByteArray := tx (1 + padZ n + 8) (padF n)

def lenOf : Value → Nat
  | .slice _ n _ => n
  | _ => 0
set_option maxHeartbeats 1000000 in
set_option maxRecDepth 100000 in
theorem pad_yes (n : Nat) (w : World) (hn : n ≤ 1000000) :
    Calls Tryd.prog 45 #[.int .i64 n] w fun e w' => e = .returned (.tuple #[.string (padV n), .bool true]) ∧ Below w.heap.size w w' := by
  obtain ⟨i1, hi1, hy0, hy1, hy2⟩ := info_parts byte_info
  have hz : padZ n < 64 := Nat.mod_lt _ (by omega)
  have hown0 : (w.alloc (.cells #[.int .u8 128] 5)).ownsRow w.heap.size 5 1 (.slice (some ⟨w.heap.size, 0, none⟩) 1 1) (1 + 0) (bl (1 + 0) (padF n)) :=
    World.ownsRow_lit (base := w.heap.size) (size := 1) w #[.int .u8 128] 1 (e := 5) (Nat.le_refl _) (by unfold maxLen; omega) rfl
  have hb0 := (Below.refl w.heap.size w).alloc (Nat.le_refl _) (.cells #[.int .u8 128] 5)
  go_enter Tryd.func45, Tryd.ntmps45
  go_wp2
  go_loopw [4] (fun v wr => ∃ k : Nat, k ≤ padZ n ∧ wr.ownsRow w.heap.size 5 1 v (1 + k) (bl (1 + k) (padF n)) ∧ Below w.heap.size w wr) (fun v _ => padZ n + 1 - lenOf v)
  case atStart => exact ⟨0, Nat.zero_le _, hown0, hb0⟩
  case round =>
    obtain ⟨k, hk, hown, hb⟩ := hrel
    clear hown0 hb0
    have hsz := hb.size
    obtain ⟨g, cp, rfl, hg, hg'⟩ := hown.form (by omega)
    by_cases hlt : k < padZ n
    · have hne : (((n : Int) + (1 + (k : Int)) + 8) % 64 != 0) = true := by
        have : padZ n = (119 - n % 64) % 64 := rfl
        simp; omega
      have HS : Hid (bl (1 + (k + 1)) (padF n) = bl (1 + k) (padF n) ++ [.int .u8 0]) := by
        unfold Hid
        rw [show 1 + (k + 1) = (1 + k) + 1 by omega, bl_snoc]
        have : padF n (1 + k) = 0 := by unfold padF; rw [if_neg (by omega), if_pos (by omega)]
        rw [this]; rfl
      go_wp2_with (at_builtin; refine KH.wpList_append_one rfl (.tmp 20) (.tmp 21) 62 rfl w.heap.size 5 i1 _ 1 Tryd.underlying62 hi1 hy0 hy1 hy2 rfl _ (1 + k) _ rfl (hown.alloc _) wr.heap.size 1 (.int .u8 0) rfl ?c1 rfl ?c3 ?c4 ?c5 ?_)
      first | (case c1 => simp) | skip
      case c3 => unfold maxLen; omega
      case c4 => omega
      case c5 => first | omega | (simp; omega)
      intro v1 w1' hown1 hb1
      have hb2 := (hb.alloc hsz (.cells #[.int .u8 0] 5)).trans hb1
      clear hown hb
      go_wp2
      go_roundw
      case rel => exact ⟨k + 1, by omega, by rw [HS.out]; exact hown1, hb2⟩
      case measure =>
        obtain ⟨g1, cp1, rfl, _, _⟩ := hown1.form (by omega)
        simp [lenOf]; omega
    · have hkz : k = padZ n := by omega
      have hne : (((n : Int) + (1 + (k : Int)) + 8) % 64 != 0) = false := by
        have : padZ n = (119 - n % 64) % 64 := rfl
        simp; omega
      have HKZ := KH.hid hkz
      clear hkz
      have hown5 : wr.ownsRow w.heap.size 5 1 (.slice (some ⟨g, 0, none⟩) (1 + k) cp) (1 + k + 0) (bl (1 + k + 0) (padF n)) := hown
      clear hown
      go_wp2
      go_loopw [4, 23] (fun v t wr => ∃ i : Nat, i ≤ 8 ∧ t = .int .i64 i ∧ wr.ownsRow w.heap.size 5 1 v (1 + k + i) (bl (1 + k + i) (padF n)) ∧ Below w.heap.size w wr) (fun _ t _ => 8 - (intOf t).toNat)
      case atStart => exact ⟨0, Nat.zero_le _, rfl, hown5, hb⟩
      case round =>
        obtain ⟨i, hi, rfl, hown, hb⟩ := hrel
        clear hown5
        have hsz := hb.size
        by_cases hil : i < 8
        · have hm0 : (56 : Int) - 8 * (i : Int) = ((56 - 8 * i : Nat) : Int) := by omega
          have HS : Hid (bl (1 + k + (i + 1)) (padF n) = bl (1 + k + i) (padF n) ++ [.int .u8 ((8 * n / 2 ^ (56 - 8 * i)) % 256 : Nat)]) := by
            unfold Hid
            rw [show 1 + k + (i + 1) = (1 + k + i) + 1 by omega, bl_snoc]
            have : padF n (1 + k + i) = (8 * n / 2 ^ (56 - 8 * i)) % 256 := by
              unfold padF
              rw [if_neg (by omega), if_neg (by have := HKZ.out; omega), show 1 + k + i - (1 + padZ n) = i by have := HKZ.out; omega]
            rw [this]
          generalize hm : 56 - 8 * i = m at *
          have hm56 : m ≤ 56 := by omega
          clear hm
          have hval : (8 * (n : Int) / 2 ^ m) % 256 = ((8 * n / 2 ^ m % 256 : Nat) : Int) := by simp
          generalize 8 * n / 2 ^ m % 256 = y at *
          have hk64 : k ≤ 64 := by omega
          go_wp2_with (at_builtin; refine KH.wpList_append_one rfl (.tmp 26) (.tmp 34) 62 rfl w.heap.size 5 i1 _ 1 Tryd.underlying62 hi1 hy0 hy1 hy2 rfl _ (1 + k + i) _ rfl (hown.alloc _) wr.heap.size 1 (.int .u8 y) rfl ?d1 rfl ?d3 ?d4 ?d5 ?_)
          first | (case d1 => simp) | skip
          case d3 => unfold maxLen; omega
          case d4 => omega
          case d5 => first | omega | (simp; omega)
          intro v1 w1' hown1 hb1
          have hb2 := (hb.alloc hsz (.cells #[.int .u8 y] 5)).trans hb1
          clear hown hb hval
          go_wp2
          go_roundw
          case rel => exact ⟨i + 1, by omega, by go_num, by rw [HS.out]; exact hown1, hb2⟩
          case measure => simp [intOf]; omega
        · obtain rfl : i = 8 := by omega
          have HV : Hid (padV n = tx (1 + k + 8) (padF n)) := by unfold Hid padV; rw [HKZ.out]
          rw [bl_map] at hown
          have hback := conv_own hown
          have HTX : Hid (strOfNums ((List.range (1 + k + 8)).map fun o => ((padF n o : Nat) : Int)) = padV n) := HV.out.symm
          rw [HTX.out] at hback
          obtain ⟨A', c', rfl⟩ := KH.own_form hown
          clear hown
          have d8 : decide (((8 : Nat) : Int) < 8) = false := by decide
          go_wp2
          go_ret2
          exact ⟨rfl, hb⟩

def startV : Nat → Nat
  | 0 => 0x6a09e667
  | 1 => 0xbb67ae85
  | 2 => 0x3c6ef372
  | 3 => 0xa54ff53a
  | 4 => 0x510e527f
  | 5 => 0x9b05688c
  | 6 => 0x1f83d9ab
  | 7 => 0x5be0cd19
  | _ => 0
theorem startV_arr : (#[.int .i64 1779033703, .int .i64 3144134277, .int .i64 1013904242, .int .i64 2773480762, .int .i64 1359893119, .int .i64 2600822924, .int .i64 528734635, .int .i64 1541459225] : Array Value) = (bzW 8 startV).toArray := by kernel_rfl
set_option maxRecDepth 100000 in
theorem start_yes (w : World) : Calls Tryd.prog 46 #[] w fun e w' => e = .returned (.agg (bzW 8 startV).toArray) ∧ Below w.heap.size w w' := by
  go_enter Tryd.func46, Tryd.ntmps46
  go_wp2
  exact bodyPost_ret (v := .agg #[.int .i64 1779033703, .int .i64 3144134277, .int .i64 1013904242, .int .i64 2773480762, .int .i64 1359893119, .int .i64 2600822924, .int .i64 528734635, .int .i64 1541459225]) (by simp [results, Tryd.results46, go_sem]) rfl ⟨by rw [startV_arr], (Below.refl _ _).alloc (Nat.le_refl _) _⟩

set_option maxRecDepth 100000 in
theorem blocks_yes (s t : ByteArray) (w : World) : Calls Tryd.prog 47 #[.string s, .string t] w fun e w' => e = .returned (.func (.func 53) #[] #[.pointer (some ⟨w.heap.size, 0, none⟩), .pointer (some ⟨w.heap.size + 1, 0, none⟩)]) ∧ w' = (w.alloc (.cells #[.string s] 9)).alloc (.cells #[.string t] 9) := by
  go_enter Tryd.func47, Tryd.ntmps47
  go_wp2
  go_ret
  exact ⟨rfl, rfl⟩
end Go.Proofs.YtdeoibgedjbeiaaDoor
