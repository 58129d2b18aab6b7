/- share.Split: the digits of a byte's polynomial. -/
import Derived.Test.YtdeoibgedjbeiaaDoorShareB
namespace Go.Proofs.YtdeoibgedjbeiaaDoor
open Go.RowKit

/-- a byte's polynomial, with m digits of the tape -/
def rowL (secret tape : ByteArray) (j m : Nat) : List Int := ((sb secret j : Nat) : Int) :: (List.range m).map fun t => ((sb tape (32 * t + j) : Nat) : Int)
theorem rowL_length (secret tape : ByteArray) (j m : Nat) : (rowL secret tape j m).length = m + 1 := by simp [rowL]
theorem rowL_step (secret tape : ByteArray) (j m : Nat) : rowL secret tape j (m + 1) = rowL secret tape j m ++ [((sb tape (32 * m + j) : Nat) : Int)] := by
  unfold rowL; rw [List.range_succ, List.map_append]; rfl
theorem rowL_all (secret tape : ByteArray) (j m : Nat) : allB (rowL secret tape j m) = true := by
  rw [allB_iff]
  intro x hx
  rcases List.mem_cons.1 hx with rfl | hx
  · have := sb_lt secret j; omega
  · obtain ⟨t, _, rfl⟩ := List.mem_map.1 hx
    have := sb_lt tape (32 * t + j); omega

set_option maxRecDepth 100000 in
theorem digits1_any (secret tape : ByteArray) (j k g4 g7 : Nat) (w : World) (hj : j < 32) (hs : secret.size = 32) (hk : 1 ≤ k) (hk2 : k ≤ 255) (ht : tape.size = 32 * (k - 1)) (c4 : w.cell? ⟨g4, 0, none⟩ = some (.string secret)) (c7 : w.cell? ⟨g7, 0, none⟩ = some (.string tape)) (l7 : g7 < w.heap.size) :
    Calls Tryd.prog 15 #[.int .i64 j, .pointer (some ⟨g4, 0, none⟩), .pointer (some ⟨g7, 0, none⟩)] w
      fun e w' => ∃ g c, e = .returned (.slice (some ⟨g, 0, none⟩) k c) ∧ w'.ownsRow w.heap.size 3 1 (.slice (some ⟨g, 0, none⟩) k c) k ((rowL secret tape j (k - 1)).map (.int .i64)) ∧ Below w.heap.size w w' := by
  obtain ⟨i0, hi, hz0, hz1, hz2⟩ := info_parts int_info
  have hjs : j < secret.size := by omega
  have hb8 : (secret[j]'hjs).toNat < 256 := by rw [sb_get secret j hjs]; exact sb_lt _ _
  have HG := KH.hid (sb_get secret j hjs)
  have hown0 : (w.alloc (.cells #[.int .i64 ((secret[j]'hjs).toNat : Nat)] 3)).ownsRow w.heap.size 3 1 (.slice (some ⟨w.heap.size, 0, none⟩) 1 1) 1 ((rowL secret tape j 0).map (.int .i64)) := by
    have := World.ownsRow_lit (base := w.heap.size) (size := 1) w #[.int .i64 ((secret[j]'hjs).toNat : Nat)] 1 (e := 3) (Nat.le_refl _) (by unfold maxLen; omega) rfl
    rw [HG.out] at this
    rw [HG.out]
    exact this
  have hb0 := (Below.refl w.heap.size w).alloc (Nat.le_refl _) (.cells #[.int .i64 ((secret[j]'hjs).toNat : Nat)] 3)
  go_enter Tryd.func15, Tryd.ntmps15
  go_wp2
  go_loopw [5, 6] (fun v i wr => ∃ m : Nat, m ≤ k - 1 ∧ i = .int .i64 (32 * (m : Int) + j) ∧ wr.ownsRow w.heap.size 3 1 v (m + 1) ((rowL secret tape j m).map (.int .i64)) ∧ Below w.heap.size w wr) (fun _ i _ => 32 * k - (intOf i).toNat)
  case atStart => exact ⟨0, Nat.zero_le _, by simp, hown0, hb0⟩
  case round =>
    obtain ⟨m, hm, rfl, hown, hb⟩ := hrel
    clear hown0 hb0
    have hsz := hb.size
    have cr7 := (hb.cell (p := ⟨g7, 0, none⟩) l7).trans c7
    by_cases hlt : m < k - 1
    · have hat : 32 * m + j < tape.size := by omega
      have HS := KH.hid (rowL_step secret tape j m)
      have hz8 : ((tape[32 * m + j]'hat).toNat) < 256 := by rw [sb_get tape _ hat]; exact sb_lt _ _
      have hT := sb_get tape _ hat
      have hy8 := sb_lt tape (32 * m + j)
      generalize sb tape (32 * m + j) = y at *
      go_wp2_with (at_builtin; refine KH.wpList_append_one rfl (.tmp 19) (.tmp 24) 42 rfl w.heap.size 3 i0 _ 8 Tryd.underlying42 hi hz0 hz1 hz2 rfl _ (m + 1) _ rfl (hown.alloc _) wr.heap.size 1 (.int .i64 y) rfl ?c1 rfl ?c3 ?c4 ?c5 ?_)
      first | (case c1 => simp) | skip
      case c3 => unfold maxLen; omega
      case c4 => omega
      case c5 => first | omega | (simp; omega)
      intro v1 w1' hown1 hb1
      have hb2 := (hb.alloc hsz (.cells #[.int .i64 y] 3)).trans hb1
      clear hown hb hT
      go_wp2
      go_roundw
      case rel => exact ⟨m + 1, by omega, by go_num, by rw [HS.out]; simpa using hown1, hb2⟩
      case measure => simp [intOf]; omega
    · obtain rfl : m = k - 1 := by omega
      have e1 : k - 1 + 1 = k := by omega
      rw [e1] at hown
      obtain ⟨g, cap, rfl, _, _⟩ := hown.form hk
      have HE := KH.hid e1
      clear e1
      go_wp2
      go_ret
      exact ⟨g, cap, rfl, hown, hb⟩

/-- what a share has at a byte -/
def shv (secret tape : ByteArray) (k i j : Nat) : Nat := KH.ev (nats (rowL secret tape j (k - 1))) (i + 1)
theorem shv_lt (secret tape : ByteArray) (k i j : Nat) : shv secret tape k i j < 256 := KH.ev_lt (dg_nats (rowL_all _ _ _ _)) _
/-- the shares of a secret -/
def splitL (secret tape : ByteArray) (n k : Nat) : List (Int × ByteArray) := (List.range n).map fun i => (((i + 1 : Nat) : Int), tx 32 (shv secret tape k i))
def splitK (secret : ByteArray) (n k : Int) (tape : ByteArray) : Bool := decide (secret.size = 32 ∧ 1 ≤ n ∧ n ≤ 255 ∧ 1 ≤ k ∧ k ≤ n ∧ (tape.size : Int) = 32 * (k - 1))
def splitV (secret : ByteArray) (n k : Int) (tape : ByteArray) : List (Int × ByteArray) := if splitK secret n k tape then splitL secret tape n.toNat k.toNat else []
def splitE (b : Bool) : Int := if b then 0 else 1
/-- what Split tells, or refuses -/
def SplitPost (w : World) (secret : ByteArray) (n k : Int) (tape : ByteArray) (e : Ending) (w' : World) : Prop :=
  ∃ A' n' c', e = .returned (.tuple #[.slice A' n' c', .int .i64 (splitE (splitK secret n k tape))]) ∧ w'.ownsRow w.heap.size 36 2 (.slice A' n' c') n' (shC (splitV secret n k tape)) ∧ Below w.heap.size w w' ∧ (splitV secret n k tape).length = n'

theorem split_no (secret : ByteArray) (n k : Int) (tape : ByteArray) (w : World) (hs : secret.size ≤ maxLen) (ht : tape.size ≤ maxLen) (hk : splitK secret n k tape = false) :
    Calls Tryd.prog 7 #[.string secret, .int .i64 n, .int .i64 k, .string tape] w (SplitPost w secret n k tape) := by
  have HP : Hid (∀ w', Below w.heap.size w w' → SplitPost w secret n k tape (.returned (.tuple #[.slice none 0 0, .int .i64 1])) w') := by
    intro w' hb
    have hv : splitV secret n k tape = [] := by unfold splitV; rw [hk]; rfl
    exact ⟨none, 0, 0, by rw [hk]; rfl, by rw [hv]; exact World.ownsRow_nil _ _ _ _, hb, by rw [hv]; rfl⟩
  have hs9 : secret.size ≤ 9223372036854775807 := by unfold maxLen at hs; exact hs
  have ht9 : tape.size ≤ 9223372036854775807 := by unfold maxLen at ht; exact ht
  unfold splitK at hk
  rw [decide_eq_false_iff_not] at hk
  have HB : Hid (Below w.heap.size w ((w.alloc (.cells #[.string secret] 9)).alloc (.cells #[.string tape] 9))) := ((Below.refl _ _).alloc (Nat.le_refl _) _).alloc (by simp) _
  by_cases c1 : secret.size = 32
  · have hsb : ((secret.size : Int) != 32) = false := by simp [c1]
    have hcs : n < 1 ∨ (1 ≤ n ∧ 255 < n) ∨ (1 ≤ n ∧ n ≤ 255 ∧ k < 1) ∨ (1 ≤ n ∧ n ≤ 255 ∧ 1 ≤ k ∧ n < k) ∨ (1 ≤ n ∧ n ≤ 255 ∧ 1 ≤ k ∧ k ≤ n ∧ (tape.size : Int) ≠ 32 * (k - 1)) := by omega
    clear hk c1
    rcases hcs with h | ⟨h1, h⟩ | ⟨h1, h2, h⟩ | ⟨h1, h2, h3, h⟩ | ⟨h1, h2, h3, h4, h⟩
    · go_enter Tryd.func7, Tryd.ntmps7
      go_wp2
      go_ret2
      exact HP.out _ HB.out
    · go_enter Tryd.func7, Tryd.ntmps7
      go_wp2
      go_ret2
      exact HP.out _ HB.out
    · go_enter Tryd.func7, Tryd.ntmps7
      go_wp2
      go_ret2
      exact HP.out _ HB.out
    · go_enter Tryd.func7, Tryd.ntmps7
      go_wp2
      go_ret2
      exact HP.out _ HB.out
    · have hne : ((tape.size : Int) != 32 * (k - 1)) = true := by simpa using h
      clear h
      go_enter Tryd.func7, Tryd.ntmps7
      go_wp2
      go_ret2
      exact HP.out _ HB.out
  · have hsb : ((secret.size : Int) != 32) = true := by simp; omega
    clear hk c1
    go_enter Tryd.func7, Tryd.ntmps7
    go_wp2
    go_ret2
    exact HP.out _ HB.out
end Go.Proofs.YtdeoibgedjbeiaaDoor
