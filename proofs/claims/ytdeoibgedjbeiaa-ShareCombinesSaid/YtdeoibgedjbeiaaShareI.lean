/- The chosen shares; texts held against one another. -/
import Derived.Test.YtdeoibgedjbeiaaShareH
import Derived.Test.YtdeoibgedjbeiaaArgs
import Derived.Deep.AppendLies
import Derived.Deep.DrawnRows
namespace Go.Proofs.Ytdeoibgedjbeiaa
open Go.RowKit

/-- what is unlike in two texts -/
def xbF (s t : ByteArray) (o : Nat) : Nat := sb s o ^^^ sb t o
theorem xbF_lt (s t : ByteArray) (o : Nat) : xbF s t o < 256 := KH.xor_lt (sb_lt _ _) (sb_lt _ _)
def xbS (s t : ByteArray) : ByteArray := tx (min s.size t.size) (xbF s t)

theorem unlike_bytes (s t : ByteArray) (k : Nat) (h1 : k < s.size) (h2 : k < t.size) (w : World) :
    Calls Try.prog 76 #[.int .i64 ((s[k]'h1).toNat : Nat), .int .i64 ((t[k]'h2).toNat : Nat)] w fun e w' => e = .returned (.int .i64 (xbF s t k : Nat)) ∧ w = w' := by
  have e1 := sb_get s k h1
  have e2 := sb_get t k h2
  have l1 := sb_lt s k
  have l2 := sb_lt t k
  refine (unlike_any _ _ _ (by omega) (by omega) (by omega) (by omega)).mono fun e w' ⟨he, hw⟩ => ⟨?_, hw⟩
  rw [he, Int.toNat_natCast, Int.toNat_natCast, e1, e2]; rfl

set_option maxRecDepth 100000 in
theorem rxor_any (s t : ByteArray) (w : World) (hs : s.size ≤ 140737488351232) (ht : t.size ≤ maxLen) :
    Calls Try.prog 48 #[.string s, .string t] w fun e w' => e = .returned (.string (xbS s t)) ∧ Below w.heap.size w w' := by
  obtain ⟨i0, hi, hz0, hz1, hz2⟩ := info_parts byte_info
  have ht9 : t.size ≤ 9223372036854775807 := by unfold maxLen at ht; exact ht
  go_enter Try.func48, Try.ntmps48
  go_wp2
  go_loopw [5, 6] (fun v i wr => ∃ k : Nat, k ≤ s.size ∧ k ≤ t.size ∧ i = .int .i64 k ∧ wr.ownsRow w.heap.size 5 1 v k (bl k (xbF s t)) ∧ Below w.heap.size w wr) (fun _ i _ => s.size - (intOf i).toNat)
  case atStart => exact ⟨0, Nat.zero_le _, Nat.zero_le _, rfl, World.ownsRow_nil _ _ _ _, Below.refl _ _⟩
  case round =>
    obtain ⟨k, hk, hk2, rfl, hown, hb⟩ := hrel
    have hsz := hb.size
    by_cases h1 : k < s.size
    · by_cases h2 : k < t.size
      · have hs8 : (s[k]'h1).toNat < 256 := by rw [sb_get s k h1]; exact sb_lt _ _
        have ht8 : (t[k]'h2).toNat < 256 := by rw [sb_get t k h2]; exact sb_lt _ _
        have hx8 := xbF_lt s t k
        have HU := KH.hid (fun W => unlike_bytes s t k h1 h2 W)
        have HST := KH.hid (bl_snoc k (xbF s t))
        generalize xbF s t k = y at *
        have k0 : (0 : Int) ≤ (k : Int) := by omega
        have k1 : (k : Int) < (s.size : Int) := by omega
        have k2 : (k : Int) < (t.size : Int) := by omega
        have hw1 : IntKind.u8.wrap (y : Int) = (y : Int) := by simp [IntKind.wrap, IntKind.bits, IntKind.signed]; omega
        have hws : IntKind.i64.wrap (((s[k]'h1).toNat : Nat) : Int) = (((s[k]'h1).toNat : Nat) : Int) := IntWalk.i64_in _ (by omega)
        have hwt : IntKind.i64.wrap (((t[k]'h2).toNat : Nat) : Int) = (((t[k]'h2).toNat : Nat) : Int) := IntWalk.i64_in _ (by omega)
        go_wp2
        have hlv := fun q hq => (hown.lt q hq).1
        go_region_held3 (fun w' => True) (trivial) (first | ((refine step_append_lies _ (by rfl) (.tmp 19) (.tmp 30) 73 (by rfl) w.heap.size 5 i0 (.int .u8 0) 1 1 Try.underlying73 hi hz0 hz1 hz2 rfl (by omega) _ k _ (by rfl) (hown.alloc _) ⟨wr.heap.size, 0, none⟩ 1 1 [.int .u8 y] (by rfl) rfl (by intro j u hj; match j, hj with | 0, hj => (simp at hj; subst hj; simp [Addr.add])) (by intro u hu; simp at hu; subst hu; rfl) (by omega) (by unfold maxLen; omega) (by omega) (by simp; omega) _ rfl ?_; intro g cap w1 hown1 hgrow hat hlt)) | (go_at_call 76; refine (HU.out _).mono ?_; rintro e w5 ⟨rfl, rfl⟩))
        all_goals
          have hb2 : Below w.heap.size w w1 := ((hb.drew).alloc (by exact hsz) (.cells #[.int .u8 y] 5)).grown hgrow (by simp; omega) hlv
          go_wp2
          go_roundw
          case rel => exact ⟨k + 1, by omega, by omega, by go_num, by rw [HST.out]; exact hown1, hb2⟩
          case measure => simp [intOf]; omega
      · obtain rfl : k = t.size := by omega
        have hd2 : decide ((t.size : Int) < (t.size : Int)) = false := by simp
        have HE : Hid (strOfNums ((List.range t.size).map fun o => ((xbF s t o : Nat) : Int)) = xbS s t) := by unfold Hid xbS tx; rw [Nat.min_eq_right (by omega)]
        rw [bl_map] at hown
        have hback := conv_own hown
        rw [HE.out] at hback
        go_wp2
        go_ret
        exact ⟨rfl, hb⟩
    · obtain rfl : k = s.size := by omega
      have hd2 : decide ((s.size : Int) < (s.size : Int)) = false := by simp
      have HE : Hid (strOfNums ((List.range s.size).map fun o => ((xbF s t o : Nat) : Int)) = xbS s t) := by unfold Hid xbS tx; rw [Nat.min_eq_left (by omega)]
      rw [bl_map] at hown
      have hback := conv_own hown
      rw [HE.out] at hback
      go_wp2
      go_ret
      exact ⟨rfl, hb⟩

/-- the chosen of the first k shares -/
def chs (l : List (Int × ByteArray)) (wh : List Bool) : Nat → List (Int × ByteArray)
  | 0 => []
  | k + 1 => chs l wh k ++ if wh.getD k false then [l.getD k (0, ⟨#[]⟩)] else []
def chsL (l : List (Int × ByteArray)) (wh : List Bool) : List (Int × ByteArray) := chs l wh (min l.length wh.length)
theorem chs_le (l : List (Int × ByteArray)) (wh : List Bool) (k : Nat) : (chs l wh k).length ≤ k := by
  induction k with
  | zero => exact Nat.le_refl _
  | succ k ih => unfold chs; rw [List.length_append]; split <;> simp <;> omega
theorem shC_append (l m : List (Int × ByteArray)) : shC (l ++ m) = shC l ++ shC m := List.flatMap_append

theorem bool_at {w : World} {B n : Nat} {A : Option Addr} {l : List Bool} (h : KH.Reads w B 1 A n (l.map .bool)) {k : Nat} (hk : k < n) :
    ∃ ad x, A = some ad ∧ ad.block < B ∧ l[k]? = some x ∧ w.cell? (ad.add k) = some (.bool x) := by
  obtain ⟨ad, u, hA, hb, hx, hc⟩ := h.at_ hk
  rw [List.getElem?_map] at hx
  cases hl : l[k]? with
  | none => rw [hl] at hx; cases hx
  | some x => rw [hl] at hx; injection hx with hx; subst hx; exact ⟨ad, x, hA, hb, rfl, hc⟩

set_option maxRecDepth 100000 in
theorem chosen_any {n m : Nat} {A A' : Option Addr} (c c' : Nat) {l : List (Int × ByteArray)} {wh : List Bool} {w : World} (h : ShIn w w.heap.size A n l) (hn : n ≤ 255) (h' : KH.Reads w w.heap.size 1 A' m (wh.map .bool)) (hm : m ≤ maxLen) :
    Calls Try.prog 43 #[.slice A n c, .slice A' m c'] w fun e w' => ∃ Ar nr cr, e = .returned (.slice Ar nr cr) ∧ w'.ownsRow w.heap.size 55 2 (.slice Ar nr cr) nr (shC (chsL l wh)) ∧ Below w.heap.size w w' ∧ (chsL l wh).length = nr := by
  obtain ⟨i2, hi2, hx0, hx1, hx2⟩ := info_parts share_row
  have hl := h.len
  have hl' : wh.length = m := by have := h'.1; simpa using this
  have HL := KH.hid (And.intro hl hl')
  have hm9 : m ≤ 9223372036854775807 := by unfold maxLen at hm; exact hm
  clear hl hl'
  go_enter Try.func43, Try.ntmps43
  go_wp2
  go_loopw [5, 6] (fun v i wr => ∃ k r : Nat, k ≤ n ∧ k ≤ m ∧ i = .int .i64 k ∧ r ≤ k ∧ Hid ((chs l wh k).length = r) ∧ wr.ownsRow w.heap.size 55 2 v r (shC (chs l wh k)) ∧ Below w.heap.size w wr) (fun _ i _ => n - (intOf i).toNat)
  case atStart => exact ⟨0, 0, Nat.zero_le _, Nat.zero_le _, rfl, Nat.zero_le _, rfl, World.ownsRow_nil _ _ _ _, Below.refl _ _⟩
  case round =>
    obtain ⟨k, r, hk, hk2, rfl, hrk, HR, hown, hb⟩ := hrel
    have hsz := hb.size
    by_cases h1 : k < n
    · by_cases h2 : k < m
      · obtain ⟨ad', b', rfl, _, hb', hcb⟩ := bool_at (h'.below hb) h2
        obtain ⟨ad, x, b, rfl, hab, hx, hc1, hc2⟩ := ShIn.at_ (KH.Reads.below h hb) h1
        have HW : Hid (wh.getD k false = b') := by unfold Hid; rw [List.getD, hb']; rfl
        have HX : Hid (l.getD k (0, ⟨#[]⟩) = (x, b)) := by unfold Hid; rw [List.getD, hx]; rfl
        clear hb' hx
        cases b'
        · have HS : Hid (chs l wh (k + 1) = chs l wh k) := by
            show chs l wh k ++ (if wh.getD k false then _ else _) = _
            rw [HW.out]; simp
          go_wp2
          go_roundw
          case rel => exact ⟨k + 1, r, by omega, by omega, by go_num, by omega, by rw [HS.out]; exact HR, by rw [HS.out]; exact hown, hb⟩
          case measure => simp [intOf]; omega
        · have HS : Hid (chs l wh (k + 1) = chs l wh k ++ [(x, b)]) := by
            show chs l wh k ++ (if wh.getD k false then _ else _) = _
            rw [HW.out, HX.out]; simp
          go_wp2_with (at_builtin; refine KH.wpList_append_two rfl (.tmp 23) (.tmp 28) 43 rfl w.heap.size 55 i2 _ 24 Try.underlying43 hi2 hx0 hx1 hx2 rfl _ r _ rfl (hown.alloc _) wr.heap.size 1 (.int .i64 x) (.string b) rfl ?d1 ?d2 rfl rfl ?d3 ?d4 ?d5 ?_)
          first | (case d1 => simp) | skip
          first | (case d2 => simp) | skip
          case d3 => unfold maxLen; omega
          case d4 => omega
          case d5 => first | omega | (simp; omega)
          intro v1 w1' hown1 hb1
          have hb2 := (hb.alloc hsz (.cells #[.int .i64 x, .string b] 55)).trans hb1
          clear hown hb
          go_wp2
          go_roundw
          case rel => exact ⟨k + 1, r + 1, by omega, by omega, by go_num, by omega, by unfold Hid; rw [HS.out, List.length_append, HR.out]; rfl, by rw [HS.out, shC_append]; exact hown1, hb2⟩
          case measure => simp [intOf]; omega
      · obtain rfl : k = m := by omega
        have HC : Hid (chsL l wh = chs l wh k) := by unfold Hid chsL; rw [HL.out.1, HL.out.2, Nat.min_eq_right (by omega)]
        have hd2 : decide ((k : Int) < (k : Int)) = false := by simp
        obtain ⟨Ar, cr, rfl⟩ := KH.own_form hown
        go_wp2
        go_ret
        exact ⟨_, _, _, rfl, by rw [HC.out]; exact hown, hb, by rw [HC.out]; exact HR.out⟩
    · obtain rfl : k = n := by omega
      have HC : Hid (chsL l wh = chs l wh k) := by unfold Hid chsL; rw [HL.out.1, HL.out.2, Nat.min_eq_left (by omega)]
      have hd2 : decide ((k : Int) < (k : Int)) = false := by simp
      obtain ⟨Ar, cr, rfl⟩ := KH.own_form hown
      go_wp2
      go_ret
      exact ⟨_, _, _, rfl, by rw [HC.out]; exact hown, hb, by rw [HC.out]; exact HR.out⟩
end Go.Proofs.Ytdeoibgedjbeiaa
