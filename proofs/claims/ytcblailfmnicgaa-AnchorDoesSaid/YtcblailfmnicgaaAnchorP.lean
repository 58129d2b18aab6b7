/- The walks that AnchorDoes asks besides: the document's Set, Overlap twice; one contract each. -/
import Derived.Test.YtcblailfmnicgaaAnchorG
import Derived.Test.YtcblailfmnicgaaAnchorH
import Derived.Test.YtcblailfmnicgaaAnchorN
namespace Go.Proofs.Ytcblailfmnicgaa
open Go.RowKit

theorem bool_at' {w : World} {B n : Nat} {A : Option Addr} {l : List Bool} (h : KH.Reads w B 1 A n (l.map .bool)) {k : Nat} (hk : k < n) :
    ∃ ad, A = some ad ∧ ad.block < B ∧ w.cell? (ad.add k) = some (.bool (atB l k)) := by
  obtain ⟨ad, u, hA, hb, hx, hc⟩ := h.at_ hk
  rw [List.getElem?_map] at hx
  cases hl : l[k]? with
  | none => rw [hl] at hx; cases hx
  | some x => rw [hl] at hx; injection hx with hx; subst hx; exact ⟨ad, hA, hb, by unfold atB; rw [List.getD, hl]; exact hc⟩

def ovl (x y : List Bool) : Nat → List Int
  | 0 => []
  | k + 1 => ovl x y k ++ if atB x k && atB y k then [(k : Int)] else []

/-- a new row of integers as the one result -/
def NewRow (w : World) (l : List Int) (e : Ending) (w' : World) : Prop :=
  ∃ A' m c', e = .returned (.slice A' m c') ∧ w'.ownsRow w.heap.size 3 1 (.slice A' m c') m (l.map (.int .i64)) ∧ Below w.heap.size w w'

theorem own_max {w : World} {base : Nat} {e : TypeId} {size n : Nat} {v : Value} {xs : List Value} (h : w.ownsRow base e size v n xs) : n ≤ maxLen := by
  rcases h.2 with ⟨_, h0⟩ | ⟨g, cap, cur, _, _, _, h1, h2, _⟩
  · omega
  · omega

set_option maxHeartbeats 1000000 in
theorem overlap_any {A A' : Option Addr} {n m : Nat} (c c' : Nat) {x y : List Bool} {w : World} (h : KH.Reads w w.heap.size 1 A n (x.map .bool)) (h' : KH.Reads w w.heap.size 1 A' m (y.map .bool)) (hn : n ≤ 60) (hm : m ≤ 60) :
    Calls Try.prog 19 #[.slice A n c, .slice A' m c'] w (NewRow w (ovl x y (min n m))) := by
  obtain ⟨i0, hi, hz0, hz1, hz2⟩ := info_parts int_info
  obtain ⟨p, hp⟩ : ∃ p : Nat, p = min n m := ⟨_, rfl⟩
  have hpn : p ≤ n := by omega
  have hpm : p ≤ m := by omega
  have HP := KH.hid hp
  have hcase : ((m : Int) < n ∧ p = m) ∨ (¬ (m : Int) < n ∧ p = n) := by omega
  rw [← HP.out]
  clear hp
  rcases hcase with ⟨hmn, hq⟩ | ⟨hmn, hq⟩
  all_goals
    subst hq
    go_enter Try.func19, Try.ntmps19
    go_wp2_with fail
    go_loopw [5, 12] (fun v j wr => ∃ k q : Nat, k ≤ p ∧ j = .int .i64 k ∧ q ≤ k ∧ wr.ownsRow w.heap.size 3 1 v q ((ovl x y k).map (.int .i64)) ∧ Below w.heap.size w wr) (fun _ j _ => p - (intOf j).toNat)
    case atStart => exact ⟨0, 0, Nat.zero_le _, rfl, Nat.zero_le _, World.ownsRow_nil _ _ _ _, Below.refl _ _⟩
    case round =>
      obtain ⟨k, q, hk, rfl, hqk, hown, hb⟩ := hrel
      have hsz := hb.size
      by_cases hlt : k < p
      · obtain ⟨ad, rfl, _, hc1⟩ := bool_at' (h.below hb) (k := k) (by omega)
        obtain ⟨ad', rfl, _, hc2⟩ := bool_at' (h'.below hb) (k := k) (by omega)
        have HS : Hid (ovl x y (k + 1) = ovl x y k ++ if atB x k && atB y k then [(k : Int)] else []) := rfl
        generalize ovl x y k = aa at *
        cases hx : atB x k
        · rw [hx] at hc1 HS; clear hx
          go_wp2
          go_roundw
          case rel => exact ⟨k + 1, q, by omega, by go_num, by omega, by rw [HS.out]; simpa using hown, hb⟩
          case measure => simp [intOf]; omega
        · cases hy : atB y k
          · rw [hx] at hc1 HS; rw [hy] at hc2 HS; clear hx hy
            go_wp2
            go_roundw
            case rel => exact ⟨k + 1, q, by omega, by go_num, by omega, by rw [HS.out]; simpa using hown, hb⟩
            case measure => simp [intOf]; omega
          · rw [hx] at hc1 HS; rw [hy] at hc2 HS; clear hx hy
            go_wp2_with (at_builtin; refine KH.wpList_append_one rfl (.tmp 25) (.tmp 27) 24 rfl w.heap.size 3 i0 _ 8 Try.underlying24 hi hz0 hz1 hz2 rfl _ q _ rfl (hown.alloc _) wr.heap.size 1 (.int .i64 k) rfl ?c1 rfl ?c3 ?c4 ?c5 ?_)
            case c1 => simp
            case c3 => unfold maxLen; omega
            case c4 => omega
            case c5 => simp; omega
            intro v1 w1' hown1 hb1
            have hb2 := (hb.alloc hsz (.cells #[.int .i64 k] 3)).trans hb1
            clear hown hb
            go_wp2
            go_roundw
            case rel => exact ⟨k + 1, q + 1, by omega, by go_num, by omega, by rw [HS.out]; simpa using hown1, hb2⟩
            case measure => simp [intOf]; omega
      · obtain rfl : k = p := by omega
        obtain ⟨A1, c1, rfl⟩ := KH.own_form hown
        go_wp2
        go_ret
        exact ⟨_, _, _, rfl, hown, hb⟩

set_option maxHeartbeats 1000000 in
theorem rOverlap_any {A A' : Option Addr} {n m : Nat} (c c' : Nat) {x y : List Bool} {w : World} (h : KH.Reads w w.heap.size 1 A n (x.map .bool)) (h' : KH.Reads w w.heap.size 1 A' m (y.map .bool)) (hn : n ≤ 60) :
    Calls Try.prog 20 #[.slice A n c, .slice A' m c'] w (NewRow w (ovl x y (min n m))) := by
  obtain ⟨i0, hi, hz0, hz1, hz2⟩ := info_parts int_info
  obtain ⟨p, hp⟩ : ∃ p : Nat, p = min n m := ⟨_, rfl⟩
  have hpn : p ≤ n := by omega
  have hpm : p ≤ m := by omega
  have HP := KH.hid hp; clear hp
  rw [← HP.out]
  go_enter Try.func20, Try.ntmps20
  go_wp2_with fail
  go_loopw [5, 6] (fun v j wr => ∃ k q : Nat, k ≤ p ∧ j = .int .i64 k ∧ q ≤ k ∧ wr.ownsRow w.heap.size 3 1 v q ((ovl x y k).map (.int .i64)) ∧ Below w.heap.size w wr) (fun _ j _ => p - (intOf j).toNat)
  case atStart => exact ⟨0, 0, Nat.zero_le _, rfl, Nat.zero_le _, World.ownsRow_nil _ _ _ _, Below.refl _ _⟩
  case round =>
    obtain ⟨k, q, hk, rfl, hqk, hown, hb⟩ := hrel
    have hsz := hb.size
    by_cases hlt : k < p
    · have hkn : k < n := by omega
      have hkm : k < m := by omega
      obtain ⟨ad, rfl, _, hc1⟩ := bool_at' (h.below hb) hkn
      obtain ⟨ad', rfl, _, hc2⟩ := bool_at' (h'.below hb) hkm
      have HS : Hid (ovl x y (k + 1) = ovl x y k ++ if atB x k && atB y k then [(k : Int)] else []) := rfl
      generalize ovl x y k = aa at *
      cases hx : atB x k
      · rw [hx] at hc1 HS; clear hx
        go_wp2
        go_roundw
        case rel => exact ⟨k + 1, q, by omega, by go_num, by omega, by rw [HS.out]; simpa using hown, hb⟩
        case measure => simp [intOf]; omega
      · cases hy : atB y k
        · rw [hx] at hc1 HS; rw [hy] at hc2 HS; clear hx hy
          go_wp2
          go_roundw
          case rel => exact ⟨k + 1, q, by omega, by go_num, by omega, by rw [HS.out]; simpa using hown, hb⟩
          case measure => simp [intOf]; omega
        · rw [hx] at hc1 HS; rw [hy] at hc2 HS; clear hx hy
          go_wp2_with (at_builtin; refine KH.wpList_append_one rfl (.tmp 29) (.tmp 31) 24 rfl w.heap.size 3 i0 _ 8 Try.underlying24 hi hz0 hz1 hz2 rfl _ q _ rfl (hown.alloc _) wr.heap.size 1 (.int .i64 k) rfl ?c1 rfl ?c3 ?c4 ?c5 ?_)
          case c1 => simp
          case c3 => unfold maxLen; omega
          case c4 => omega
          case c5 => simp; omega
          intro v1 w1' hown1 hb1
          have hb2 := (hb.alloc hsz (.cells #[.int .i64 k] 3)).trans hb1
          clear hown hb
          go_wp2
          go_roundw
          case rel => exact ⟨k + 1, q + 1, by omega, by go_num, by omega, by rw [HS.out]; simpa using hown1, hb2⟩
          case measure => simp [intOf]; omega
    · obtain rfl : k = p := by omega
      obtain ⟨A1, c1, rfl⟩ := KH.own_form hown
      have HE := HP.out
      by_cases hkn : k < n
      · have hkm : ¬ k < m := by omega
        have hd : decide ((k : Int) < m) = false := by simp; omega
        clear HE
        go_wp2
        go_ret
        exact ⟨_, _, _, rfl, hown, hb⟩
      · have hd : decide ((k : Int) < n) = false := by simp; omega
        clear HE
        go_wp2
        go_ret
        exact ⟨_, _, _, rfl, hown, hb⟩
end Go.Proofs.Ytcblailfmnicgaa
