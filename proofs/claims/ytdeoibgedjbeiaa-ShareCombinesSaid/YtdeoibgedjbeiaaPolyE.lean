/- The walks of poly.Degree, of the document's All and Places, and the document's rows of package poly. -/
import Derived.Test.YtdeoibgedjbeiaaPolyD
namespace Go.Proofs.Ytdeoibgedjbeiaa
open Go.RowKit

def dgN (l : List Int) : Nat → Int
  | 0 => -1
  | k + 1 => if l.getD k 0 ≠ 0 then (k : Int) else dgN l k
def degL (l : List Int) : Int := dgN l l.length
theorem dgN_le (l : List Int) (k : Nat) : -1 ≤ dgN l k ∧ dgN l k < k := by
  induction k with
  | zero => exact ⟨by show (-1 : Int) ≤ -1; omega, by show (-1 : Int) < ((0 : Nat) : Int); omega⟩
  | succ k ih => unfold dgN; split <;> omega

theorem degree_any {B n : Nat} {A : Option Addr} (c : Nat) {l : List Int} {w : World} (h : KH.Reads w B 1 A n (l.map (.int .i64))) (hn : n ≤ maxLen) :
    Calls Try.prog 37 #[.slice A n c] w fun e w' => e = .returned (.int .i64 (degL l)) ∧ w = w' := by
  unfold maxLen at hn
  have hl : l.length = n := by have := h.1; simpa using this
  have HL : Hid (degL l = dgN l n) := by unfold Hid degL; rw [hl]
  clear hl
  go_enter Try.func37, Try.ntmps37
  go_wp2
  go_loop [3] (fun i => ∃ z : Int, -1 ≤ z ∧ z < n ∧ i = .int .i64 z ∧ dgN l n = dgN l (z + 1).toNat) (fun i => (intOf i + 1).toNat)
  case atStart => exact ⟨(n : Int) - 1, by omega, by omega, rfl, by congr 1; omega⟩
  case round =>
    obtain ⟨z, hz0, hz1, rfl, hd⟩ := hrel
    have HD := KH.hid hd; clear hd
    by_cases h0 : 0 ≤ z
    · obtain ⟨k, rfl⟩ := Int.eq_ofNat_of_zero_le h0
      obtain ⟨ad, x, rfl, _, hx, hc⟩ := h.int (show k < n by omega)
      have HX : Hid (l.getD k 0 = x) := by unfold Hid; rw [List.getD, hx]; rfl
      clear hx
      have e1 : ((k : Int) + 1).toNat = k + 1 := by omega
      by_cases hx0 : x = 0
      · subst hx0
        have HS : Hid (dgN l n = dgN l k) := by unfold Hid; rw [HD.out, e1]; show (if l.getD k 0 ≠ 0 then _ else _) = _; rw [HX.out, if_neg (by simp)]
        clear e1
        go_wp2
        go_round
        case rel => exact ⟨(k : Int) - 1, by omega, by omega, rfl, by rw [HS.out]; first | done | (congr 1; omega)⟩
        case measure => simp [intOf]
      · have HS : Hid (dgN l n = k) := by unfold Hid; rw [HD.out, e1]; show (if l.getD k 0 ≠ 0 then _ else _) = _; rw [HX.out, if_pos hx0]
        have hne : (x != 0) = true := by simpa using hx0
        clear e1 hx0
        go_wp2
        go_ret
        exact ⟨KH.ret_int (by rw [HL.out, HS.out]), rfl⟩
    · obtain rfl : z = -1 := by omega
      have HS : Hid (dgN l n = -1) := HD.out
      go_wp2
      go_ret
      exact ⟨KH.ret_int (by rw [HL.out, HS.out]), rfl⟩

theorem rAll_any {B n : Nat} {A : Option Addr} (c : Nat) {l : List Int} {w : World} (h : KH.Reads w B 1 A n (l.map (.int .i64))) (hn : n ≤ maxLen) :
    Calls Try.prog 38 #[.slice A n c] w fun e w' => e = .returned (.bool (allB l)) ∧ w = w' := by
  unfold maxLen at hn
  have hl : l.length = n := by have := h.1; simpa using this
  have HL := KH.hid hl; clear hl
  go_enter Try.func38, Try.ntmps38
  go_wp2
  go_loop [3] (fun i => ∃ k : Nat, k ≤ n ∧ i = .int .i64 k ∧ (l.take k).all dgB = true) (fun i => n - (intOf i).toNat)
  case atStart => exact ⟨0, Nat.zero_le _, rfl, rfl⟩
  case round =>
    obtain ⟨k, hk, rfl, ht⟩ := hrel
    have HT := KH.hid ht; clear ht
    by_cases hlt : k < n
    · obtain ⟨ad, x, rfl, _, hx, hc⟩ := h.int hlt
      have HX := KH.hid hx; clear hx
      cases hd : dgB x
      · have HF : Hid (allB l = false) := by
          unfold Hid allB
          rw [List.all_eq_false]
          exact ⟨x, List.mem_of_getElem? HX.out, by rw [hd]; simp⟩
        have hx' : x < 0 ∨ 255 < x := by unfold dgB at hd; rw [decide_eq_false_iff_not] at hd; omega
        clear hd
        go_wp2_with fail
        refine (rDigit_out _ _ hx').mono ?_; rintro e w' ⟨rfl, rfl⟩
        go_wp2
        go_ret
        exact ⟨KH.ret_bool HF.out.symm, rfl⟩
      · have HS : Hid ((l.take (k + 1)).all dgB = true) := by unfold Hid; rw [take_all _ _ _ _ HX.out, HT.out, hd]; rfl
        have hx' : 0 ≤ x ∧ x ≤ 255 := by unfold dgB at hd; simpa using hd
        clear hd
        go_wp2_with fail
        refine (rDigit_in _ _ hx'.1 hx'.2).mono ?_; rintro e w' ⟨rfl, rfl⟩
        go_wp2
        go_round
        case rel => exact ⟨k + 1, by omega, by go_num, HS.out⟩
        case measure => simp [intOf]; omega
    · obtain rfl : k = n := by omega
      have HF : Hid (allB l = true) := by unfold Hid allB; have := HT.out; rw [List.take_of_length_le (by have := HL.out; omega)] at this; exact this
      go_wp2
      go_ret
      exact ⟨KH.ret_bool HF.out.symm, rfl⟩

theorem reads_lit (w : World) (xs : List Int) (t : TypeId) (g : Nat) (hg : w.heap.size = g) : KH.Reads (w.alloc (.cells (xs.map (Value.int .i64)).toArray t)) (g + 1) 1 (some ⟨g, 0, none⟩) xs.length (xs.map (.int .i64)) := by
  subst hg
  refine ⟨by simp, fun _ => ⟨_, rfl, by show w.heap.size < _; omega, fun j u hu => ?_⟩⟩
  have : (⟨w.heap.size, 0, none⟩ : Addr).add j = ⟨w.heap.size, j, none⟩ := by unfold Addr.add; split <;> simp_all
  rw [this, World.cell?_alloc_at _ _ _ _ rfl]
  simpa using hu

theorem row_e3 : evalV [5, 2, 1] 3 = 6 ∧ evalK [5, 2, 1] 3 = true := by decide +kernel
theorem row_t : throughV [1, 2, 3] [evalV [5, 2, 1] 1, evalV [5, 2, 1] 2, evalV [5, 2, 1] 3] 0 = 5 ∧ throughK [1, 2, 3] [evalV [5, 2, 1] 1, evalV [5, 2, 1] 2, evalV [5, 2, 1] 3] 0 = true := by decide +kernel
theorem row_t1 : throughV [1, 1] [1, 1] 0 = 0 ∧ throughK [1, 1] [1, 1] 0 = false := by decide +kernel
theorem row_d1 : degL [1, 0, 0] = 0 := by decide +kernel
theorem row_d2 : degL [] = -1 := by decide +kernel

/-- the row's values so far -/
def pys (k : Nat) : List Int := ([evalV [5, 2, 1] 1, evalV [5, 2, 1] 2, evalV [5, 2, 1] 3]).take k
theorem pys_step (k : Nat) (hk : k < 3) : pys (k + 1) = pys k ++ [evalV [5, 2, 1] ((k : Int) + 1)] := by
  match k, hk with
  | 0, _ => rfl
  | 1, _ => rfl
  | 2, _ => rfl

set_option maxRecDepth 100000 in
theorem polys_any (w : World) : Calls Try.prog 32 #[] w fun e w' => e = .returned (.bool true) ∧ Below w.heap.size w w' := by
  obtain ⟨i0, hi, hz0, hz1, hz2⟩ := info_parts int_info
  have n3 : 3 ≤ maxLen := by unfold maxLen; omega
  have n2 : 2 ≤ maxLen := by unfold maxLen; omega
  have hr : ∀ w : World, KH.Reads (w.alloc (.cells #[.int .i64 5, .int .i64 2, .int .i64 1] 3)) (w.alloc (.cells #[.int .i64 5, .int .i64 2, .int .i64 1] 3)).heap.size 1 (some ⟨w.heap.size, 0, none⟩) 3 (([5, 2, 1] : List Int).map (.int .i64)) := fun w => (reads_lit w [5, 2, 1] 3 _ rfl).more (by simp)
  have HR := KH.hid hr
  have HA : Hid (∀ (w : World) o, Below w.heap.size w (w.alloc o)) := fun w o => (Below.refl _ _).alloc (Nat.le_refl _) _
  clear hr
  go_enter Try.func32, Try.ntmps32
  go_wp2_with fail
  refine (eval_told _ (HR.out w) n3 3).mono ?_; rintro e w1 ⟨rfl, hb1⟩
  rw [row_e3.1, row_e3.2]
  have hB1 := (HA.out w _).trans (hb1.mono (by simp))
  clear hb1
  go_wp2
  go_loopw [3, 4] (fun v i wr => ∃ k : Nat, k ≤ 3 ∧ i = .int .i64 ((k : Int) + 1) ∧ wr.ownsRow w.heap.size 3 1 v k ((pys k).map (.int .i64)) ∧ Below w.heap.size w wr) (fun _ i _ => 4 - (intOf i).toNat)
  case atStart => exact ⟨0, by omega, rfl, World.ownsRow_nil _ _ _ _, hB1⟩
  case round =>
    obtain ⟨k, hk, rfl, hown, hb⟩ := hrel
    clear hB1
    by_cases hlt : k < 3
    · have HS := KH.hid (pys_step k hlt)
      have hsz := hb.size
      go_wp2_with fail
      refine (eval_told _ (HR.out wr) n3 _).mono ?_; rintro e w2 ⟨rfl, hb2⟩
      have hB2 := (HA.out wr _).trans (hb2.mono (by simp))
      have hown2 := KH.own_below hown hB2
      have hb3 := hb.trans (hB2.mono hsz)
      have hsz2 := hb3.size
      generalize evalV [5, 2, 1] ((k : Int) + 1) = y at *
      clear hb2 hB2 hown hb
      go_wp2_with (at_builtin; refine KH.wpList_append_one rfl (.tmp 26) (.tmp 28) 34 rfl w.heap.size 3 i0 _ 8 Try.underlying34 hi hz0 hz1 hz2 rfl _ k _ rfl (hown2.alloc _) w2.heap.size 1 (.int .i64 y) rfl ?c1 rfl ?c3 ?c4 ?c5 ?_)
      first | (case c1 => simp) | skip
      case c3 => unfold maxLen; omega
      case c4 => omega
      case c5 => first | omega | (simp; omega)
      intro v1 w3 hown3 hb4
      have hb5 := (hb3.alloc hsz2 (.cells #[.int .i64 y] 3)).trans hb4
      clear hown2 hb3 hb4
      go_wp2
      go_roundw
      case rel => exact ⟨k + 1, by omega, by go_num, by rw [HS.out]; simpa using hown3, hb5⟩
      case measure => simp [intOf]; omega
    · obtain rfl : k = 3 := by omega
      obtain ⟨A', c', rfl⟩ := KH.own_form hown
      have hry := KH.Reads.of_own hown
      have hsz := hb.size
      have hrx : KH.Reads (wr.alloc (.cells #[.int .i64 1, .int .i64 2, .int .i64 3] 3)) (wr.alloc (.cells #[.int .i64 1, .int .i64 2, .int .i64 3] 3)).heap.size 1 (some ⟨wr.heap.size, 0, none⟩) 3 (([1, 2, 3] : List Int).map (.int .i64)) := (reads_lit wr [1, 2, 3] 3 _ rfl).more (by simp)
      have hry2 := (hry.alloc (Nat.le_refl _) (.cells #[.int .i64 1, .int .i64 2, .int .i64 3] 3)).more (B' := (wr.alloc (.cells #[.int .i64 1, .int .i64 2, .int .i64 3] 3)).heap.size) (by simp)
      have hB2 := hb.trans ((HA.out wr (.cells #[.int .i64 1, .int .i64 2, .int .i64 3] 3)).mono hsz)
      clear hown hry hb
      go_wp2_with fail
      refine (through_told _ _ hrx n3 hry2 n3 0).mono ?_; rintro e w4 ⟨rfl, hb4⟩
      rw [show pys 3 = [evalV [5, 2, 1] 1, evalV [5, 2, 1] 2, evalV [5, 2, 1] 3] from rfl, row_t.1, row_t.2]
      have hB4 := hB2.trans (hb4.mono (by simp; omega))
      have hsz4 := hB4.size
      clear hB2 hb4 hrx hry2
      have hra : KH.Reads (w4.alloc (.cells #[.int .i64 1, .int .i64 1] 3)) (w4.heap.size + 1) 1 (some ⟨w4.heap.size, 0, none⟩) 2 (([1, 1] : List Int).map (.int .i64)) := reads_lit w4 [1, 1] 3 _ rfl
      have hrb : KH.Reads ((w4.alloc (.cells #[.int .i64 1, .int .i64 1] 3)).alloc (.cells #[.int .i64 1, .int .i64 1] 3)) ((w4.alloc (.cells #[.int .i64 1, .int .i64 1] 3)).alloc (.cells #[.int .i64 1, .int .i64 1] 3)).heap.size 1 (some ⟨w4.heap.size + 1, 0, none⟩) 2 (([1, 1] : List Int).map (.int .i64)) := (reads_lit (w4.alloc (.cells #[.int .i64 1, .int .i64 1] 3)) [1, 1] 3 (w4.heap.size + 1) (by simp)).more (by simp)
      have hra2 := (hra.alloc (by simp) (.cells #[.int .i64 1, .int .i64 1] 3)).more (B' := ((w4.alloc (.cells #[.int .i64 1, .int .i64 1] 3)).alloc (.cells #[.int .i64 1, .int .i64 1] 3)).heap.size) (by simp)
      have hB5 := (hB4.alloc hsz4 (.cells #[.int .i64 1, .int .i64 1] 3)).alloc (by simp; omega) (.cells #[.int .i64 1, .int .i64 1] 3)
      clear hra
      go_wp2_with fail
      refine (through_told _ _ hra2 n2 hrb n2 0).mono ?_; rintro e w6 ⟨rfl, hb6⟩
      rw [row_t1.1, row_t1.2]
      have hB6 := hB5.trans (hb6.mono (by simp; omega))
      have hsz6 := hB6.size
      clear hB5 hb6 hra2 hrb hB4
      have hrd : KH.Reads (w6.alloc (.cells #[.int .i64 1, .int .i64 0, .int .i64 0] 3)) (w6.heap.size + 1) 1 (some ⟨w6.heap.size, 0, none⟩) 3 (([1, 0, 0] : List Int).map (.int .i64)) := reads_lit w6 [1, 0, 0] 3 _ rfl
      go_wp2_with fail
      refine (degree_any _ hrd n3).mono ?_; rintro e w' ⟨rfl, rfl⟩
      rw [row_d1]
      go_wp2_with fail
      refine (degree_any (l := []) 0 (KH.Reads.none_ (B := 0)) (by unfold maxLen; omega)).mono ?_; rintro e w' ⟨rfl, rfl⟩
      rw [row_d2]
      go_wp2
      go_ret
      exact ⟨rfl, hB6.alloc hsz6 _⟩
end Go.Proofs.Ytdeoibgedjbeiaa
