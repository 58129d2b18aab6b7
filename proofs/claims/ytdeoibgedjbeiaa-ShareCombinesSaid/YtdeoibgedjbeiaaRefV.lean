/- The walk of the document's Tape. -/
import Derived.Test.YtdeoibgedjbeiaaRefU
import Derived.Test.YtdeoibgedjbeiaaRefN
import Derived.Test.YtdeoibgedjbeiaaTapeF
namespace Go.Proofs.Ytdeoibgedjbeiaa
open Go.RowKit

set_option maxHeartbeats 1000000 in
set_option maxRecDepth 100000 in
theorem rctape_no {n : Nat} {A : Option Addr} (c : Nat) {l : List (Int × ByteArray)} {w : World} (s : ByteArray) (h : ShIn w w.heap.size A n l) (hn : n ≤ maxLen) (hsz : ∀ p ∈ l, p.2.size ≤ maxLen) (hk : tapeK s l = false) :
    Calls Try.prog 52 #[.string s, .slice A n c] w fun e w' => e = .returned (.tuple #[.string (tapeV s l), .int .i64 (tapeE s l)]) ∧ Below w.heap.size w w' := by
  have hz := zeroS_right (l := l)
  have hl := h.len
  have HL := KH.hid hl
  clear hl
  have HV : Hid (tapeV s l = ⟨#[]⟩) := by unfold Hid tapeV; rw [hk]; rfl
  rw [HV.out]
  have hn9 : n ≤ 9223372036854775807 := by unfold maxLen at hn; omega
  by_cases h32 : s.size = 32
  · have hse : ((s.size : Int) != 32) = false := by simp [h32]
    have HE : Hid (tapeE s l = 90) := by
      unfold Hid tapeE
      unfold tapeK at hk
      rw [decide_eq_true h32, Bool.true_and] at hk
      rw [if_pos h32, hk]; rfl
    rw [HE.out]
    cases hr : rightS l 0
    · clear hk h32 hz
      go_enter Try.func52, Try.ntmps52
      go_wp2_with fail
      refine (rRight_any _ h hn hsz).mono ?_; rintro e w1 ⟨rfl, q, rfl⟩
      rw [hr]
      go_wp2
      go_ret2
      exact ⟨rfl, below_drewN (Below.refl _ _) q⟩
    · cases hz0 : zeroS l
      · have h255 : n = 255 := by
          unfold tapeK at hk
          rw [hr, hz0] at hz
          rw [decide_eq_true h32, ← hz] at hk
          simp at hk
          rw [← hk]; exact HL.out.symm
        subst h255
        clear hk h32 hz
        go_enter Try.func52, Try.ntmps52
        go_wp2_with fail
        refine (rRight_any _ h hn hsz).mono ?_; rintro e w1 ⟨rfl, q, rfl⟩
        rw [hr]
        go_wp2_with fail
        refine (rzero_any _ (h.drewN q) hn).mono ?_; rintro e w' ⟨rfl, rfl⟩
        rw [hz0]
        go_wp2
        go_ret2
        exact ⟨rfl, below_drewN (Below.refl _ _) q⟩
      · clear hk h32 hz
        go_enter Try.func52, Try.ntmps52
        go_wp2_with fail
        refine (rRight_any _ h hn hsz).mono ?_; rintro e w1 ⟨rfl, q, rfl⟩
        rw [hr]
        go_wp2_with fail
        refine (rzero_any _ (h.drewN q) hn).mono ?_; rintro e w' ⟨rfl, rfl⟩
        rw [hz0]
        go_wp2
        go_ret2
        exact ⟨rfl, below_drewN (Below.refl _ _) q⟩
  · have hse : ((s.size : Int) != 32) = true := by simp; omega
    have HE : Hid (tapeE s l = 1) := by unfold Hid tapeE; rw [if_neg h32]
    rw [HE.out]
    clear hk h32 hz
    go_enter Try.func52, Try.ntmps52
    go_wp2
    go_ret2
    exact ⟨rfl, Below.refl _ _⟩

/-- cells of which the first are done -/
def mixF (P Q : Nat → Nat) (j i o : Nat) : Nat := if o % 32 < j ∨ (o % 32 = j ∧ o / 32 < i) then Q o else P o
theorem mixF_step (P Q : Nat → Nat) (j i N : Nat) (hj : j < 32) : (bl N (mixF P Q j i)).set (i * 32 + j) (.int .u8 (Q (i * 32 + j) : Nat)) = bl N (mixF P Q j (i + 1)) := by
  rw [bl_set]
  refine bl_congr fun o _ => ?_
  unfold mixF
  by_cases e : o = i * 32 + j
  · subst e; rw [if_pos rfl, if_pos (by right; omega)]
  · rw [if_neg e]
    by_cases h : o % 32 < j ∨ (o % 32 = j ∧ o / 32 < i)
    · rw [if_pos h, if_pos (by omega)]
    · rw [if_neg h, if_neg (by omega)]
theorem mixF_next (P Q : Nat → Nat) (j n : Nat) : bl (n * 32) (mixF P Q j n) = bl (n * 32) (mixF P Q (j + 1) 0) := by
  refine bl_congr fun o ho => ?_
  unfold mixF
  by_cases h : o % 32 < j ∨ (o % 32 = j ∧ o / 32 < n)
  · rw [if_pos h, if_pos (by omega)]
  · rw [if_neg h, if_neg (by omega)]
theorem mixF_all (P Q : Nat → Nat) (N : Nat) : bl N (mixF P Q 32 0) = bl N Q := by
  refine bl_congr fun o _ => ?_
  unfold mixF
  rw [if_pos (Or.inl (Nat.mod_lt _ (by omega)))]
theorem mixF_none (P Q : Nat → Nat) (N : Nat) : bl N P = bl N (mixF P Q 0 0) := by
  refine bl_congr fun o _ => ?_
  unfold mixF
  rw [if_neg (by omega)]
theorem mixF_at (P Q : Nat → Nat) (j i : Nat) (hj : j < 32) : mixF P Q j i (i * 32 + j) = P (i * 32 + j) := by
  unfold mixF
  rw [if_neg (by omega)]

/-- the tape after i of all -/
def tcv (la : List (Int × ByteArray)) (i o : Nat) : Nat := (KH.tc (xsN la) (ysN la (o % 32)) i).getD (o / 32 + 1) 0
theorem tcv_lt (la : List (Int × ByteArray)) (i o : Nat) : tcv la i o < 256 := (KH.Dg.tc i).getD _
theorem tcv_zero (la : List (Int × ByteArray)) (o : Nat) : tcv la 0 o = 0 := by
  unfold tcv
  show (List.replicate _ 0).getD _ 0 = 0
  rw [List.getD, List.getElem?_replicate]
  split <;> rfl
theorem tcv_step {la : List (Int × ByteArray)} {i e j : Nat} {p : Int × ByteArray} (h : la[i]? = some p) (hj : j < 32) (he : e + 1 < la.length) :
    tcv la (i + 1) (e * 32 + j) = tcv la i (e * 32 + j) ^^^ KH.mul ((KH.wc (xsN la) i la.length).getD (e + 1) 0) (sb p.2 j) := by
  unfold tcv
  rw [show (e * 32 + j) % 32 = j by omega, show (e * 32 + j) / 32 = e by omega, show KH.wc (xsN la) i la.length = KH.wc (xsN la) i (xsN la).length by rw [xsN_length]]
  have hi : i < la.length := (List.getElem?_eq_some_iff.1 h).1
  show (KH.zx _ _).getD _ 0 = _
  unfold KH.zx
  have h1 : e + 1 < (KH.tc (xsN la) (ysN la j) i).length := by rw [KH.tc_length _ _ (by rw [xsN_length]; omega), xsN_length]; exact he
  have h2 : e + 1 < (KH.wc (xsN la) i (xsN la).length).length := by rw [KH.wc_length, xsN_length, if_pos hi]; exact he
  unfold KH.sc
  rw [List.getD, List.getElem?_zipWith, List.getElem?_eq_getElem h1, List.getElem?_map, List.getElem?_eq_getElem h2, ysN_get h]
  rw [KH.getD_eq h1, KH.getD_eq h2, KH.mul_comm]
  rfl
theorem tcv_all {s : ByteArray} {l : List (Int × ByteArray)} (h : rightS l 1 = true) (o : Nat) : tcv ((0, s) :: l) (l.length + 1) o = tapF s l o := by
  obtain ⟨hd, hn⟩ := right_dg (right_one h)
  unfold tcv tapF
  have := KH.tape_doc hd hn (right_least h) (ysN_dg l (o % 32)) (by rw [ysN_length, xsN_length]) (sb_lt s (o % 32))
  rw [xsN_length] at this
  show (KH.tc (0 :: xsN l) (sb s (o % 32) :: ysN l (o % 32)) _).getD _ 0 = _
  rw [this]; simp
end Go.Proofs.Ytdeoibgedjbeiaa
