/- The walk of TopSecret. -/
import Derived.Test.YtdeoibgedjbeiaaDoorTopC
namespace Go.Proofs.YtdeoibgedjbeiaaDoor
open Go.RowKit

theorem strs_lit (w : World) (a b : ByteArray) (t : TypeId) (g : Nat) (hg : w.heap.size = g) : KH.Reads (w.alloc (.cells #[.string a, .string b] t)) (g + 1) 1 (some ⟨g, 0, none⟩) 2 ([a, b].map .string) := by
  subst hg
  refine ⟨rfl, fun _ => ⟨_, rfl, by show w.heap.size < _; omega, fun j u hu => ?_⟩⟩
  have : (⟨w.heap.size, 0, none⟩ : Addr).add j = ⟨w.heap.size, j, none⟩ := by unfold Addr.add; split <;> simp_all
  rw [this, World.cell?_alloc_at _ _ _ _ rfl]
  simpa using hu
/-- a pledge is a function of what it binds -/
theorem make_any (K : Nat → Nat) (salt : ByteArray) (x : Nat) (b : ByteArray) (h1 : 1 ≤ x) (hx : x ≤ 255) (hb : b.size = 32) :
    ∃ p h, ∀ w, RoundsAt K w → Calls Tryd.prog 10 #[.string salt, .agg #[.int .i64 x, .string b]] w fun e w' => e = .returned (.tuple #[.string p, .int .i64 h]) ∧ Below w.heap.size w w' := by
  by_cases hs : salt.size = 16
  · exact ⟨_, _, fun w hK => make_yes K salt x b w hK hs h1 hx hb⟩
  · exact ⟨_, _, fun w _ => make_no salt x b w hs⟩
/-- where Remap refuses -/
def remapNo (s o t : ByteArray) (n k : Int) (wh : List Bool) : Prop :=
  o.size ≠ 32 ∨ splitK s n k t = false ∨ k.toNat ≤ (chs (splitL s t n.toNat k.toNat) wh n.toNat).length ∨ k = 1
theorem remap_fail {A : Option Addr} {m : Nat} {wh : List Bool} (s o : ByteArray) (n k : Int) (t : ByteArray) (hs : s.size ≤ maxLen) (ho : o.size ≤ maxLen) (ht : t.size ≤ maxLen) (hm : m ≤ maxLen) (h : remapNo s o t n k wh) :
    ∃ e : Int, e ≠ 0 ∧ ∀ (c' : Nat) (w : World), KH.Reads w w.heap.size 1 A m (wh.map .bool) → Calls Tryd.prog 5 #[.string s, .string o, .int .i64 n, .int .i64 k, .string t, .slice A m c'] w fun e' w' => e' = .returned (.tuple #[.string ⟨#[]⟩, .int .i64 e]) ∧ Below w.heap.size w w' := by
  by_cases h1 : o.size = 32
  · cases hK : splitK s n k t
    · exact ⟨1, by decide, fun _ w _ => remap_no2 s o n k t w h1 hs ht hK⟩
    · obtain ⟨q1, q2, q3, q4, q5, q6⟩ := splitK_iff.1 hK
      obtain ⟨n', rfl⟩ := Int.eq_ofNat_of_zero_le (show 0 ≤ n by omega)
      obtain ⟨k', rfl⟩ := Int.eq_ofNat_of_zero_le (show 0 ≤ k by omega)
      rcases h with h | h | h
      · exact absurd h1 h
      · rw [hK] at h; cases h
      · refine ⟨90, by decide, fun _ w hw => remap_no3 s o n' k' t w h1 hs ht hm hw hK (by omega) (by omega) (by omega) ?_⟩
        rcases h with h | h
        · left; exact h
        · right; omega
  · exact ⟨1, by decide, fun _ w _ => remap_no1 s o n k t w h1 ho⟩
/-- where Remap tells a tape -/
theorem remap_else {s o t : ByteArray} {n k : Int} {wh : List Bool} (h : ¬ remapNo s o t n k wh) :
    ∃ n' k' f : Nat, n = n' ∧ k = k' ∧ o.size = 32 ∧ s.size = 32 ∧ splitK s n' k' t = true ∧ n' ≤ 255 ∧ k' ≤ n' ∧ 2 ≤ k' ∧ f + 1 + (chs (splitL s t n' k') wh n').length = k' := by
  unfold remapNo at h
  rw [not_or, not_or, not_or, Decidable.not_not] at h
  obtain ⟨h1, h2, h3, h4⟩ := h
  have hK : splitK s n k t = true := by cases hq : splitK s n k t <;> simp_all
  obtain ⟨q1, q2, q3, q4, q5, q6⟩ := splitK_iff.1 hK
  obtain ⟨n', rfl⟩ := Int.eq_ofNat_of_zero_le (show 0 ≤ n by omega)
  obtain ⟨k', rfl⟩ := Int.eq_ofNat_of_zero_le (show 0 ≤ k by omega)
  have h5 : (chs (splitL s t n' k') wh n').length < k' := by
    have := h3; simp only [Int.toNat_natCast] at this; omega
  exact ⟨n', k', k' - 1 - (chs (splitL s t n' k') wh n').length, rfl, rfl, h1, q1, hK, by omega, by omega, by omega, by omega⟩

set_option maxHeartbeats 1000000 in
set_option maxRecDepth 100000 in
theorem top_no {A5 A6 : Option Addr} {m5 m6 c5 c6 : Nat} {l5 : List ByteArray} {wh : List Bool} (s o : ByteArray) (n k : Int) (t : ByteArray) {w : World} (hs : s.size ≤ 200) (ho : o.size ≤ 200) (ht : t.size ≤ 400) (hn : n ≤ 10 ∨ (10 < n ∧ 255 < n)) (hm5 : m5 ≤ 20) (hm6 : m6 ≤ 30) (hl5 : ∀ x ∈ l5, x.size ≤ maxLen) (hz5 : shrt l5 = true)
    (h5 : KH.Reads w w.heap.size 1 A5 m5 (l5.map .string)) (h6 : KH.Reads w w.heap.size 1 A6 m6 (wh.map .bool)) (hR : remapNo s o t n k wh) :
    Calls Tryd.prog 3 #[.string s, .string o, .int .i64 n, .int .i64 k, .string t, .slice A5 m5 c5, .slice A6 m6 c6] w fun e w' => e = .returned (.bool true) ∧ Below w.heap.size w w' := by
  obtain ⟨e, he, hC⟩ := remap_fail s o n k t (A := A6) (m := m6) (by unfold maxLen; omega) (by unfold maxLen; omega) (by unfold maxLen; omega) (by unfold maxLen; omega) hR
  have HC := KH.hid hC
  have he2 : (e != 0) = true := by simpa using he
  have hb1 := (Below.refl w.heap.size w).alloc (Nat.le_refl _) (.cells #[.string s, .string o] 9)
  have hlit := strs_lit w s o 9 _ rfl
  have h51 := h5.alloc (Nat.le_refl _) (.cells #[.string s, .string o] 9)
  have h61 := (h6.alloc (Nat.le_refl _) (.cells #[.string s, .string o] 9)).more (B' := (w.alloc (.cells #[.string s, .string o] 9)).heap.size) (by simp)
  have hz0 : shrt [s, o] = true := by unfold shrt; simp; omega
  have hl0 : ∀ x ∈ [s, o], x.size ≤ maxLen := by intro x hx; simp at hx; unfold maxLen; rcases hx with rfl | rfl <;> omega
  have HZ := KH.hid (And.intro (And.intro hz0 hl0) (And.intro hz5 hl5))
  clear hC he hz0 hl0 hz5 hl5 h5 h6 hR
  rcases hn with h4 | ⟨h4, h7⟩
  all_goals
    go_enter Tryd.func3, Tryd.ntmps3
    go_wp2_with fail
    refine (tshort_any _ hlit (by unfold maxLen; omega) HZ.out.1.2).mono ?_; rintro e w1 ⟨rfl, rfl⟩
    rw [HZ.out.1.1]
    generalize w.alloc (.cells #[.string s, .string o] 9) = w1 at *
    go_wp2_with fail
    refine (tshort_any _ h51 (by unfold maxLen; omega) HZ.out.2.2).mono ?_; rintro e w2 ⟨rfl, rfl⟩
    rw [HZ.out.2.1]
    go_wp2_with fail
    refine (HC.out _ _ h61).mono ?_; rintro e w3 ⟨rfl, hb3⟩
    have hB3 := hb1.trans (hb3.mono hb1.size)
    clear hb1 hb3 h51 h61 hlit
    go_wp2_with fail
    refine (seen_any _).mono ?_; rintro e w4 ⟨rfl, hb4⟩
    go_wp2
    go_ret
    exact ⟨rfl, hB3.trans (hb4.mono hB3.size)⟩
end Go.Proofs.YtdeoibgedjbeiaaDoor
