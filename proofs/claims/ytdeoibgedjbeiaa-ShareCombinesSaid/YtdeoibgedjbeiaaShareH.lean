/- The document's rows of package share. -/
import Derived.Test.YtdeoibgedjbeiaaShareG
namespace Go.Proofs.Ytdeoibgedjbeiaa
open Go.RowKit

def mny (c : Nat) : ByteArray := tx 32 fun _ => c
theorem mny_size (c : Nat) : (mny c).size = 32 := tx_size _ _
theorem row_split : splitK (mny 5) 3 2 (mny 2) = true ∧ splitV (mny 5) 3 2 (mny 2) = [(1, mny 7), (2, mny 1), (3, mny 3)] := by decide +kernel
theorem row_comb : combV [(1, mny 7), (3, mny 3)] = mny 5 ∧ combE [(1, mny 7), (3, mny 3)] = 0 := by decide +kernel
theorem row_none : combV [] = ⟨#[]⟩ ∧ combE [] = 90 := by decide +kernel

theorem shin_lit (w : World) (l : List (Int × ByteArray)) (t : TypeId) (g : Nat) (hg : w.heap.size = g) : ShIn (w.alloc (.cells (shC l).toArray t)) (g + 1) (some ⟨g, 0, none⟩) l.length l := by
  subst hg
  refine ⟨shC_length l, fun _ => ⟨_, rfl, by show w.heap.size < _; omega, fun j u hu => ?_⟩⟩
  have : (⟨w.heap.size, 0, none⟩ : Addr).add j = ⟨w.heap.size, j, none⟩ := by unfold Addr.add; split <;> simp_all
  rw [this, World.cell?_alloc_at _ _ _ _ rfl]
  simpa using hu

set_option maxHeartbeats 1000000 in
set_option maxRecDepth 100000 in
theorem shares_any (w : World) : Calls Try.prog 41 #[] w fun e w' => e = .returned (.bool true) ∧ Below w.heap.size w w' := by
  have h32 : ∀ c, (mny c).size ≤ maxLen := fun c => by rw [mny_size]; unfold maxLen; omega
  have H32 := KH.hid h32
  have n3 : 3 ≤ maxLen := by unfold maxLen; omega
  have n2 : 2 ≤ maxLen := by unfold maxLen; omega
  clear h32
  go_enter Try.func41, Try.ntmps41
  go_wp2_with fail
  refine (many_any 5 32 (by omega) _).mono ?_; rintro e w1 ⟨rfl, hb1⟩
  rw [show tx 32 (fun _ => 5) = mny 5 from rfl]
  go_wp2_with fail
  refine (many_any 2 32 (by omega) _).mono ?_; rintro e w2 ⟨rfl, hb2⟩
  rw [show tx 32 (fun _ => 2) = mny 2 from rfl]
  have hB2 := hb1.trans (hb2.mono hb1.size)
  go_wp2_with fail
  refine (split_told (mny 5) 3 2 (mny 2) _ (H32.out 5) (H32.out 2)).mono ?_; rintro e w3 ⟨A3, k3, c3, rfl, ho3, hb3, hl3⟩
  rw [row_split.1]
  rw [row_split.2] at ho3 hl3
  obtain rfl : 3 = k3 := hl3
  obtain ⟨gl, cl, hv, hgl, hgl2⟩ := ho3.form (by omega)
  have hv' : A3 = some ⟨gl, 0, none⟩ := by injection hv
  subst hv'
  clear hv
  have hB3 := hB2.trans (hb3.mono hB2.size)
  have hin3 : ShIn w3 w3.heap.size (some ⟨gl, 0, none⟩) 3 [(1, mny 7), (2, mny 1), (3, mny 3)] := KH.Reads.of_own ho3
  clear hb1 hb2 hB2 hb3 hgl ho3
  go_wp2_with fail
  refine (many_any 7 32 (by omega) _).mono ?_; rintro e w4 ⟨rfl, hb4⟩
  rw [show tx 32 (fun _ => 7) = mny 7 from rfl]
  have hs4 := hb4.size
  go_wp2_with fail
  refine (many_any 1 32 (by omega) _).mono ?_; rintro e w5 ⟨rfl, hb5⟩
  rw [show tx 32 (fun _ => 1) = mny 1 from rfl]
  have hs5 := hb5.size
  go_wp2_with fail
  refine (many_any 3 32 (by omega) _).mono ?_; rintro e w6 ⟨rfl, hb6⟩
  rw [show tx 32 (fun _ => 3) = mny 3 from rfl]
  have hs6 := hb6.size
  have hin6 : ShIn w6 w3.heap.size (some ⟨gl, 0, none⟩) 3 [(1, mny 7), (2, mny 1), (3, mny 3)] := ((KH.Reads.below hin3 hb4).below (hb5.mono (by omega))).below (hb6.mono (by omega))
  have hB6 := ((hB3.trans (hb4.mono hB3.size)).trans (hb5.mono (by have := hB3.size; omega))).trans (hb6.mono (by have := hB3.size; omega))
  clear hin3 hb4 hb5 hb6 hB3
  have hin7 := KH.Reads.alloc hin6 (by omega) (.cells #[.int .i64 1, .string (mny 7), .int .i64 2, .string (mny 1), .int .i64 3, .string (mny 3)] 55)
  have hin8 : ShIn (w6.alloc (.cells #[.int .i64 1, .string (mny 7), .int .i64 2, .string (mny 1), .int .i64 3, .string (mny 3)] 55)) (w6.heap.size + 1) (some ⟨w6.heap.size, 0, none⟩) 3 [(1, mny 7), (2, mny 1), (3, mny 3)] := shin_lit w6 [(1, mny 7), (2, mny 1), (3, mny 3)] 55 _ rfl
  have hB7 := hB6.alloc hB6.size (.cells #[.int .i64 1, .string (mny 7), .int .i64 2, .string (mny 1), .int .i64 3, .string (mny 3)] 55)
  go_wp2_with fail
  refine (same_any _ _ hin7 hin8 n3 n3).mono ?_; rintro e w7 ⟨rfl, q, rfl⟩
  rw [decide_eq_true (rfl : ([(1, mny 7), (2, mny 1), (3, mny 3)] : List (Int × ByteArray)) = _)]
  have hB8 := below_drewN hB7 q
  have hin9 := KH.Reads.drewN hin7 q
  clear hin6 hin7 hin8 hB6 hB7
  generalize (w6.alloc (.cells #[.int .i64 1, .string (mny 7), .int .i64 2, .string (mny 1), .int .i64 3, .string (mny 3)] 55)).drewN q = W at *
  obtain ⟨ad, x0, b0, hA, _, hx0, c1, c2⟩ := ShIn.at_ hin9 (k := 0) (by omega)
  obtain ⟨ad', x2, b2, hA', _, hx2, c3', c4⟩ := ShIn.at_ hin9 (k := 2) (by omega)
  injection hA with hA; subst hA
  injection hA' with hA'; subst hA'
  injection hx0 with hx0; injection hx0 with e1 e2; subst e1; subst e2
  injection hx2 with hx2; injection hx2 with e1 e2; subst e1; subst e2
  go_wp2
  have e1 : W.cell? ⟨gl, 0, none⟩ = some (.int .i64 1) := by simpa [Addr.add] using c1
  have e2 : W.cell? ⟨gl, 1, none⟩ = some (.string (mny 7)) := by simpa [Addr.add] using c2
  have e3 : W.cell? ⟨gl, 4, none⟩ = some (.int .i64 3) := by simpa [Addr.add] using c3'
  have e4 : W.cell? ⟨gl, 5, none⟩ = some (.string (mny 3)) := by simpa [Addr.add] using c4
  have hgW : gl < W.heap.size := World.block_lt_of_cell? W _ e1
  have hin10 : ShIn (W.alloc (.cells #[.int .i64 1, .string (mny 7), .int .i64 3, .string (mny 3)] 55)).drew (W.alloc (.cells #[.int .i64 1, .string (mny 7), .int .i64 3, .string (mny 3)] 55)).drew.heap.size (some ⟨W.heap.size, 0, none⟩) 2 [(1, mny 7), (3, mny 3)] :=
    KH.Reads.more (KH.Reads.drew (shin_lit W [(1, mny 7), (3, mny 3)] 55 _ rfl)) (by show W.heap.size + 1 ≤ (W.alloc _).heap.size; simp)
  have HC := KH.hid (combine_told 2 hin10 n2 (by intro p hp; simp at hp; rcases hp with rfl | rfl <;> exact H32.out _))
  have H7 : Hid (∀ w7, Below (W.alloc (.cells #[.int .i64 1, .string (mny 7), .int .i64 3, .string (mny 3)] 55)).drew.heap.size (W.alloc (.cells #[.int .i64 1, .string (mny 7), .int .i64 3, .string (mny 3)] 55)).drew w7 →
      (w7.cell? ⟨gl, 0, none⟩ = some (.int .i64 1) ∧ w7.cell? ⟨gl, 1, none⟩ = some (.string (mny 7)) ∧ w7.cell? ⟨gl, 4, none⟩ = some (.int .i64 3) ∧ w7.cell? ⟨gl, 5, none⟩ = some (.string (mny 3))) ∧ Below w.heap.size w w7) := fun w7 h7 => by
    have hA : Below W.heap.size W w7 := (((Below.refl _ _).alloc (Nat.le_refl _) _).drew).trans (h7.mono (by show W.heap.size ≤ (W.alloc _).heap.size; simp))
    exact ⟨⟨(hA.cell (p := ⟨gl, 0, none⟩) hgW).trans e1, (hA.cell (p := ⟨gl, 1, none⟩) hgW).trans e2, (hA.cell (p := ⟨gl, 4, none⟩) hgW).trans e3, (hA.cell (p := ⟨gl, 5, none⟩) hgW).trans e4⟩, hB8.trans (hA.mono hB8.size)⟩
  have hnew := World.new_ne W ⟨gl, 0, none⟩ e1
  clear c1 c2 c3' c4 hin9 hin10 hB8
  rw [row_comb.1, row_comb.2] at HC
  go_region_held3 (fun w' => w'.cell? ⟨gl, 0, none⟩ = some (.int .i64 1) ∧ w'.cell? ⟨gl, 1, none⟩ = some (.string (mny 7)) ∧ w'.cell? ⟨gl, 4, none⟩ = some (.int .i64 3) ∧ w'.cell? ⟨gl, 5, none⟩ = some (.string (mny 3))) (first | exact ⟨by assumption, by assumption, by assumption, by assumption⟩ | go_keep) (first | (go_at_call 44; refine HC.out.mono ?_; rintro e w8 ⟨rfl, hb8⟩; obtain ⟨⟨k1, k2, k3, k4⟩, hB9⟩ := H7.out w8 hb8))
  have hs9 := hB9.size
  have hinN : ShIn w8 w8.heap.size none 0 [] := KH.Reads.none_
  clear k1 k2 k3 k4 e1 e2 e3 e4 hnew hgW
  go_wp2_with fail
  refine (combine_told 0 hinN (by unfold maxLen; omega) (by simp)).mono ?_; rintro e w9 ⟨rfl, hb9⟩
  rw [row_none.1, row_none.2]
  go_wp2_with fail
  refine (many_any 5 32 (by omega) _).mono ?_; rintro e w10 ⟨rfl, hb10⟩
  rw [show tx 32 (fun _ => 5) = mny 5 from rfl]
  have hz9 := hb9.size
  go_wp2
  go_ret
  exact ⟨rfl, (hB9.trans (hb9.mono hs9)).trans (hb10.mono (by omega))⟩
end Go.Proofs.Ytdeoibgedjbeiaa
