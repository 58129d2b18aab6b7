/- What the field's calls tell or refuse, in one contract each, of the program and of the document. -/
import Derived.Test.YtdeoibgedjbeiaaFieldD
import Derived.Test.YtdeoibgedjbeiaaRefH
namespace Go.Proofs.Ytdeoibgedjbeiaa
open Go.RowKit

def dgB (a : Int) : Bool := decide (0 ≤ a ∧ a ≤ 255)
def addK (a b : Int) : Bool := dgB a && dgB b
def addV (a b : Int) : Int := if addK a b then ((a.toNat ^^^ b.toNat : Nat) : Int) else 0
def mulV (a b : Int) : Int := if addK a b then ((KH.mul a.toNat b.toNat : Nat) : Int) else 0
def invK (a : Int) : Bool := decide (1 ≤ a ∧ a ≤ 255)
def invV (a : Int) : Int := if invK a then ((KH.inv a.toNat : Nat) : Int) else 0
def divK (a b : Int) : Bool := dgB a && invK b
def divV (a b : Int) : Int := if divK a b then ((KH.mul a.toNat (KH.inv b.toNat) : Nat) : Int) else 0
def powK (a n : Int) : Bool := dgB a && decide (0 ≤ n ∧ n ≤ 1000000)
def powV (a n : Int) : Int := if powK a n then ((KH.pow a.toNat n.toNat : Nat) : Int) else 0

theorem addK_iff {a b : Int} : addK a b = true ↔ (0 ≤ a ∧ a ≤ 255) ∧ (0 ≤ b ∧ b ≤ 255) := by unfold addK dgB; simp
theorem invK_iff {a : Int} : invK a = true ↔ 1 ≤ a ∧ a ≤ 255 := by unfold invK; simp
theorem divK_iff {a b : Int} : divK a b = true ↔ (0 ≤ a ∧ a ≤ 255) ∧ (1 ≤ b ∧ b ≤ 255) := by unfold divK dgB invK; simp
theorem powK_iff {a b : Int} : powK a b = true ↔ (0 ≤ a ∧ a ≤ 255) ∧ (0 ≤ b ∧ b ≤ 1000000) := by unfold powK dgB; simp

theorem fadd_told (x y : Int) (w : World) :
    Calls Try.prog 21 #[.int .i64 x, .int .i64 y] w fun e w' => e = .returned (.tuple #[.int .i64 (addV x y), .bool (addK x y)]) ∧ w = w' := by
  cases hk : addK x y
  · have hn : ¬ ((0 ≤ x ∧ x ≤ 255) ∧ (0 ≤ y ∧ y ≤ 255)) := fun h => by rw [addK_iff.2 h] at hk; cases hk
    refine (fadd_out _ _ _ (by omega)).mono fun e w' ⟨he, hw⟩ => ⟨?_, hw⟩
    rw [he]; unfold addV; rw [hk]; rfl
  · have hy := addK_iff.1 hk
    refine (fadd_in _ _ _ hy.1.1 hy.1.2 hy.2.1 hy.2.2).mono fun e w' ⟨he, hw⟩ => ⟨?_, hw⟩
    rw [he]; unfold addV; rw [hk]; rfl

theorem mul_told (b : Nat) (x y : Int) (w : World) (h : FieldAt b w) :
    Calls Try.prog 20 #[.pointer (some ⟨b, 0, none⟩), .int .i64 x, .int .i64 y] w fun e w' => e = .returned (.tuple #[.int .i64 (mulV x y), .bool (addK x y)]) ∧ ∃ n, w' = w.drewN n := by
  cases hk : addK x y
  · have hn : ¬ ((0 ≤ x ∧ x ≤ 255) ∧ (0 ≤ y ∧ y ≤ 255)) := fun h => by rw [addK_iff.2 h] at hk; cases hk
    refine (mul_out _ _ _ _ (by omega)).mono fun e w' ⟨he, hw⟩ => ⟨?_, 0, by subst hw; rfl⟩
    rw [he]; unfold mulV; rw [hk]; rfl
  · have hy := addK_iff.1 hk
    refine (mul_in _ _ _ _ h hy.1.1 hy.1.2 hy.2.1 hy.2.2).mono fun e w' ⟨he, hw⟩ => ⟨?_, hw⟩
    rw [he]; unfold mulV; rw [hk]; rfl

theorem inv_told (b : Nat) (x : Int) (w : World) (h : FieldAt b w) :
    Calls Try.prog 24 #[.pointer (some ⟨b, 0, none⟩), .int .i64 x] w fun e w' => e = .returned (.tuple #[.int .i64 (invV x), .bool (invK x)]) ∧ ∃ n, w' = w.drewN n := by
  cases hk : invK x
  · have hn : ¬ (1 ≤ x ∧ x ≤ 255) := fun h => by rw [invK_iff.2 h] at hk; cases hk
    refine (inv_out _ _ _ (by omega)).mono fun e w' ⟨he, hw⟩ => ⟨?_, 0, by subst hw; rfl⟩
    rw [he]; unfold invV; rw [hk]; rfl
  · have hy := invK_iff.1 hk
    refine (inv_in _ _ _ h hy.1 hy.2).mono fun e w' ⟨he, hw⟩ => ⟨?_, hw⟩
    rw [he]; unfold invV; rw [hk]; rfl

theorem div_told (b : Nat) (x y : Int) (w : World) (h : FieldAt b w) :
    Calls Try.prog 26 #[.pointer (some ⟨b, 0, none⟩), .int .i64 x, .int .i64 y] w fun e w' => e = .returned (.tuple #[.int .i64 (divV x y), .bool (divK x y)]) ∧ ∃ n, w' = w.drewN n := by
  cases hk : divK x y
  · have hn : ¬ ((0 ≤ x ∧ x ≤ 255) ∧ (1 ≤ y ∧ y ≤ 255)) := fun h => by rw [divK_iff.2 h] at hk; cases hk
    refine (div_out _ _ _ _ h (by omega)).mono fun e w' ⟨he, hw⟩ => ⟨?_, hw⟩
    rw [he]; unfold divV; rw [hk]; rfl
  · have hy := divK_iff.1 hk
    refine (div_in _ _ _ _ h hy.1.1 hy.1.2 hy.2.1 hy.2.2).mono fun e w' ⟨he, hw⟩ => ⟨?_, hw⟩
    rw [he]; unfold divV; rw [hk]; rfl

theorem pow_told (b : Nat) (x y : Int) (w : World) (h : FieldAt b w) :
    Calls Try.prog 28 #[.pointer (some ⟨b, 0, none⟩), .int .i64 x, .int .i64 y] w fun e w' => e = .returned (.tuple #[.int .i64 (powV x y), .bool (powK x y)]) ∧ ∃ n, w' = w.drewN n := by
  cases hk : powK x y
  · have hn : ¬ ((0 ≤ x ∧ x ≤ 255) ∧ (0 ≤ y ∧ y ≤ 1000000)) := fun h => by rw [powK_iff.2 h] at hk; cases hk
    refine (pow_out _ _ _ _ (by omega)).mono fun e w' ⟨he, hw⟩ => ⟨?_, 0, by subst hw; rfl⟩
    rw [he]; unfold powV; rw [hk]; rfl
  · have hy := powK_iff.1 hk
    refine (pow_in _ _ _ _ h hy.1.1 hy.1.2 hy.2.1 hy.2.2).mono fun e w' ⟨he, hw⟩ => ⟨?_, hw⟩
    rw [he]; unfold powV; rw [hk]; rfl

theorem rAdd_told (x y : Int) (w : World) :
    Calls Try.prog 22 #[.int .i64 x, .int .i64 y] w fun e w' => e = .returned (.tuple #[.int .i64 (addV x y), .bool (addK x y)]) ∧ w = w' := by
  cases hk : addK x y
  · have hn : ¬ ((0 ≤ x ∧ x ≤ 255) ∧ (0 ≤ y ∧ y ≤ 255)) := fun h => by rw [addK_iff.2 h] at hk; cases hk
    refine (rAdd_out _ _ _ (by omega)).mono fun e w' ⟨he, hw⟩ => ⟨?_, hw⟩
    rw [he]; unfold addV; rw [hk]; rfl
  · have hy := addK_iff.1 hk
    refine (rAdd_in _ _ _ hy.1.1 hy.1.2 hy.2.1 hy.2.2).mono fun e w' ⟨he, hw⟩ => ⟨?_, hw⟩
    rw [he]; unfold addV; rw [hk]; rfl

theorem rMul_told (x y : Int) (w : World) :
    Calls Try.prog 23 #[.int .i64 x, .int .i64 y] w fun e w' => e = .returned (.tuple #[.int .i64 (mulV x y), .bool (addK x y)]) ∧ w = w' := by
  cases hk : addK x y
  · have hn : ¬ ((0 ≤ x ∧ x ≤ 255) ∧ (0 ≤ y ∧ y ≤ 255)) := fun h => by rw [addK_iff.2 h] at hk; cases hk
    refine (rMul_out _ _ _ (by omega)).mono fun e w' ⟨he, hw⟩ => ⟨?_, hw⟩
    rw [he]; unfold mulV; rw [hk]; rfl
  · have hy := addK_iff.1 hk
    refine (rMul_in _ _ _ hy.1.1 hy.1.2 hy.2.1 hy.2.2).mono fun e w' ⟨he, hw⟩ => ⟨?_, hw⟩
    rw [he]; unfold mulV; rw [hk]; rfl

theorem rInv_told (x : Int) (w : World) :
    Calls Try.prog 25 #[.int .i64 x] w fun e w' => e = .returned (.tuple #[.int .i64 (invV x), .bool (invK x)]) ∧ w = w' := by
  cases hk : invK x
  · have hn : ¬ (1 ≤ x ∧ x ≤ 255) := fun h => by rw [invK_iff.2 h] at hk; cases hk
    refine (rInv_out _ _ (by omega)).mono fun e w' ⟨he, hw⟩ => ⟨?_, hw⟩
    rw [he]; unfold invV; rw [hk]; rfl
  · have hy := invK_iff.1 hk
    refine (rInv_in _ _ hy.1 hy.2).mono fun e w' ⟨he, hw⟩ => ⟨?_, hw⟩
    rw [he]; unfold invV; rw [hk]; rfl

theorem rDiv_told (x y : Int) (w : World) :
    Calls Try.prog 27 #[.int .i64 x, .int .i64 y] w fun e w' => e = .returned (.tuple #[.int .i64 (divV x y), .bool (divK x y)]) ∧ w = w' := by
  cases hk : divK x y
  · have hn : ¬ ((0 ≤ x ∧ x ≤ 255) ∧ (1 ≤ y ∧ y ≤ 255)) := fun h => by rw [divK_iff.2 h] at hk; cases hk
    refine (rDiv_out _ _ _ (by omega)).mono fun e w' ⟨he, hw⟩ => ⟨?_, hw⟩
    rw [he]; unfold divV; rw [hk]; rfl
  · have hy := divK_iff.1 hk
    refine (rDiv_in _ _ _ hy.1.1 hy.1.2 hy.2.1 hy.2.2).mono fun e w' ⟨he, hw⟩ => ⟨?_, hw⟩
    rw [he]; unfold divV; rw [hk]; rfl

theorem rPow_told (x y : Int) (w : World) :
    Calls Try.prog 29 #[.int .i64 x, .int .i64 y] w fun e w' => e = .returned (.tuple #[.int .i64 (powV x y), .bool (powK x y)]) ∧ w = w' := by
  cases hk : powK x y
  · have hn : ¬ ((0 ≤ x ∧ x ≤ 255) ∧ (0 ≤ y ∧ y ≤ 1000000)) := fun h => by rw [powK_iff.2 h] at hk; cases hk
    refine (rPow_out _ _ _ (by omega)).mono fun e w' ⟨he, hw⟩ => ⟨?_, hw⟩
    rw [he]; unfold powV; rw [hk]; rfl
  · have hy := powK_iff.1 hk
    refine (rPow_in _ _ _ hy.1.1 hy.1.2 hy.2.1 hy.2.2).mono fun e w' ⟨he, hw⟩ => ⟨?_, hw⟩
    rw [he]; unfold powV; rw [hk]; rfl

end Go.Proofs.Ytdeoibgedjbeiaa
