/- What the field's calls tell or refuse, in one contract each, of the program and of the document. -/
import Derived.Test.YtdeoibgedjbeiaaDoorFieldD
import Derived.Test.YtdeoibgedjbeiaaDoorRefH
namespace Go.Proofs.YtdeoibgedjbeiaaDoor
open Go.RowKit

def dgB (a : Int) : Bool := decide (0 ≤ a ∧ a ≤ 255)
def addK (a b : Int) : Bool := dgB a && dgB b
def addV (a b : Int) : Int := if addK a b then ((a.toNat ^^^ b.toNat : Nat) : Int) else 0
def mulV (a b : Int) : Int := if addK a b then ((KH.mul a.toNat b.toNat : Nat) : Int) else 0
def invK (a : Int) : Bool := decide (1 ≤ a ∧ a ≤ 255)
def invV (a : Int) : Int := if invK a then ((KH.inv a.toNat : Nat) : Int) else 0
def divK (a b : Int) : Bool := dgB a && invK b
def divV (a b : Int) : Int := if divK a b then ((KH.mul a.toNat (KH.inv b.toNat) : Nat) : Int) else 0
def powK (a n : Int) : Bool := dgB a && decide (0 ≤ n ∧ n ≤ 1000000)
def powV (a n : Int) : Int := if powK a n then ((KH.pow a.toNat n.toNat : Nat) : Int) else 0

theorem addK_iff {a b : Int} : addK a b = true ↔ (0 ≤ a ∧ a ≤ 255) ∧ (0 ≤ b ∧ b ≤ 255) := by unfold addK dgB; simp
theorem invK_iff {a : Int} : invK a = true ↔ 1 ≤ a ∧ a ≤ 255 := by unfold invK; simp
theorem divK_iff {a b : Int} : divK a b = true ↔ (0 ≤ a ∧ a ≤ 255) ∧ (1 ≤ b ∧ b ≤ 255) := by unfold divK dgB invK; simp
theorem powK_iff {a b : Int} : powK a b = true ↔ (0 ≤ a ∧ a ≤ 255) ∧ (0 ≤ b ∧ b ≤ 1000000) := by unfold powK dgB; simp

theorem fadd_told (x y : Int) (w : World) :
    Calls Tryd.prog 39 #[.int .i64 x, .int .i64 y] w fun e w' => e = .returned (.tuple #[.int .i64 (addV x y), .bool (addK x y)]) ∧ w = w' := by
  cases hk : addK x y
  · have hn : ¬ ((0 ≤ x ∧ x ≤ 255) ∧ (0 ≤ y ∧ y ≤ 255)) := fun h => by rw [addK_iff.2 h] at hk; cases hk
    refine (fadd_out _ _ _ (by omega)).mono fun e w' ⟨he, hw⟩ => ⟨?_, hw⟩
    rw [he]; unfold addV; rw [hk]; rfl
  · have hy := addK_iff.1 hk
    refine (fadd_in _ _ _ hy.1.1 hy.1.2 hy.2.1 hy.2.2).mono fun e w' ⟨he, hw⟩ => ⟨?_, hw⟩
    rw [he]; unfold addV; rw [hk]; rfl

theorem mul_told (b : Nat) (x y : Int) (w : World) (h : FieldAt b w) :
    Calls Tryd.prog 27 #[.pointer (some ⟨b, 0, none⟩), .int .i64 x, .int .i64 y] w fun e w' => e = .returned (.tuple #[.int .i64 (mulV x y), .bool (addK x y)]) ∧ ∃ n, w' = w.drewN n := by
  cases hk : addK x y
  · have hn : ¬ ((0 ≤ x ∧ x ≤ 255) ∧ (0 ≤ y ∧ y ≤ 255)) := fun h => by rw [addK_iff.2 h] at hk; cases hk
    refine (mul_out _ _ _ _ (by omega)).mono fun e w' ⟨he, hw⟩ => ⟨?_, 0, by subst hw; rfl⟩
    rw [he]; unfold mulV; rw [hk]; rfl
  · have hy := addK_iff.1 hk
    refine (mul_in _ _ _ _ h hy.1.1 hy.1.2 hy.2.1 hy.2.2).mono fun e w' ⟨he, hw⟩ => ⟨?_, hw⟩
    rw [he]; unfold mulV; rw [hk]; rfl

theorem inv_told (b : Nat) (x : Int) (w : World) (h : FieldAt b w) :
    Calls Tryd.prog 28 #[.pointer (some ⟨b, 0, none⟩), .int .i64 x] w fun e w' => e = .returned (.tuple #[.int .i64 (invV x), .bool (invK x)]) ∧ ∃ n, w' = w.drewN n := by
  cases hk : invK x
  · have hn : ¬ (1 ≤ x ∧ x ≤ 255) := fun h => by rw [invK_iff.2 h] at hk; cases hk
    refine (inv_out _ _ _ (by omega)).mono fun e w' ⟨he, hw⟩ => ⟨?_, 0, by subst hw; rfl⟩
    rw [he]; unfold invV; rw [hk]; rfl
  · have hy := invK_iff.1 hk
    refine (inv_in _ _ _ h hy.1 hy.2).mono fun e w' ⟨he, hw⟩ => ⟨?_, hw⟩
    rw [he]; unfold invV; rw [hk]; rfl

theorem div_told (b : Nat) (x y : Int) (w : World) (h : FieldAt b w) :
    Calls Tryd.prog 52 #[.pointer (some ⟨b, 0, none⟩), .int .i64 x, .int .i64 y] w fun e w' => e = .returned (.tuple #[.int .i64 (divV x y), .bool (divK x y)]) ∧ ∃ n, w' = w.drewN n := by
  cases hk : divK x y
  · have hn : ¬ ((0 ≤ x ∧ x ≤ 255) ∧ (1 ≤ y ∧ y ≤ 255)) := fun h => by rw [divK_iff.2 h] at hk; cases hk
    refine (div_out _ _ _ _ h (by omega)).mono fun e w' ⟨he, hw⟩ => ⟨?_, hw⟩
    rw [he]; unfold divV; rw [hk]; rfl
  · have hy := divK_iff.1 hk
    refine (div_in _ _ _ _ h hy.1.1 hy.1.2 hy.2.1 hy.2.2).mono fun e w' ⟨he, hw⟩ => ⟨?_, hw⟩
    rw [he]; unfold divV; rw [hk]; rfl

end Go.Proofs.YtdeoibgedjbeiaaDoor
