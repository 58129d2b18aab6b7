/- The walks of poly.Through and poly.Degree. -/
import Derived.Test.YtdeoibgedjbeiaaDoorPolyC
namespace Go.Proofs.YtdeoibgedjbeiaaDoor
open Go.RowKit

theorem weights_told {n : Nat} {A : Option Addr} (c : Nat) {l : List Int} {w : World} (h : KH.Reads w w.heap.size 1 A n (l.map (.int .i64))) (hn : n ≤ maxLen) (x : Int) :
    Calls Tryd.prog 37 #[.slice A n c, .int .i64 x] w (WeightsPost w l x) := by
  cases hk : weightsK l x
  · exact weights_no c h hn x hk
  · exact weights_yes c h hn x hk

/-- what holds of Through's fold before its step k -/
structure ThroughTo (xs ys : List Nat) (x gi : Nat) (W : World) (k : Nat) (s : Int) (w : World) : Prop where
  below : Below gi W w
  val : s = ((KH.th xs ys x k : Nat) : Int)
  ctr : w.cell? ⟨gi, 0, none⟩ = some (.int .i64 ((k : Int) - 1))
  free : w.frozen? ⟨gi, 0, none⟩ = false

def throughK (l ys : List Int) (x : Int) : Bool := weightsK l x && decide (ys.length = l.length) && allB ys
def throughV (l ys : List Int) (x : Int) : Int := if throughK l ys x then ((KH.th (nats l) (nats ys) x.toNat l.length : Nat) : Int) else 0

theorem weightsK_len {l : List Int} {x : Int} (h : weightsK l x = true) : 1 ≤ l.length ∧ l.length ≤ 255 ∧ l.Nodup ∧ allB l = true ∧ 0 ≤ x ∧ x ≤ 255 := by
  unfold weightsK placesB dgB at h
  simp only [Bool.and_eq_true, decide_eq_true_iff] at h
  exact ⟨h.1.1.1, h.1.1.2.1, h.1.1.2.2, h.1.2, h.2.1, h.2.2⟩

end Go.Proofs.YtdeoibgedjbeiaaDoor
