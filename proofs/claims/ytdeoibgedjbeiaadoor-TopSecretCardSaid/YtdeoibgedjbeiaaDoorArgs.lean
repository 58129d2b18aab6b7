/- What a statement's argument that is a slice holds: integers, bools, strings. -/
import Derived.Test.YtdeoibgedjbeiaaDoorWords
import Derived.WalkKit
import Derived.ProofKit
import Derived.OpenShut
import Derived.ShutString
import Derived.SliceStrings
import Derived.Deep.Grids
namespace KH
open Go Go.RowKit Go.ChangeShapes Go.WideShapes Go.ChangeAt Go.Deep

theorem lt_of_cell {w : World} {a : Addr} {v : Value} (h : w.cell? a = some v) : a.block < w.heap.size := by
  rcases Nat.lt_or_ge a.block w.heap.size with h' | h'
  · exact h'
  · unfold World.cell? at h
    rw [Array.getElem?_eq_none h'] at h
    cases h

/-- a slice whose cells are told one by one reads as the list -/
theorem reads_of {w : World} {x : Addr} {n : Nat} {α : Type} {f : α → Value} {l : List α} (hl : l.length = n) (hc : ∀ i u, l[i]? = some u → w.cell? (x.add i) = some (f u)) :
    Reads w w.heap.size 1 (some x) n (l.map f) := by
  refine ⟨by simp [hl], fun hn => ⟨x, rfl, ?_, fun j u hu => ?_⟩⟩
  · have h0 := hc 0 _ (List.getElem?_eq_getElem (by omega))
    have := lt_of_cell h0
    rw [block_of_add] at this
    exact this
  · rw [List.getElem?_map] at hu
    cases hj : l[j]? with
    | none => rw [hj] at hu; cases hu
    | some y => rw [hj] at hu; injection hu with hu; subst hu; exact hc j y hj

section
variable {H : Type} {enc : TypeId × Value → H} {P : Program} {W : World} {base : Nat} {held : Bool}

theorem ints_in {t e : TypeId} (ht : P.underlying t = some (.slice e)) (he : P.underlying e = some (.int .i64)) (hc : P.cellsOf e = 1) {a : Option Addr} {len cap : Nat} {d : DataW H} {p : List MemPlace}
    (h : DataW.Trod enc P W 0 (fun _ => true) true t (.slice a len cap) d p) : ∃ zs, IntsIn W a len cap zs := by
  obtain ⟨fuel, hf⟩ := h
  rcases open_ints ht he hc hf with ⟨hcs, _⟩ | ⟨x, l, c, zs, hcs, _, hl, hm, hz, _, hcell, hwz⟩
  · simp [Value.cells] at hcs
    obtain ⟨rfl, rfl, rfl⟩ := hcs
    exact ⟨[], rfl, Nat.le_refl _, by unfold maxLen; omega, by simp, Reads.none_⟩
  · simp [Value.cells] at hcs
    obtain ⟨rfl, rfl, rfl⟩ := hcs
    simp only [if_true] at hz
    refine ⟨zs.take len, by rw [List.length_take]; omega, hl, hm, fun y hy => ?_, reads_of (by rw [List.length_take]; omega) fun i u hu => ?_⟩
    · have := hwz y (List.mem_of_mem_take hy)
      simpa [Lit.wf, IntKind.min, IntKind.max, IntKind.bits, IntKind.signed] using this
    · rw [List.getElem?_take] at hu
      split at hu
      · rw [hcell i (by omega)]
        simp [List.getD, hu]
      · cases hu

/-- a slice of bools that came in -/
def BoolsIn (w : World) (a : Option Addr) (n c : Nat) (l : List Bool) : Prop :=
  l.length = n ∧ n ≤ c ∧ c ≤ maxLen ∧ Reads w w.heap.size 1 a n (l.map .bool)
/-- a slice of strings that came in -/
def StrsIn (w : World) (a : Option Addr) (n c : Nat) (l : List ByteArray) : Prop :=
  l.length = n ∧ n ≤ c ∧ c ≤ maxLen ∧ (∀ x ∈ l, x.size ≤ maxLen) ∧ Reads w w.heap.size 1 a n (l.map .string)

theorem bools_in {t e : TypeId} (ht : P.underlying t = some (.slice e)) (he : P.underlying e = some .bool) (hc : P.cellsOf e = 1) {a : Option Addr} {len cap : Nat} {d : DataW H} {p : List MemPlace}
    (h : DataW.Trod enc P W 0 (fun _ => true) true t (.slice a len cap) d p) : ∃ zs, BoolsIn W a len cap zs := by
  obtain ⟨fuel, hf⟩ := h
  rcases open_bools ht he hc hf with ⟨hcs, _⟩ | ⟨x, l, c, B, hcs, _, hl, hm, _, hcell⟩
  · simp [Value.cells] at hcs
    obtain ⟨rfl, rfl, rfl⟩ := hcs
    exact ⟨[], rfl, Nat.le_refl _, by unfold maxLen; omega, Reads.none_⟩
  · simp [Value.cells] at hcs
    obtain ⟨rfl, rfl, rfl⟩ := hcs
    refine ⟨(List.range len).map B, by simp, hl, hm, reads_of (by simp) fun i u hu => ?_⟩
    rw [List.getElem?_map] at hu
    have hi : i < len := by
      rcases Nat.lt_or_ge i len with h' | h'
      · exact h'
      · rw [List.getElem?_eq_none (by simpa using h')] at hu; cases hu
    rw [List.getElem?_range hi] at hu
    injection hu with hu
    rw [hcell i (by omega), hu]

theorem strs_in {t e : TypeId} (ht : P.underlying t = some (.slice e)) (he : P.underlying e = some .string) (hc : P.cellsOf e = 1) {a : Option Addr} {len cap : Nat} {d : DataW H} {p : List MemPlace}
    (h : DataW.Trod enc P W 0 (fun _ => true) true t (.slice a len cap) d p) : ∃ zs, StrsIn W a len cap zs := by
  obtain ⟨fuel, hf⟩ := h
  rcases open_strings ht he hc hf with ⟨hcs, _⟩ | ⟨x, l, c, zs, hcs, _, hl, hm, hz, _, hcell, hwz⟩
  · simp [Value.cells] at hcs
    obtain ⟨rfl, rfl, rfl⟩ := hcs
    exact ⟨[], rfl, Nat.le_refl _, by unfold maxLen; omega, by simp, Reads.none_⟩
  · simp [Value.cells] at hcs
    obtain ⟨rfl, rfl, rfl⟩ := hcs
    simp only [if_true] at hz
    refine ⟨zs.take len, by rw [List.length_take]; omega, hl, hm, fun y hy => hwz y (List.mem_of_mem_take hy), reads_of (by rw [List.length_take]; omega) fun i u hu => ?_⟩
    rw [List.getElem?_take] at hu
    split at hu
    · rw [hcell i (by omega)]
      simp [List.getD, hu]
    · cases hu
end
end KH
