/- The document's Many, Same, row, Eval; the append of a share. -/
import Derived.Test.YtdeoibgedjbeiaaDoorShareE
namespace KH
open Go Go.RowKit
/-- append of one element of two cells to a row of the call's own -/
theorem wpList_append_two {P : Program} {w : World} {ops : Array Oper} {rest : List Oper} {o : Oper} {a : Act} {Q : Exit → Act → World → Prop} (hgd : o.guard = none) (s x : Operand) (t : TypeId)
    (ho : o.op = .call { callee := .builtin .append, args := #[s, x], argTypes := #[t, t] })
    (base : Nat) (e : TypeId) (i : TypeInfo) (z : Value) (bytes : Nat) (ht : P.underlying t = some (.slice e)) (hi : P.info? e = some i) (hz : i.zero = some z)
    (hsize : i.size = 2) (hby : i.bytes = bytes) (hzs : z.cells.size = 2)
    (v : Value) (n : Nat) (xs : List Value) (hs : a.eval s = v) (hown : w.ownsRow base e 2 v n xs)
    (b c : Nat) (u1 u2 : Value) (hx : a.eval x = .slice (some ⟨b, 0, none⟩) 1 c) (hu1 : w.cell? ⟨b, 0, none⟩ = some u1) (hu2 : w.cell? ⟨b, 1, none⟩ = some u2) (h1 : u1.oneCell' = true) (h2 : u2.oneCell' = true)
    (h63 : n + 1 ≤ maxLen) (hbytes : (n + 1) * bytes ≤ 140737488355328) (hbase : base ≤ w.heap.size)
    (h : ∀ v' w', w'.ownsRow base e 2 v' (n + 1) (xs ++ [u1, u2]) → Below base w w' → wpList P ops Q rest (a.put o.dst v') w') : wpList P ops Q (o :: rest) a w := by
  refine Go.wpList_append_own w hgd s x t ho base e i z 2 bytes ht hi hz hsize hby hzs (by omega) v n xs hs hown ⟨b, 0, none⟩ 1 c [u1, u2] hx rfl ?_ ?_ h63 hbytes hbase fun v' w' h2 h3 _ => h v' w' h2 ((Below.refl _ _).grown h3 hbase fun k hk => (hown.lt k hk).1)
  · intro j q hj
    match j, hj with
    | 0, hj => simp at hj; subst hj; simpa [Addr.add] using hu1
    | 1, hj => simp at hj; subst hj; simpa [Addr.add] using hu2
  · intro q hq
    simp at hq
    rcases hq with rfl | rfl
    · exact h1
    · exact h2
end KH
namespace Go.Proofs.YtdeoibgedjbeiaaDoor
open Go.RowKit

theorem bl_map (N : Nat) (F : Nat → Nat) : bl N F = ((List.range N).map fun o => ((F o : Nat) : Int)).map (Value.int .u8) := by simp [bl]

theorem bytes_ne {b b' : ByteArray} (h : b ≠ b') : (b.toList == b'.toList) = false := by
  rw [beq_eq_false_iff_ne]
  intro e
  apply h
  rw [ByteArray.toList_eq, ByteArray.toList_eq] at e
  exact ByteArray.ext (Array.toList_inj.1 e)
theorem shtake_eq {l m : List (Int × ByteArray)} {k : Nat} {x : Int × ByteArray} (h : l.take k = m.take k) (h1 : l[k]? = some x) (h2 : m[k]? = some x) : l.take (k + 1) = m.take (k + 1) := by
  rw [List.take_add_one, List.take_add_one, h, h1, h2]

end Go.Proofs.YtdeoibgedjbeiaaDoor
