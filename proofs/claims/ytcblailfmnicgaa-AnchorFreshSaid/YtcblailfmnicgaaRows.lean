/-
  No cell of these rows narrows 'for every input' (looked for: loops, veiled, ifaces, maps, wideKeys, modest, calm, conditions, laid).
  DERIVED. THE GIVEN ROWS OF THIS SEAT. 5 by the template 'for every input the law returns true; each argument reads behind the call as it read before'; 0 by the template 'total and deterministic' (their statements: YtcblailfmnicgaaTotals.lean).
  GIVEN WITH THE SEED: the statements are not yours to turn. If you find one false, say at which input.
  Laid BY PROGRAM, IN A SANDBOX (cutbox-rows.mjs): the forced cells as the released guide's own fill.sh prints them over the translation 3f734495c6e3aaa7… (all of the seat's roots in one cut). By AI agents, Wed Nov 11 2026. No macro, syntax, notation, axiom, sorry.
-/
import Derived.Test.YtcblailfmnicgaaChecked
import GoSem.Claim
import GoSem.ClaimJoined
import GoSem.ClaimMapViews
import Derived.JoinedTies
import Derived.KernelRfl
namespace Go.Proofs.Ytcblailfmnicgaa
/- THE CELL 'sum', in the pinned program and in every row, IS THE sha256 OF THE DUMP (.gsa) THAT YtcblailfmnicgaaProg.lean LOADS. Nothing in Lean hashes anything: it is a label: what it is worth is what the hold of that sum in a sandbox is worth. -/
noncomputable def Try.pinned : Pinned := { name := "ytcblailfmnicgaa", sum := "3f734495c6e3aaa730141cd5b772cf5242ed7c379d72a60bd3bd1f42dcdeb304", checked := Try.checked }
namespace Rows
def none {H : Type} : Left H := { results := [], args := [] }

/-- 'keyholelaw25.AnchorEnough': WHATEVER THE INPUT: true; the input reads as it did. -/
def anchorEnoughSpec : ChangeSpec := { name := "anchorEnough", fn := fun _ => fun
  | [d1, d2, d3, d4] => { results := [.lit (.bool true)], args := [d1, d2, d3, d4] }
  | _ => none }
def anchorEnoughRow : OpenClaim := { program := "ytcblailfmnicgaa", sum := "3f734495c6e3aaa730141cd5b772cf5242ed7c379d72a60bd3bd1f42dcdeb304", func := "keyhole/keyholelaw25.AnchorEnough", spec := "anchorEnough", unfollowed := true, recurses := true, apart := false }
def AnchorEnoughSaid : Prop := anchorEnoughRow.holds Try.pinned (OpenSpec.ofChange anchorEnoughSpec)

/-- ITS FALSE NEIGHBOUR: 'it returns false'. Refute it at one input. -/
def anchorEnoughWrong : ChangeSpec := { name := "anchorEnough", fn := fun _ => fun
  | [d1, d2, d3, d4] => { results := [.lit (.bool false)], args := [d1, d2, d3, d4] }
  | _ => none }
def AnchorEnoughWrongFalsely : Prop := anchorEnoughRow.holds Try.pinned (OpenSpec.ofChange anchorEnoughWrong)

/-- 'keyholelaw25.AnchorRises': WHATEVER THE INPUT: true; the input reads as it did. -/
def anchorRisesSpec : ChangeSpec := { name := "anchorRises", fn := fun _ => fun
  | [d1, d2, d3, d4] => { results := [.lit (.bool true)], args := [d1, d2, d3, d4] }
  | _ => none }
def anchorRisesRow : OpenClaim := { program := "ytcblailfmnicgaa", sum := "3f734495c6e3aaa730141cd5b772cf5242ed7c379d72a60bd3bd1f42dcdeb304", func := "keyhole/keyholelaw25.AnchorRises", spec := "anchorRises", unfollowed := true, recurses := true, apart := false }
def AnchorRisesSaid : Prop := anchorRisesRow.holds Try.pinned (OpenSpec.ofChange anchorRisesSpec)

/-- ITS FALSE NEIGHBOUR: 'it returns false'. Refute it at one input. -/
def anchorRisesWrong : ChangeSpec := { name := "anchorRises", fn := fun _ => fun
  | [d1, d2, d3, d4] => { results := [.lit (.bool false)], args := [d1, d2, d3, d4] }
  | _ => none }
def AnchorRisesWrongFalsely : Prop := anchorRisesRow.holds Try.pinned (OpenSpec.ofChange anchorRisesWrong)

/-- 'keyholelaw25.AnchorFresh': WHATEVER THE INPUT: true; the input reads as it did. -/
def anchorFreshSpec : ChangeSpec := { name := "anchorFresh", fn := fun _ => fun
  | [d1, d2, d3, d4, d5, d6] => { results := [.lit (.bool true)], args := [d1, d2, d3, d4, d5, d6] }
  | _ => none }
def anchorFreshRow : OpenClaim := { program := "ytcblailfmnicgaa", sum := "3f734495c6e3aaa730141cd5b772cf5242ed7c379d72a60bd3bd1f42dcdeb304", func := "keyhole/keyholelaw25.AnchorFresh", spec := "anchorFresh", unfollowed := true, recurses := true, apart := false }
def AnchorFreshSaid : Prop := anchorFreshRow.holds Try.pinned (OpenSpec.ofChange anchorFreshSpec)

/-- ITS FALSE NEIGHBOUR: 'it returns false'. Refute it at one input. -/
def anchorFreshWrong : ChangeSpec := { name := "anchorFresh", fn := fun _ => fun
  | [d1, d2, d3, d4, d5, d6] => { results := [.lit (.bool false)], args := [d1, d2, d3, d4, d5, d6] }
  | _ => none }
def AnchorFreshWrongFalsely : Prop := anchorFreshRow.holds Try.pinned (OpenSpec.ofChange anchorFreshWrong)

/-- 'keyholelaw25.AnchorFalls': WHATEVER THE INPUT: true; the input reads as it did. -/
def anchorFallsSpec : ChangeSpec := { name := "anchorFalls", fn := fun _ => fun
  | [d1, d2, d3] => { results := [.lit (.bool true)], args := [d1, d2, d3] }
  | _ => none }
def anchorFallsRow : OpenClaim := { program := "ytcblailfmnicgaa", sum := "3f734495c6e3aaa730141cd5b772cf5242ed7c379d72a60bd3bd1f42dcdeb304", func := "keyhole/keyholelaw25.AnchorFalls", spec := "anchorFalls", unfollowed := true, recurses := true, apart := false }
def AnchorFallsSaid : Prop := anchorFallsRow.holds Try.pinned (OpenSpec.ofChange anchorFallsSpec)

/-- ITS FALSE NEIGHBOUR: 'it returns false'. Refute it at one input. -/
def anchorFallsWrong : ChangeSpec := { name := "anchorFalls", fn := fun _ => fun
  | [d1, d2, d3] => { results := [.lit (.bool false)], args := [d1, d2, d3] }
  | _ => none }
def AnchorFallsWrongFalsely : Prop := anchorFallsRow.holds Try.pinned (OpenSpec.ofChange anchorFallsWrong)

/-- 'keyholelaw25.AnchorDoes': WHATEVER THE INPUT: true; the input reads as it did. -/
def anchorDoesSpec : ChangeSpec := { name := "anchorDoes", fn := fun _ => fun
  | [d1, d2, d3, d4, d5, d6] => { results := [.lit (.bool true)], args := [d1, d2, d3, d4, d5, d6] }
  | _ => none }
def anchorDoesRow : OpenClaim := { program := "ytcblailfmnicgaa", sum := "3f734495c6e3aaa730141cd5b772cf5242ed7c379d72a60bd3bd1f42dcdeb304", func := "keyhole/keyholelaw25.AnchorDoes", spec := "anchorDoes", unfollowed := true, recurses := true, apart := false }
def AnchorDoesSaid : Prop := anchorDoesRow.holds Try.pinned (OpenSpec.ofChange anchorDoesSpec)

/-- ITS FALSE NEIGHBOUR: 'it returns false'. Refute it at one input. -/
def anchorDoesWrong : ChangeSpec := { name := "anchorDoes", fn := fun _ => fun
  | [d1, d2, d3, d4, d5, d6] => { results := [.lit (.bool false)], args := [d1, d2, d3, d4, d5, d6] }
  | _ => none }
def AnchorDoesWrongFalsely : Prop := anchorDoesRow.holds Try.pinned (OpenSpec.ofChange anchorDoesWrong)

/- THE SECOND FORM. 'bulk': how many values and letters a reading holds, each counted each time it is reached (what is shared counts as often as it is met; a slice's spare places count too). A statement '..UptoSaid' is the law's where the arguments, and the package variables that the reading takes, are together of bulk at most 1048576: NARROWER than '..Said'. Prove '..Said' where nothing that the law and all that it calls make is longer than what came in: it says more and counts as full. Else prove '..UptoSaid'. A law counts once. -/
mutual
def uptoBulk {H : Type} : DataW H → Nat
  | .lit (.string bytes) => bytes.length + 1
  | .lit _ => 1
  | .nil => 1
  | .ptr d => uptoBulk d + 1
  | .slice elems spare => uptoBulkAll elems + uptoBulkAll spare + 1
  | .agg parts => uptoBulkAll parts + 1
  | .iface _ d => uptoBulk d + 1
  | .map entries => uptoBulkEntries entries + 1
  | .held _ => 1
def uptoBulkAll {H : Type} : List (DataW H) → Nat
  | [] => 0
  | d :: r => uptoBulk d + uptoBulkAll r
def uptoBulkEntries {H : Type} : List (Lit × DataW H) → Nat
  | [] => 0
  | x :: r => uptoBulkEntry x + uptoBulkEntries r
def uptoBulkEntry {H : Type} : Lit × DataW H → Nat
  | (.string bytes, d) => bytes.length + uptoBulk d + 1
  | (_, d) => uptoBulk d + 1
 end
def uptoSmall : (H : Type) → List (DataW H) → Bool := fun _ ds => decide (uptoBulkAll ds ≤ 1048576)
def OpenSpec.upto (s : _root_.Go.ChangeSpec) : _root_.Go.OpenSpec := { _root_.Go.OpenSpec.ofChange s with cond := some uptoSmall }

/-- 'keyholelaw25.AnchorEnough', WHERE WHAT IT READS IS OF BULK AT MOST 1048576: true; the input reads as it did. -/
def anchorEnoughUptoRow : OpenClaim := { program := "ytcblailfmnicgaa", sum := "3f734495c6e3aaa730141cd5b772cf5242ed7c379d72a60bd3bd1f42dcdeb304", func := "keyhole/keyholelaw25.AnchorEnough", spec := "anchorEnough", unfollowed := true, recurses := true, apart := false, narrowed := true }
def AnchorEnoughUptoSaid : Prop := anchorEnoughUptoRow.holds Try.pinned (OpenSpec.upto anchorEnoughSpec)

/-- 'keyholelaw25.AnchorRises', WHERE WHAT IT READS IS OF BULK AT MOST 1048576: true; the input reads as it did. -/
def anchorRisesUptoRow : OpenClaim := { program := "ytcblailfmnicgaa", sum := "3f734495c6e3aaa730141cd5b772cf5242ed7c379d72a60bd3bd1f42dcdeb304", func := "keyhole/keyholelaw25.AnchorRises", spec := "anchorRises", unfollowed := true, recurses := true, apart := false, narrowed := true }
def AnchorRisesUptoSaid : Prop := anchorRisesUptoRow.holds Try.pinned (OpenSpec.upto anchorRisesSpec)

/-- 'keyholelaw25.AnchorFresh', WHERE WHAT IT READS IS OF BULK AT MOST 1048576: true; the input reads as it did. -/
def anchorFreshUptoRow : OpenClaim := { program := "ytcblailfmnicgaa", sum := "3f734495c6e3aaa730141cd5b772cf5242ed7c379d72a60bd3bd1f42dcdeb304", func := "keyhole/keyholelaw25.AnchorFresh", spec := "anchorFresh", unfollowed := true, recurses := true, apart := false, narrowed := true }
def AnchorFreshUptoSaid : Prop := anchorFreshUptoRow.holds Try.pinned (OpenSpec.upto anchorFreshSpec)

/-- 'keyholelaw25.AnchorFalls', WHERE WHAT IT READS IS OF BULK AT MOST 1048576: true; the input reads as it did. -/
def anchorFallsUptoRow : OpenClaim := { program := "ytcblailfmnicgaa", sum := "3f734495c6e3aaa730141cd5b772cf5242ed7c379d72a60bd3bd1f42dcdeb304", func := "keyhole/keyholelaw25.AnchorFalls", spec := "anchorFalls", unfollowed := true, recurses := true, apart := false, narrowed := true }
def AnchorFallsUptoSaid : Prop := anchorFallsUptoRow.holds Try.pinned (OpenSpec.upto anchorFallsSpec)

/-- 'keyholelaw25.AnchorDoes', WHERE WHAT IT READS IS OF BULK AT MOST 1048576: true; the input reads as it did. -/
def anchorDoesUptoRow : OpenClaim := { program := "ytcblailfmnicgaa", sum := "3f734495c6e3aaa730141cd5b772cf5242ed7c379d72a60bd3bd1f42dcdeb304", func := "keyhole/keyholelaw25.AnchorDoes", spec := "anchorDoes", unfollowed := true, recurses := true, apart := false, narrowed := true }
def AnchorDoesUptoSaid : Prop := anchorDoesUptoRow.holds Try.pinned (OpenSpec.upto anchorDoesSpec)

end Rows
end Go.Proofs.Ytcblailfmnicgaa
