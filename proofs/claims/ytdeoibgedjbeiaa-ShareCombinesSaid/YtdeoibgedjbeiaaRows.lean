/-
  No cell of these rows narrows 'for every input' (looked for: loops, veiled, ifaces, maps, wideKeys, modest, calm, conditions, laid).
  DERIVED. THE GIVEN ROWS OF THIS SEAT. 15 by the template 'for every input the law returns true; each argument reads behind the call as it read before'; 0 by the template 'total and deterministic' (their statements: YtdeoibgedjbeiaaTotals.lean).
  GIVEN WITH THE SEED: the statements are not yours to turn. If you find one false, say at which input.
  Laid BY PROGRAM, IN A SANDBOX (cutbox-rows.mjs): the forced cells as the released guide's own fill.sh prints them over the translation 612cb7fc7634aee8… (all of the seat's roots in one cut). By AI agents, Wed Nov 11 2026. No macro, syntax, notation, axiom, sorry.
-/
import Derived.Test.YtdeoibgedjbeiaaChecked
import GoSem.Claim
import GoSem.ClaimJoined
import GoSem.ClaimMapViews
import Derived.JoinedTies
import Derived.KernelRfl
namespace Go.Proofs.Ytdeoibgedjbeiaa
/- THE CELL 'sum', in the pinned program and in every row, IS THE sha256 OF THE DUMP (.gsa) THAT YtdeoibgedjbeiaaProg.lean LOADS. Nothing in Lean hashes anything: it is a label: what it is worth is what the hold of that sum in a sandbox is worth. -/
noncomputable def Try.pinned : Pinned := { name := "ytdeoibgedjbeiaa", sum := "612cb7fc7634aee8fc8f6aed443950a54f4dac003ac799b2d4657e1def377225", checked := Try.checked }
namespace Rows
def none {H : Type} : Left H := { results := [], args := [] }

/-- 'keyholelaw07.FieldLaws': WHATEVER THE INPUT: true; the input reads as it did. -/
def fieldLawsSpec : ChangeSpec := { name := "fieldLaws", fn := fun _ => fun
  | [d1, d2, d3] => { results := [.lit (.bool true)], args := [d1, d2, d3] }
  | _ => none }
def fieldLawsRow : OpenClaim := { program := "ytdeoibgedjbeiaa", sum := "612cb7fc7634aee8fc8f6aed443950a54f4dac003ac799b2d4657e1def377225", func := "keyhole/keyholelaw07.FieldLaws", spec := "fieldLaws", apart := false }
def FieldLawsSaid : Prop := fieldLawsRow.holds Try.pinned (OpenSpec.ofChange fieldLawsSpec)

/-- ITS FALSE NEIGHBOUR: 'it returns false'. Refute it at one input. -/
def fieldLawsWrong : ChangeSpec := { name := "fieldLaws", fn := fun _ => fun
  | [d1, d2, d3] => { results := [.lit (.bool false)], args := [d1, d2, d3] }
  | _ => none }
def FieldLawsWrongFalsely : Prop := fieldLawsRow.holds Try.pinned (OpenSpec.ofChange fieldLawsWrong)

/-- 'keyholelaw07.FieldApart': WHATEVER THE INPUT: true; the input reads as it did. -/
def fieldApartSpec : ChangeSpec := { name := "fieldApart", fn := fun _ => fun
  | [d1, d2, d3] => { results := [.lit (.bool true)], args := [d1, d2, d3] }
  | _ => none }
def fieldApartRow : OpenClaim := { program := "ytdeoibgedjbeiaa", sum := "612cb7fc7634aee8fc8f6aed443950a54f4dac003ac799b2d4657e1def377225", func := "keyhole/keyholelaw07.FieldApart", spec := "fieldApart", apart := false }
def FieldApartSaid : Prop := fieldApartRow.holds Try.pinned (OpenSpec.ofChange fieldApartSpec)

/-- ITS FALSE NEIGHBOUR: 'it returns false'. Refute it at one input. -/
def fieldApartWrong : ChangeSpec := { name := "fieldApart", fn := fun _ => fun
  | [d1, d2, d3] => { results := [.lit (.bool false)], args := [d1, d2, d3] }
  | _ => none }
def FieldApartWrongFalsely : Prop := fieldApartRow.holds Try.pinned (OpenSpec.ofChange fieldApartWrong)

/-- 'keyholelaw07.FieldMakes': WHATEVER THE INPUT: true; the input reads as it did. -/
def fieldMakesSpec : ChangeSpec := { name := "fieldMakes", fn := fun _ => fun
  | [d1, d2, d3] => { results := [.lit (.bool true)], args := [d1, d2, d3] }
  | _ => none }
def fieldMakesRow : OpenClaim := { program := "ytdeoibgedjbeiaa", sum := "612cb7fc7634aee8fc8f6aed443950a54f4dac003ac799b2d4657e1def377225", func := "keyhole/keyholelaw07.FieldMakes", spec := "fieldMakes", apart := false }
def FieldMakesSaid : Prop := fieldMakesRow.holds Try.pinned (OpenSpec.ofChange fieldMakesSpec)

/-- ITS FALSE NEIGHBOUR: 'it returns false'. Refute it at one input. -/
def fieldMakesWrong : ChangeSpec := { name := "fieldMakes", fn := fun _ => fun
  | [d1, d2, d3] => { results := [.lit (.bool false)], args := [d1, d2, d3] }
  | _ => none }
def FieldMakesWrongFalsely : Prop := fieldMakesRow.holds Try.pinned (OpenSpec.ofChange fieldMakesWrong)

/-- 'keyholelaw07.FieldBack': WHATEVER THE INPUT: true; the input reads as it did. -/
def fieldBackSpec : ChangeSpec := { name := "fieldBack", fn := fun _ => fun
  | [d1, d2] => { results := [.lit (.bool true)], args := [d1, d2] }
  | _ => none }
def fieldBackRow : OpenClaim := { program := "ytdeoibgedjbeiaa", sum := "612cb7fc7634aee8fc8f6aed443950a54f4dac003ac799b2d4657e1def377225", func := "keyhole/keyholelaw07.FieldBack", spec := "fieldBack", apart := false }
def FieldBackSaid : Prop := fieldBackRow.holds Try.pinned (OpenSpec.ofChange fieldBackSpec)

/-- ITS FALSE NEIGHBOUR: 'it returns false'. Refute it at one input. -/
def fieldBackWrong : ChangeSpec := { name := "fieldBack", fn := fun _ => fun
  | [d1, d2] => { results := [.lit (.bool false)], args := [d1, d2] }
  | _ => none }
def FieldBackWrongFalsely : Prop := fieldBackRow.holds Try.pinned (OpenSpec.ofChange fieldBackWrong)

/-- 'keyholelaw07.FieldBytes': WHATEVER THE INPUT: true; the input reads as it did. -/
def fieldBytesSpec : ChangeSpec := { name := "fieldBytes", fn := fun _ => fun
  | [d1, d2] => { results := [.lit (.bool true)], args := [d1, d2] }
  | _ => none }
def fieldBytesRow : OpenClaim := { program := "ytdeoibgedjbeiaa", sum := "612cb7fc7634aee8fc8f6aed443950a54f4dac003ac799b2d4657e1def377225", func := "keyhole/keyholelaw07.FieldBytes", spec := "fieldBytes", unfollowed := true, recurses := true, apart := false }
def FieldBytesSaid : Prop := fieldBytesRow.holds Try.pinned (OpenSpec.ofChange fieldBytesSpec)

/-- ITS FALSE NEIGHBOUR: 'it returns false'. Refute it at one input. -/
def fieldBytesWrong : ChangeSpec := { name := "fieldBytes", fn := fun _ => fun
  | [d1, d2] => { results := [.lit (.bool false)], args := [d1, d2] }
  | _ => none }
def FieldBytesWrongFalsely : Prop := fieldBytesRow.holds Try.pinned (OpenSpec.ofChange fieldBytesWrong)

/-- 'keyholelaw08.PolyThrough': WHATEVER THE INPUT: true; the input reads as it did. -/
def polyThroughSpec : ChangeSpec := { name := "polyThrough", fn := fun _ => fun
  | [d1, d2, d3] => { results := [.lit (.bool true)], args := [d1, d2, d3] }
  | _ => none }
def polyThroughRow : OpenClaim := { program := "ytdeoibgedjbeiaa", sum := "612cb7fc7634aee8fc8f6aed443950a54f4dac003ac799b2d4657e1def377225", func := "keyhole/keyholelaw08.PolyThrough", spec := "polyThrough", unfollowed := true, recurses := true, apart := false }
def PolyThroughSaid : Prop := polyThroughRow.holds Try.pinned (OpenSpec.ofChange polyThroughSpec)

/-- ITS FALSE NEIGHBOUR: 'it returns false'. Refute it at one input. -/
def polyThroughWrong : ChangeSpec := { name := "polyThrough", fn := fun _ => fun
  | [d1, d2, d3] => { results := [.lit (.bool false)], args := [d1, d2, d3] }
  | _ => none }
def PolyThroughWrongFalsely : Prop := polyThroughRow.holds Try.pinned (OpenSpec.ofChange polyThroughWrong)

/-- 'keyholelaw08.PolyAt': WHATEVER THE INPUT: true; the input reads as it did. -/
def polyAtSpec : ChangeSpec := { name := "polyAt", fn := fun _ => fun
  | [d1, d2, d3, d4] => { results := [.lit (.bool true)], args := [d1, d2, d3, d4] }
  | _ => none }
def polyAtRow : OpenClaim := { program := "ytdeoibgedjbeiaa", sum := "612cb7fc7634aee8fc8f6aed443950a54f4dac003ac799b2d4657e1def377225", func := "keyhole/keyholelaw08.PolyAt", spec := "polyAt", unfollowed := true, recurses := true, apart := false }
def PolyAtSaid : Prop := polyAtRow.holds Try.pinned (OpenSpec.ofChange polyAtSpec)

/-- ITS FALSE NEIGHBOUR: 'it returns false'. Refute it at one input. -/
def polyAtWrong : ChangeSpec := { name := "polyAt", fn := fun _ => fun
  | [d1, d2, d3, d4] => { results := [.lit (.bool false)], args := [d1, d2, d3, d4] }
  | _ => none }
def PolyAtWrongFalsely : Prop := polyAtRow.holds Try.pinned (OpenSpec.ofChange polyAtWrong)

/-- 'keyholelaw08.PolyAdds': WHATEVER THE INPUT: true; the input reads as it did. -/
def polyAddsSpec : ChangeSpec := { name := "polyAdds", fn := fun _ => fun
  | [d1, d2, d3] => { results := [.lit (.bool true)], args := [d1, d2, d3] }
  | _ => none }
def polyAddsRow : OpenClaim := { program := "ytdeoibgedjbeiaa", sum := "612cb7fc7634aee8fc8f6aed443950a54f4dac003ac799b2d4657e1def377225", func := "keyhole/keyholelaw08.PolyAdds", spec := "polyAdds", unfollowed := true, recurses := true, apart := false }
def PolyAddsSaid : Prop := polyAddsRow.holds Try.pinned (OpenSpec.ofChange polyAddsSpec)

/-- ITS FALSE NEIGHBOUR: 'it returns false'. Refute it at one input. -/
def polyAddsWrong : ChangeSpec := { name := "polyAdds", fn := fun _ => fun
  | [d1, d2, d3] => { results := [.lit (.bool false)], args := [d1, d2, d3] }
  | _ => none }
def PolyAddsWrongFalsely : Prop := polyAddsRow.holds Try.pinned (OpenSpec.ofChange polyAddsWrong)

/-- 'keyholelaw08.PolyZeros': WHATEVER THE INPUT: true; the input reads as it did. -/
def polyZerosSpec : ChangeSpec := { name := "polyZeros", fn := fun _ => fun
  | [d] => { results := [.lit (.bool true)], args := [d] }
  | _ => none }
def polyZerosRow : OpenClaim := { program := "ytdeoibgedjbeiaa", sum := "612cb7fc7634aee8fc8f6aed443950a54f4dac003ac799b2d4657e1def377225", func := "keyhole/keyholelaw08.PolyZeros", spec := "polyZeros", unfollowed := true, recurses := true, apart := false }
def PolyZerosSaid : Prop := polyZerosRow.holds Try.pinned (OpenSpec.ofChange polyZerosSpec)

/-- ITS FALSE NEIGHBOUR: 'it returns false'. Refute it at one input. -/
def polyZerosWrong : ChangeSpec := { name := "polyZeros", fn := fun _ => fun
  | [d] => { results := [.lit (.bool false)], args := [d] }
  | _ => none }
def PolyZerosWrongFalsely : Prop := polyZerosRow.holds Try.pinned (OpenSpec.ofChange polyZerosWrong)

/-- 'keyholelaw09.ShareSplits': WHATEVER THE INPUT: true; the input reads as it did. -/
def shareSplitsSpec : ChangeSpec := { name := "shareSplits", fn := fun _ => fun
  | [d1, d2, d3, d4] => { results := [.lit (.bool true)], args := [d1, d2, d3, d4] }
  | _ => none }
def shareSplitsRow : OpenClaim := { program := "ytdeoibgedjbeiaa", sum := "612cb7fc7634aee8fc8f6aed443950a54f4dac003ac799b2d4657e1def377225", func := "keyhole/keyholelaw09.ShareSplits", spec := "shareSplits", unfollowed := true, recurses := true, apart := false }
def ShareSplitsSaid : Prop := shareSplitsRow.holds Try.pinned (OpenSpec.ofChange shareSplitsSpec)

/-- ITS FALSE NEIGHBOUR: 'it returns false'. Refute it at one input. -/
def shareSplitsWrong : ChangeSpec := { name := "shareSplits", fn := fun _ => fun
  | [d1, d2, d3, d4] => { results := [.lit (.bool false)], args := [d1, d2, d3, d4] }
  | _ => none }
def ShareSplitsWrongFalsely : Prop := shareSplitsRow.holds Try.pinned (OpenSpec.ofChange shareSplitsWrong)

/-- 'keyholelaw09.ShareAny': WHATEVER THE INPUT: true; the input reads as it did. -/
def shareAnySpec : ChangeSpec := { name := "shareAny", fn := fun _ => fun
  | [d1, d2, d3, d4, d5] => { results := [.lit (.bool true)], args := [d1, d2, d3, d4, d5] }
  | _ => none }
def shareAnyRow : OpenClaim := { program := "ytdeoibgedjbeiaa", sum := "612cb7fc7634aee8fc8f6aed443950a54f4dac003ac799b2d4657e1def377225", func := "keyhole/keyholelaw09.ShareAny", spec := "shareAny", unfollowed := true, recurses := true, apart := false }
def ShareAnySaid : Prop := shareAnyRow.holds Try.pinned (OpenSpec.ofChange shareAnySpec)

/-- ITS FALSE NEIGHBOUR: 'it returns false'. Refute it at one input. -/
def shareAnyWrong : ChangeSpec := { name := "shareAny", fn := fun _ => fun
  | [d1, d2, d3, d4, d5] => { results := [.lit (.bool false)], args := [d1, d2, d3, d4, d5] }
  | _ => none }
def ShareAnyWrongFalsely : Prop := shareAnyRow.holds Try.pinned (OpenSpec.ofChange shareAnyWrong)

/-- 'keyholelaw09.ShareOrder': WHATEVER THE INPUT: true; the input reads as it did. -/
def shareOrderSpec : ChangeSpec := { name := "shareOrder", fn := fun _ => fun
  | [d1, d2] => { results := [.lit (.bool true)], args := [d1, d2] }
  | _ => none }
def shareOrderRow : OpenClaim := { program := "ytdeoibgedjbeiaa", sum := "612cb7fc7634aee8fc8f6aed443950a54f4dac003ac799b2d4657e1def377225", func := "keyhole/keyholelaw09.ShareOrder", spec := "shareOrder", unfollowed := true, recurses := true, apart := false }
def ShareOrderSaid : Prop := shareOrderRow.holds Try.pinned (OpenSpec.ofChange shareOrderSpec)

/-- ITS FALSE NEIGHBOUR: 'it returns false'. Refute it at one input. -/
def shareOrderWrong : ChangeSpec := { name := "shareOrder", fn := fun _ => fun
  | [d1, d2] => { results := [.lit (.bool false)], args := [d1, d2] }
  | _ => none }
def ShareOrderWrongFalsely : Prop := shareOrderRow.holds Try.pinned (OpenSpec.ofChange shareOrderWrong)

/-- 'keyholelaw09.ShareSums': WHATEVER THE INPUT: true; the input reads as it did. -/
def shareSumsSpec : ChangeSpec := { name := "shareSums", fn := fun _ => fun
  | [d1, d2, d3, d4, d5, d6] => { results := [.lit (.bool true)], args := [d1, d2, d3, d4, d5, d6] }
  | _ => none }
def shareSumsRow : OpenClaim := { program := "ytdeoibgedjbeiaa", sum := "612cb7fc7634aee8fc8f6aed443950a54f4dac003ac799b2d4657e1def377225", func := "keyhole/keyholelaw09.ShareSums", spec := "shareSums", unfollowed := true, recurses := true, apart := false }
def ShareSumsSaid : Prop := shareSumsRow.holds Try.pinned (OpenSpec.ofChange shareSumsSpec)

/-- ITS FALSE NEIGHBOUR: 'it returns false'. Refute it at one input. -/
def shareSumsWrong : ChangeSpec := { name := "shareSums", fn := fun _ => fun
  | [d1, d2, d3, d4, d5, d6] => { results := [.lit (.bool false)], args := [d1, d2, d3, d4, d5, d6] }
  | _ => none }
def ShareSumsWrongFalsely : Prop := shareSumsRow.holds Try.pinned (OpenSpec.ofChange shareSumsWrong)

/-- 'keyholelaw09.ShareCombines': WHATEVER THE INPUT: true; the input reads as it did. -/
def shareCombinesSpec : ChangeSpec := { name := "shareCombines", fn := fun _ => fun
  | [d1, d2, d3] => { results := [.lit (.bool true)], args := [d1, d2, d3] }
  | _ => none }
def shareCombinesRow : OpenClaim := { program := "ytdeoibgedjbeiaa", sum := "612cb7fc7634aee8fc8f6aed443950a54f4dac003ac799b2d4657e1def377225", func := "keyhole/keyholelaw09.ShareCombines", spec := "shareCombines", unfollowed := true, recurses := true, apart := false }
def ShareCombinesSaid : Prop := shareCombinesRow.holds Try.pinned (OpenSpec.ofChange shareCombinesSpec)

/-- ITS FALSE NEIGHBOUR: 'it returns false'. Refute it at one input. -/
def shareCombinesWrong : ChangeSpec := { name := "shareCombines", fn := fun _ => fun
  | [d1, d2, d3] => { results := [.lit (.bool false)], args := [d1, d2, d3] }
  | _ => none }
def ShareCombinesWrongFalsely : Prop := shareCombinesRow.holds Try.pinned (OpenSpec.ofChange shareCombinesWrong)

/-- 'keyholelaw09.ShareHides': WHATEVER THE INPUT: true; the input reads as it did. -/
def shareHidesSpec : ChangeSpec := { name := "shareHides", fn := fun _ => fun
  | [d1, d2, d3, d4, d5, d6] => { results := [.lit (.bool true)], args := [d1, d2, d3, d4, d5, d6] }
  | _ => none }
def shareHidesRow : OpenClaim := { program := "ytdeoibgedjbeiaa", sum := "612cb7fc7634aee8fc8f6aed443950a54f4dac003ac799b2d4657e1def377225", func := "keyhole/keyholelaw09.ShareHides", spec := "shareHides", unfollowed := true, recurses := true, apart := false }
def ShareHidesSaid : Prop := shareHidesRow.holds Try.pinned (OpenSpec.ofChange shareHidesSpec)

/-- ITS FALSE NEIGHBOUR: 'it returns false'. Refute it at one input. -/
def shareHidesWrong : ChangeSpec := { name := "shareHides", fn := fun _ => fun
  | [d1, d2, d3, d4, d5, d6] => { results := [.lit (.bool false)], args := [d1, d2, d3, d4, d5, d6] }
  | _ => none }
def ShareHidesWrongFalsely : Prop := shareHidesRow.holds Try.pinned (OpenSpec.ofChange shareHidesWrong)

/- THE SECOND FORM. 'bulk': how many values and letters a reading holds, each counted each time it is reached (what is shared counts as often as it is met; a slice's spare places count too). A statement '..UptoSaid' is the law's where the arguments, and the package variables that the reading takes, are together of bulk at most 1048576: NARROWER than '..Said'. Prove '..Said' where nothing that the law and all that it calls make is longer than what came in: it says more and counts as full. Else prove '..UptoSaid'. A law counts once. -/
mutual
def uptoBulk {H : Type} : DataW H → Nat
  | .lit (.string bytes) => bytes.length + 1
  | .lit _ => 1
  | .nil => 1
  | .ptr d => uptoBulk d + 1
  | .slice elems spare => uptoBulkAll elems + uptoBulkAll spare + 1
  | .agg parts => uptoBulkAll parts + 1
  | .iface _ d => uptoBulk d + 1
  | .map entries => uptoBulkEntries entries + 1
  | .held _ => 1
def uptoBulkAll {H : Type} : List (DataW H) → Nat
  | [] => 0
  | d :: r => uptoBulk d + uptoBulkAll r
def uptoBulkEntries {H : Type} : List (Lit × DataW H) → Nat
  | [] => 0
  | x :: r => uptoBulkEntry x + uptoBulkEntries r
def uptoBulkEntry {H : Type} : Lit × DataW H → Nat
  | (.string bytes, d) => bytes.length + uptoBulk d + 1
  | (_, d) => uptoBulk d + 1
 end
def uptoSmall : (H : Type) → List (DataW H) → Bool := fun _ ds => decide (uptoBulkAll ds ≤ 1048576)
def OpenSpec.upto (s : _root_.Go.ChangeSpec) : _root_.Go.OpenSpec := { _root_.Go.OpenSpec.ofChange s with cond := some uptoSmall }

/-- 'keyholelaw07.FieldLaws', WHERE WHAT IT READS IS OF BULK AT MOST 1048576: true; the input reads as it did. -/
def fieldLawsUptoRow : OpenClaim := { program := "ytdeoibgedjbeiaa", sum := "612cb7fc7634aee8fc8f6aed443950a54f4dac003ac799b2d4657e1def377225", func := "keyhole/keyholelaw07.FieldLaws", spec := "fieldLaws", apart := false, narrowed := true }
def FieldLawsUptoSaid : Prop := fieldLawsUptoRow.holds Try.pinned (OpenSpec.upto fieldLawsSpec)

/-- 'keyholelaw07.FieldApart', WHERE WHAT IT READS IS OF BULK AT MOST 1048576: true; the input reads as it did. -/
def fieldApartUptoRow : OpenClaim := { program := "ytdeoibgedjbeiaa", sum := "612cb7fc7634aee8fc8f6aed443950a54f4dac003ac799b2d4657e1def377225", func := "keyhole/keyholelaw07.FieldApart", spec := "fieldApart", apart := false, narrowed := true }
def FieldApartUptoSaid : Prop := fieldApartUptoRow.holds Try.pinned (OpenSpec.upto fieldApartSpec)

/-- 'keyholelaw07.FieldMakes', WHERE WHAT IT READS IS OF BULK AT MOST 1048576: true; the input reads as it did. -/
def fieldMakesUptoRow : OpenClaim := { program := "ytdeoibgedjbeiaa", sum := "612cb7fc7634aee8fc8f6aed443950a54f4dac003ac799b2d4657e1def377225", func := "keyhole/keyholelaw07.FieldMakes", spec := "fieldMakes", apart := false, narrowed := true }
def FieldMakesUptoSaid : Prop := fieldMakesUptoRow.holds Try.pinned (OpenSpec.upto fieldMakesSpec)

/-- 'keyholelaw07.FieldBack', WHERE WHAT IT READS IS OF BULK AT MOST 1048576: true; the input reads as it did. -/
def fieldBackUptoRow : OpenClaim := { program := "ytdeoibgedjbeiaa", sum := "612cb7fc7634aee8fc8f6aed443950a54f4dac003ac799b2d4657e1def377225", func := "keyhole/keyholelaw07.FieldBack", spec := "fieldBack", apart := false, narrowed := true }
def FieldBackUptoSaid : Prop := fieldBackUptoRow.holds Try.pinned (OpenSpec.upto fieldBackSpec)

/-- 'keyholelaw07.FieldBytes', WHERE WHAT IT READS IS OF BULK AT MOST 1048576: true; the input reads as it did. -/
def fieldBytesUptoRow : OpenClaim := { program := "ytdeoibgedjbeiaa", sum := "612cb7fc7634aee8fc8f6aed443950a54f4dac003ac799b2d4657e1def377225", func := "keyhole/keyholelaw07.FieldBytes", spec := "fieldBytes", unfollowed := true, recurses := true, apart := false, narrowed := true }
def FieldBytesUptoSaid : Prop := fieldBytesUptoRow.holds Try.pinned (OpenSpec.upto fieldBytesSpec)

/-- 'keyholelaw08.PolyThrough', WHERE WHAT IT READS IS OF BULK AT MOST 1048576: true; the input reads as it did. -/
def polyThroughUptoRow : OpenClaim := { program := "ytdeoibgedjbeiaa", sum := "612cb7fc7634aee8fc8f6aed443950a54f4dac003ac799b2d4657e1def377225", func := "keyhole/keyholelaw08.PolyThrough", spec := "polyThrough", unfollowed := true, recurses := true, apart := false, narrowed := true }
def PolyThroughUptoSaid : Prop := polyThroughUptoRow.holds Try.pinned (OpenSpec.upto polyThroughSpec)

/-- 'keyholelaw08.PolyAt', WHERE WHAT IT READS IS OF BULK AT MOST 1048576: true; the input reads as it did. -/
def polyAtUptoRow : OpenClaim := { program := "ytdeoibgedjbeiaa", sum := "612cb7fc7634aee8fc8f6aed443950a54f4dac003ac799b2d4657e1def377225", func := "keyhole/keyholelaw08.PolyAt", spec := "polyAt", unfollowed := true, recurses := true, apart := false, narrowed := true }
def PolyAtUptoSaid : Prop := polyAtUptoRow.holds Try.pinned (OpenSpec.upto polyAtSpec)

/-- 'keyholelaw08.PolyAdds', WHERE WHAT IT READS IS OF BULK AT MOST 1048576: true; the input reads as it did. -/
def polyAddsUptoRow : OpenClaim := { program := "ytdeoibgedjbeiaa", sum := "612cb7fc7634aee8fc8f6aed443950a54f4dac003ac799b2d4657e1def377225", func := "keyhole/keyholelaw08.PolyAdds", spec := "polyAdds", unfollowed := true, recurses := true, apart := false, narrowed := true }
def PolyAddsUptoSaid : Prop := polyAddsUptoRow.holds Try.pinned (OpenSpec.upto polyAddsSpec)

/-- 'keyholelaw08.PolyZeros', WHERE WHAT IT READS IS OF BULK AT MOST 1048576: true; the input reads as it did. -/
def polyZerosUptoRow : OpenClaim := { program := "ytdeoibgedjbeiaa", sum := "612cb7fc7634aee8fc8f6aed443950a54f4dac003ac799b2d4657e1def377225", func := "keyhole/keyholelaw08.PolyZeros", spec := "polyZeros", unfollowed := true, recurses := true, apart := false, narrowed := true }
def PolyZerosUptoSaid : Prop := polyZerosUptoRow.holds Try.pinned (OpenSpec.upto polyZerosSpec)

/-- 'keyholelaw09.ShareSplits', WHERE WHAT IT READS IS OF BULK AT MOST 1048576: true; the input reads as it did. -/
def shareSplitsUptoRow : OpenClaim := { program := "ytdeoibgedjbeiaa", sum := "612cb7fc7634aee8fc8f6aed443950a54f4dac003ac799b2d4657e1def377225", func := "keyhole/keyholelaw09.ShareSplits", spec := "shareSplits", unfollowed := true, recurses := true, apart := false, narrowed := true }
def ShareSplitsUptoSaid : Prop := shareSplitsUptoRow.holds Try.pinned (OpenSpec.upto shareSplitsSpec)

/-- 'keyholelaw09.ShareAny', WHERE WHAT IT READS IS OF BULK AT MOST 1048576: true; the input reads as it did. -/
def shareAnyUptoRow : OpenClaim := { program := "ytdeoibgedjbeiaa", sum := "612cb7fc7634aee8fc8f6aed443950a54f4dac003ac799b2d4657e1def377225", func := "keyhole/keyholelaw09.ShareAny", spec := "shareAny", unfollowed := true, recurses := true, apart := false, narrowed := true }
def ShareAnyUptoSaid : Prop := shareAnyUptoRow.holds Try.pinned (OpenSpec.upto shareAnySpec)

/-- 'keyholelaw09.ShareOrder', WHERE WHAT IT READS IS OF BULK AT MOST 1048576: true; the input reads as it did. -/
def shareOrderUptoRow : OpenClaim := { program := "ytdeoibgedjbeiaa", sum := "612cb7fc7634aee8fc8f6aed443950a54f4dac003ac799b2d4657e1def377225", func := "keyhole/keyholelaw09.ShareOrder", spec := "shareOrder", unfollowed := true, recurses := true, apart := false, narrowed := true }
def ShareOrderUptoSaid : Prop := shareOrderUptoRow.holds Try.pinned (OpenSpec.upto shareOrderSpec)

/-- 'keyholelaw09.ShareSums', WHERE WHAT IT READS IS OF BULK AT MOST 1048576: true; the input reads as it did. -/
def shareSumsUptoRow : OpenClaim := { program := "ytdeoibgedjbeiaa", sum := "612cb7fc7634aee8fc8f6aed443950a54f4dac003ac799b2d4657e1def377225", func := "keyhole/keyholelaw09.ShareSums", spec := "shareSums", unfollowed := true, recurses := true, apart := false, narrowed := true }
def ShareSumsUptoSaid : Prop := shareSumsUptoRow.holds Try.pinned (OpenSpec.upto shareSumsSpec)

/-- 'keyholelaw09.ShareCombines', WHERE WHAT IT READS IS OF BULK AT MOST 1048576: true; the input reads as it did. -/
def shareCombinesUptoRow : OpenClaim := { program := "ytdeoibgedjbeiaa", sum := "612cb7fc7634aee8fc8f6aed443950a54f4dac003ac799b2d4657e1def377225", func := "keyhole/keyholelaw09.ShareCombines", spec := "shareCombines", unfollowed := true, recurses := true, apart := false, narrowed := true }
def ShareCombinesUptoSaid : Prop := shareCombinesUptoRow.holds Try.pinned (OpenSpec.upto shareCombinesSpec)

/-- 'keyholelaw09.ShareHides', WHERE WHAT IT READS IS OF BULK AT MOST 1048576: true; the input reads as it did. -/
def shareHidesUptoRow : OpenClaim := { program := "ytdeoibgedjbeiaa", sum := "612cb7fc7634aee8fc8f6aed443950a54f4dac003ac799b2d4657e1def377225", func := "keyhole/keyholelaw09.ShareHides", spec := "shareHides", unfollowed := true, recurses := true, apart := false, narrowed := true }
def ShareHidesUptoSaid : Prop := shareHidesUptoRow.holds Try.pinned (OpenSpec.upto shareHidesSpec)

end Rows
end Go.Proofs.Ytdeoibgedjbeiaa
