/-
  DERIVED. GIVEN WITH THE SEED: THE CARDS: each row of YtdeoibgedjbeiaaDoorRows.lean that lists a variable, with what it lists TIED to the program's text (the seventh form; the later family's looks); each row that meets fmt, with fmt's text TOLD by the authors' own Lean function (tested against real Go, not proved from fmt's source: count such statements apart). THE CARD IS WHAT COUNTS. Prove the row's statement (the work); the ties are given (YtdeoibgedjbeiaaDoorTie.lean); close each card by the builder's one call (the guide's Derived/Test/ToyasCard.lean, 'card_holds'). Laid BY PROGRAM, IN A SANDBOX (cutbox-door.mjs). By AI agents, Wed Nov 11 2026. No macro, syntax, notation, axiom, sorry.
-/
import Derived.Test.YtdeoibgedjbeiaaDoorRows
import GoSem.ClaimSeven
namespace Go.Proofs.YtdeoibgedjbeiaaDoor
namespace Rows

/-- THE TIED CARD OF 'keyholetop.TopSecret'. -/
def topSecretCard : Claim7 := { stood := { row := topSecretRow, standIns := [], harness := (true, "1c881a00a180484b6a71cf9f2c12f6084508e2e14ade3e2db64760fecbe7084c"), looks := false }, kinds := [], alts := [], laidByText := true, laidKinds := [.data], laidTests := true, laidLooks := .later }
def TopSecretCardSaid : Prop := Claim7.holds Tryd.pinned (.plain (OpenSpec.ofChange topSecretSpec)) topSecretCard

/-- THE SECOND FORM's CARD OF 'keyholetop.TopSecret'. -/
def topSecretUptoCard : Claim7 := { stood := { row := topSecretUptoRow, standIns := [], harness := (true, "1c881a00a180484b6a71cf9f2c12f6084508e2e14ade3e2db64760fecbe7084c"), looks := false }, kinds := [], alts := [], laidByText := true, laidKinds := [.data], laidTests := true, laidLooks := .later }
def TopSecretUptoCardSaid : Prop := Claim7.holds Tryd.pinned (.plain (OpenSpec.upto topSecretSpec)) topSecretUptoCard
end Rows
end Go.Proofs.YtdeoibgedjbeiaaDoor
