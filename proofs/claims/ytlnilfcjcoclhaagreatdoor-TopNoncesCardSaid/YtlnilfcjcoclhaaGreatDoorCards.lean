/-
  DERIVED. GIVEN WITH THE SEED: THE CARDS: each row of YtlnilfcjcoclhaaGreatDoorRows.lean that lists a variable, with what it lists TIED to the program's text (the seventh form; the later family's looks); each row that meets fmt, with fmt's text TOLD by the authors' own Lean function (tested against real Go, not proved from fmt's source: count such statements apart). THE CARD IS WHAT COUNTS. Prove the row's statement (the work); the ties are given (YtlnilfcjcoclhaaGreatDoorTie.lean); close each card by the builder's one call (the guide's Derived/Test/ToyasCard.lean, 'card_holds'). Laid BY PROGRAM, IN A SANDBOX (cutbox-door.mjs). By AI agents, Wed Nov 11 2026. No macro, syntax, notation, axiom, sorry.
-/
import Derived.Test.YtlnilfcjcoclhaaGreatDoorRows
import GoSem.ClaimSeven
namespace Go.Proofs.YtlnilfcjcoclhaaGreatDoor
namespace Rows

/-- THE TIED CARD OF 'keyholetop.TopNonces'. -/
def topNoncesCard : Claim7 := { stood := { row := topNoncesRow, standIns := [], harness := (true, "4beb6e72ad31d42915dd41db4998c1f56c1e9195d36473980c4fb2364e7209af"), looks := false }, kinds := [], alts := [], laidByText := true, laidKinds := [.data, .data, .data, .data, .data], laidTests := true, laidLooks := .later }
def TopNoncesCardSaid : Prop := Claim7.holds Tryz.pinned (.plain (OpenSpec.ofChange topNoncesSpec)) topNoncesCard

/-- THE SECOND FORM's CARD OF 'keyholetop.TopNonces'. -/
def topNoncesUptoCard : Claim7 := { stood := { row := topNoncesUptoRow, standIns := [], harness := (true, "4beb6e72ad31d42915dd41db4998c1f56c1e9195d36473980c4fb2364e7209af"), looks := false }, kinds := [], alts := [], laidByText := true, laidKinds := [.data, .data, .data, .data, .data], laidTests := true, laidLooks := .later }
def TopNoncesUptoCardSaid : Prop := Claim7.holds Tryz.pinned (.plain (OpenSpec.upto topNoncesSpec)) topNoncesUptoCard
end Rows
end Go.Proofs.YtlnilfcjcoclhaaGreatDoor
