/-
  DERIVED. GIVEN WITH THE SEED: THE CARDS: each row of YtopoefcklipaeaaGreatDoorRows.lean that lists a variable, with what it lists TIED to the program's text (the seventh form; the later family's looks); each row that meets fmt, with fmt's text TOLD by the authors' own Lean function (tested against real Go, not proved from fmt's source: count such statements apart). THE CARD IS WHAT COUNTS. Prove the row's statement (the work); the ties are given (YtopoefcklipaeaaGreatDoorTie.lean); close each card by the builder's one call (the guide's Derived/Test/ToyasCard.lean, 'card_holds'). Laid BY PROGRAM, IN A SANDBOX (cutbox-door.mjs). By AI agents, Wed Nov 11 2026. No macro, syntax, notation, axiom, sorry.
-/
import Derived.Test.YtopoefcklipaeaaGreatDoorRows
import GoSem.ClaimSeven
namespace Go.Proofs.YtopoefcklipaeaaGreatDoor
namespace Rows

/-- THE TIED CARD OF 'tegulatop.WholeRoots'. -/
def wholeRootsCard : Claim7 := { stood := { row := wholeRootsRow, standIns := [], harness := (true, "a69a909821e0ed5ccb73c570b7946d521293c094a6ab3ba5912787281bcf24bd"), looks := true }, kinds := [], alts := [], laidByText := true, laidKinds := [.data, .data, .pinned], laidTests := true, laidLooks := .later }
def WholeRootsCardSaid : Prop := Claim7.holds Tryz.pinned (.plain (OpenSpec.ofChange wholeRootsSpec)) wholeRootsCard

/-- THE SECOND FORM's CARD OF 'tegulatop.WholeRoots'. -/
def wholeRootsUptoCard : Claim7 := { stood := { row := wholeRootsUptoRow, standIns := [], harness := (true, "a69a909821e0ed5ccb73c570b7946d521293c094a6ab3ba5912787281bcf24bd"), looks := true }, kinds := [], alts := [], laidByText := true, laidKinds := [.data, .data, .pinned], laidTests := true, laidLooks := .later }
def WholeRootsUptoCardSaid : Prop := Claim7.holds Tryz.pinned (.plain (OpenSpec.upto wholeRootsSpec)) wholeRootsUptoCard
end Rows
end Go.Proofs.YtopoefcklipaeaaGreatDoor
