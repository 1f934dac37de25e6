/-
  DERIVED. GIVEN WITH THE SEED: THE CARDS: each row of YtcgbnlhloopnfaaDoorRows.lean that lists a variable, with what it lists TIED to the program's text (the seventh form; the later family's looks); each row that meets fmt, with fmt's text TOLD by the authors' own Lean function (tested against real Go, not proved from fmt's source: count such statements apart). THE CARD IS WHAT COUNTS. Prove the row's statement (the work); the ties are given (YtcgbnlhloopnfaaDoorTie.lean); close each card by the builder's one call (the guide's Derived/Test/ToyasCard.lean, 'card_holds'). Laid BY PROGRAM, IN A SANDBOX (cutbox-door.mjs). By AI agents, Wed Nov 11 2026. No macro, syntax, notation, axiom, sorry.
-/
import Derived.Test.YtcgbnlhloopnfaaDoorRows
import GoSem.ClaimSeven
namespace Go.Proofs.YtcgbnlhloopnfaaDoor
namespace Rows

/-- THE TIED CARD OF 'tegulalaw46.LinearFind'. -/
def linearFindCard : Claim7 := { stood := { row := linearFindRow, standIns := [], harness := (true, "b8dafb9d199154dcf8cfe32d7444aa2546f44ecada5626d5499dda7be33089c7"), looks := false }, kinds := [], alts := [], laidByText := true, laidKinds := [.data], laidTests := true, laidLooks := .later }
def LinearFindCardSaid : Prop := Claim7.holds Tryd.pinned (.plain (OpenSpec.ofChange linearFindSpec)) linearFindCard

/-- THE TIED CARD OF 'tegulalaw46.LinearAccepts'. -/
def linearAcceptsCard : Claim7 := { stood := { row := linearAcceptsRow, standIns := [], harness := (true, "b8dafb9d199154dcf8cfe32d7444aa2546f44ecada5626d5499dda7be33089c7"), looks := false }, kinds := [], alts := [], laidByText := true, laidKinds := [.data], laidTests := true, laidLooks := .later }
def LinearAcceptsCardSaid : Prop := Claim7.holds Tryd.pinned (.plain (OpenSpec.ofChange linearAcceptsSpec)) linearAcceptsCard

/-- THE TIED CARD OF 'tegulalaw46.LinearRuns'. -/
def linearRunsCard : Claim7 := { stood := { row := linearRunsRow, standIns := [], harness := (true, "b8dafb9d199154dcf8cfe32d7444aa2546f44ecada5626d5499dda7be33089c7"), looks := false }, kinds := [], alts := [], laidByText := true, laidKinds := [.data], laidTests := true, laidLooks := .later }
def LinearRunsCardSaid : Prop := Claim7.holds Tryd.pinned (.plain (OpenSpec.ofChange linearRunsSpec)) linearRunsCard

/-- THE TIED CARD OF 'tegulalaw46.LinearPrefixes'. -/
def linearPrefixesCard : Claim7 := { stood := { row := linearPrefixesRow, standIns := [], harness := (true, "b8dafb9d199154dcf8cfe32d7444aa2546f44ecada5626d5499dda7be33089c7"), looks := false }, kinds := [], alts := [], laidByText := true, laidKinds := [.data], laidTests := true, laidLooks := .later }
def LinearPrefixesCardSaid : Prop := Claim7.holds Tryd.pinned (.plain (OpenSpec.ofChange linearPrefixesSpec)) linearPrefixesCard

/-- THE TIED CARD OF 'tegulalaw46.LinearInvented'. -/
def linearInventedCard : Claim7 := { stood := { row := linearInventedRow, standIns := [], harness := (true, "b8dafb9d199154dcf8cfe32d7444aa2546f44ecada5626d5499dda7be33089c7"), looks := false }, kinds := [], alts := [], laidByText := true, laidKinds := [.data], laidTests := true, laidLooks := .later }
def LinearInventedCardSaid : Prop := Claim7.holds Tryd.pinned (.plain (OpenSpec.ofChange linearInventedSpec)) linearInventedCard

/-- THE TIED CARD OF 'tegulalaw46.LinearSequential'. -/
def linearSequentialCard : Claim7 := { stood := { row := linearSequentialRow, standIns := [], harness := (true, "b8dafb9d199154dcf8cfe32d7444aa2546f44ecada5626d5499dda7be33089c7"), looks := false }, kinds := [], alts := [], laidByText := true, laidKinds := [.data], laidTests := true, laidLooks := .later }
def LinearSequentialCardSaid : Prop := Claim7.holds Tryd.pinned (.plain (OpenSpec.ofChange linearSequentialSpec)) linearSequentialCard

/-- THE TIED CARD OF 'tegulalaw46.LinearForced'. -/
def linearForcedCard : Claim7 := { stood := { row := linearForcedRow, standIns := [], harness := (true, "b8dafb9d199154dcf8cfe32d7444aa2546f44ecada5626d5499dda7be33089c7"), looks := false }, kinds := [], alts := [], laidByText := true, laidKinds := [.data], laidTests := true, laidLooks := .later }
def LinearForcedCardSaid : Prop := Claim7.holds Tryd.pinned (.plain (OpenSpec.ofChange linearForcedSpec)) linearForcedCard

/-- THE TIED CARD OF 'tegulalaw46.LinearLimit'. -/
def linearLimitCard : Claim7 := { stood := { row := linearLimitRow, standIns := [], harness := (true, "b8dafb9d199154dcf8cfe32d7444aa2546f44ecada5626d5499dda7be33089c7"), looks := false }, kinds := [], alts := [], laidByText := true, laidKinds := [.data], laidTests := true, laidLooks := .later }
def LinearLimitCardSaid : Prop := Claim7.holds Tryd.pinned (.plain (OpenSpec.ofChange linearLimitSpec)) linearLimitCard

/-- THE TIED CARD OF 'tegulalaw46.LinearOrdered'. -/
def linearOrderedCard : Claim7 := { stood := { row := linearOrderedRow, standIns := [], harness := (true, "b8dafb9d199154dcf8cfe32d7444aa2546f44ecada5626d5499dda7be33089c7"), looks := false }, kinds := [], alts := [], laidByText := true, laidKinds := [.data], laidTests := true, laidLooks := .later }
def LinearOrderedCardSaid : Prop := Claim7.holds Tryd.pinned (.plain (OpenSpec.ofChange linearOrderedSpec)) linearOrderedCard

/-- THE SECOND FORM's CARD OF 'tegulalaw46.LinearFind'. -/
def linearFindUptoCard : Claim7 := { stood := { row := linearFindUptoRow, standIns := [], harness := (true, "b8dafb9d199154dcf8cfe32d7444aa2546f44ecada5626d5499dda7be33089c7"), looks := false }, kinds := [], alts := [], laidByText := true, laidKinds := [.data], laidTests := true, laidLooks := .later }
def LinearFindUptoCardSaid : Prop := Claim7.holds Tryd.pinned (.plain (OpenSpec.upto linearFindSpec)) linearFindUptoCard

/-- THE SECOND FORM's CARD OF 'tegulalaw46.LinearAccepts'. -/
def linearAcceptsUptoCard : Claim7 := { stood := { row := linearAcceptsUptoRow, standIns := [], harness := (true, "b8dafb9d199154dcf8cfe32d7444aa2546f44ecada5626d5499dda7be33089c7"), looks := false }, kinds := [], alts := [], laidByText := true, laidKinds := [.data], laidTests := true, laidLooks := .later }
def LinearAcceptsUptoCardSaid : Prop := Claim7.holds Tryd.pinned (.plain (OpenSpec.upto linearAcceptsSpec)) linearAcceptsUptoCard

/-- THE SECOND FORM's CARD OF 'tegulalaw46.LinearRuns'. -/
def linearRunsUptoCard : Claim7 := { stood := { row := linearRunsUptoRow, standIns := [], harness := (true, "b8dafb9d199154dcf8cfe32d7444aa2546f44ecada5626d5499dda7be33089c7"), looks := false }, kinds := [], alts := [], laidByText := true, laidKinds := [.data], laidTests := true, laidLooks := .later }
def LinearRunsUptoCardSaid : Prop := Claim7.holds Tryd.pinned (.plain (OpenSpec.upto linearRunsSpec)) linearRunsUptoCard

/-- THE SECOND FORM's CARD OF 'tegulalaw46.LinearPrefixes'. -/
def linearPrefixesUptoCard : Claim7 := { stood := { row := linearPrefixesUptoRow, standIns := [], harness := (true, "b8dafb9d199154dcf8cfe32d7444aa2546f44ecada5626d5499dda7be33089c7"), looks := false }, kinds := [], alts := [], laidByText := true, laidKinds := [.data], laidTests := true, laidLooks := .later }
def LinearPrefixesUptoCardSaid : Prop := Claim7.holds Tryd.pinned (.plain (OpenSpec.upto linearPrefixesSpec)) linearPrefixesUptoCard

/-- THE SECOND FORM's CARD OF 'tegulalaw46.LinearInvented'. -/
def linearInventedUptoCard : Claim7 := { stood := { row := linearInventedUptoRow, standIns := [], harness := (true, "b8dafb9d199154dcf8cfe32d7444aa2546f44ecada5626d5499dda7be33089c7"), looks := false }, kinds := [], alts := [], laidByText := true, laidKinds := [.data], laidTests := true, laidLooks := .later }
def LinearInventedUptoCardSaid : Prop := Claim7.holds Tryd.pinned (.plain (OpenSpec.upto linearInventedSpec)) linearInventedUptoCard

/-- THE SECOND FORM's CARD OF 'tegulalaw46.LinearSequential'. -/
def linearSequentialUptoCard : Claim7 := { stood := { row := linearSequentialUptoRow, standIns := [], harness := (true, "b8dafb9d199154dcf8cfe32d7444aa2546f44ecada5626d5499dda7be33089c7"), looks := false }, kinds := [], alts := [], laidByText := true, laidKinds := [.data], laidTests := true, laidLooks := .later }
def LinearSequentialUptoCardSaid : Prop := Claim7.holds Tryd.pinned (.plain (OpenSpec.upto linearSequentialSpec)) linearSequentialUptoCard

/-- THE SECOND FORM's CARD OF 'tegulalaw46.LinearForced'. -/
def linearForcedUptoCard : Claim7 := { stood := { row := linearForcedUptoRow, standIns := [], harness := (true, "b8dafb9d199154dcf8cfe32d7444aa2546f44ecada5626d5499dda7be33089c7"), looks := false }, kinds := [], alts := [], laidByText := true, laidKinds := [.data], laidTests := true, laidLooks := .later }
def LinearForcedUptoCardSaid : Prop := Claim7.holds Tryd.pinned (.plain (OpenSpec.upto linearForcedSpec)) linearForcedUptoCard

/-- THE SECOND FORM's CARD OF 'tegulalaw46.LinearLimit'. -/
def linearLimitUptoCard : Claim7 := { stood := { row := linearLimitUptoRow, standIns := [], harness := (true, "b8dafb9d199154dcf8cfe32d7444aa2546f44ecada5626d5499dda7be33089c7"), looks := false }, kinds := [], alts := [], laidByText := true, laidKinds := [.data], laidTests := true, laidLooks := .later }
def LinearLimitUptoCardSaid : Prop := Claim7.holds Tryd.pinned (.plain (OpenSpec.upto linearLimitSpec)) linearLimitUptoCard

/-- THE SECOND FORM's CARD OF 'tegulalaw46.LinearOrdered'. -/
def linearOrderedUptoCard : Claim7 := { stood := { row := linearOrderedUptoRow, standIns := [], harness := (true, "b8dafb9d199154dcf8cfe32d7444aa2546f44ecada5626d5499dda7be33089c7"), looks := false }, kinds := [], alts := [], laidByText := true, laidKinds := [.data], laidTests := true, laidLooks := .later }
def LinearOrderedUptoCardSaid : Prop := Claim7.holds Tryd.pinned (.plain (OpenSpec.upto linearOrderedSpec)) linearOrderedUptoCard
end Rows
end Go.Proofs.YtcgbnlhloopnfaaDoor
