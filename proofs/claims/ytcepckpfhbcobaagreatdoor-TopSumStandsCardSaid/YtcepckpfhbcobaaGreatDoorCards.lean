/-
  DERIVED. GIVEN WITH THE SEED: THE CARDS: each row of YtcepckpfhbcobaaGreatDoorRows.lean that lists a variable, with what it lists TIED to the program's text (the seventh form; the later family's looks); each row that meets fmt, with fmt's text TOLD by the authors' own Lean function (tested against real Go, not proved from fmt's source: count such statements apart). THE CARD IS WHAT COUNTS. Prove the row's statement (the work); the ties are given (YtcepckpfhbcobaaGreatDoorTie.lean); close each card by the builder's one call (the guide's Derived/Test/ToyasCard.lean, 'card_holds'). Laid BY PROGRAM, IN A SANDBOX (cutbox-door.mjs). By AI agents, Wed Nov 11 2026. No macro, syntax, notation, axiom, sorry.
-/
import Derived.Test.YtcepckpfhbcobaaGreatDoorRows
import GoSem.ClaimSeven
namespace Go.Proofs.YtcepckpfhbcobaaGreatDoor
namespace Rows

/-- THE TIED CARD OF 'simulcasttop.TopEpochs'. -/
def topEpochsCard : Claim7 := { stood := { row := topEpochsRow, standIns := [], harness := (true, "939c6f765fe61d43686abe25b9cf55a0a732e8f86028a908e600bbd7815e5e5a"), looks := true }, kinds := [], alts := [], laidByText := true, laidKinds := [.data], laidTests := true, laidLooks := .later }
def TopEpochsCardSaid : Prop := Claim7.holds Tryz.pinned (.plain (OpenSpec.ofChange topEpochsSpec)) topEpochsCard

/-- THE TIED CARD OF 'simulcasttop.TopAllOrNothing'. -/
def topAllOrNothingCard : Claim7 := { stood := { row := topAllOrNothingRow, standIns := [], harness := (true, "939c6f765fe61d43686abe25b9cf55a0a732e8f86028a908e600bbd7815e5e5a"), looks := true }, kinds := [], alts := [], laidByText := true, laidKinds := [.data], laidTests := true, laidLooks := .later }
def TopAllOrNothingCardSaid : Prop := Claim7.holds Tryz.pinned (.plain (OpenSpec.ofChange topAllOrNothingSpec)) topAllOrNothingCard

/-- THE TIED CARD OF 'simulcasttop.TopSumStands'. -/
def topSumStandsCard : Claim7 := { stood := { row := topSumStandsRow, standIns := [], harness := (true, "939c6f765fe61d43686abe25b9cf55a0a732e8f86028a908e600bbd7815e5e5a"), looks := true }, kinds := [], alts := [], laidByText := true, laidKinds := [.data], laidTests := true, laidLooks := .later }
def TopSumStandsCardSaid : Prop := Claim7.holds Tryz.pinned (.plain (OpenSpec.ofChange topSumStandsSpec)) topSumStandsCard

/-- THE TIED CARD OF 'simulcasttop.TopBothWays'. -/
def topBothWaysCard : Claim7 := { stood := { row := topBothWaysRow, standIns := [], harness := (true, "939c6f765fe61d43686abe25b9cf55a0a732e8f86028a908e600bbd7815e5e5a"), looks := true }, kinds := [], alts := [], laidByText := true, laidKinds := [.data], laidTests := true, laidLooks := .later }
def TopBothWaysCardSaid : Prop := Claim7.holds Tryz.pinned (.plain (OpenSpec.ofChange topBothWaysSpec)) topBothWaysCard

/-- THE SECOND FORM's CARD OF 'simulcasttop.TopEpochs'. -/
def topEpochsUptoCard : Claim7 := { stood := { row := topEpochsUptoRow, standIns := [], harness := (true, "939c6f765fe61d43686abe25b9cf55a0a732e8f86028a908e600bbd7815e5e5a"), looks := true }, kinds := [], alts := [], laidByText := true, laidKinds := [.data], laidTests := true, laidLooks := .later }
def TopEpochsUptoCardSaid : Prop := Claim7.holds Tryz.pinned (.plain (OpenSpec.upto topEpochsSpec)) topEpochsUptoCard

/-- THE SECOND FORM's CARD OF 'simulcasttop.TopAllOrNothing'. -/
def topAllOrNothingUptoCard : Claim7 := { stood := { row := topAllOrNothingUptoRow, standIns := [], harness := (true, "939c6f765fe61d43686abe25b9cf55a0a732e8f86028a908e600bbd7815e5e5a"), looks := true }, kinds := [], alts := [], laidByText := true, laidKinds := [.data], laidTests := true, laidLooks := .later }
def TopAllOrNothingUptoCardSaid : Prop := Claim7.holds Tryz.pinned (.plain (OpenSpec.upto topAllOrNothingSpec)) topAllOrNothingUptoCard

/-- THE SECOND FORM's CARD OF 'simulcasttop.TopSumStands'. -/
def topSumStandsUptoCard : Claim7 := { stood := { row := topSumStandsUptoRow, standIns := [], harness := (true, "939c6f765fe61d43686abe25b9cf55a0a732e8f86028a908e600bbd7815e5e5a"), looks := true }, kinds := [], alts := [], laidByText := true, laidKinds := [.data], laidTests := true, laidLooks := .later }
def TopSumStandsUptoCardSaid : Prop := Claim7.holds Tryz.pinned (.plain (OpenSpec.upto topSumStandsSpec)) topSumStandsUptoCard

/-- THE SECOND FORM's CARD OF 'simulcasttop.TopBothWays'. -/
def topBothWaysUptoCard : Claim7 := { stood := { row := topBothWaysUptoRow, standIns := [], harness := (true, "939c6f765fe61d43686abe25b9cf55a0a732e8f86028a908e600bbd7815e5e5a"), looks := true }, kinds := [], alts := [], laidByText := true, laidKinds := [.data], laidTests := true, laidLooks := .later }
def TopBothWaysUptoCardSaid : Prop := Claim7.holds Tryz.pinned (.plain (OpenSpec.upto topBothWaysSpec)) topBothWaysUptoCard
end Rows
end Go.Proofs.YtcepckpfhbcobaaGreatDoor
