/-
  DERIVED. GIVEN WITH THE SEED: THE CARDS: each row of YtalhmlnmbgpleaaDoorRows.lean that lists a variable, with what it lists TIED to the program's text (the seventh form; the later family's looks); each row that meets fmt, with fmt's text TOLD by the authors' own Lean function (tested against real Go, not proved from fmt's source: count such statements apart). THE CARD IS WHAT COUNTS. Prove the row's statement (the work); the ties are given (YtalhmlnmbgpleaaDoorTie.lean); close each card by the builder's one call (the guide's Derived/Test/ToyasCard.lean, 'card_holds'). Laid BY PROGRAM, IN A SANDBOX (cutbox-door.mjs). By AI agents, Wed Nov 11 2026. No macro, syntax, notation, axiom, sorry.
-/
import Derived.Test.YtalhmlnmbgpleaaDoorRows
import GoSem.ClaimSeven
namespace Go.Proofs.YtalhmlnmbgpleaaDoor
namespace Rows

/-- THE TIED CARD OF 'simulcastlaw33.StackPlays'. -/
def stackPlaysCard : Claim7 := { stood := { row := stackPlaysRow, standIns := [], harness := (true, "6399fc4fba38014227daddd26a124d79662459d4f2427c5601d71f9acb9cc2b0"), looks := false }, kinds := [], alts := [], laidByText := true, laidKinds := [.data], laidTests := true, laidLooks := .later }
def StackPlaysCardSaid : Prop := Claim7.holds Tryd.pinned (.plain (OpenSpec.ofChange stackPlaysSpec)) stackPlaysCard

/-- THE TIED CARD OF 'simulcastlaw33.StackFew'. -/
def stackFewCard : Claim7 := { stood := { row := stackFewRow, standIns := [], harness := (true, "6399fc4fba38014227daddd26a124d79662459d4f2427c5601d71f9acb9cc2b0"), looks := false }, kinds := [], alts := [], laidByText := true, laidKinds := [.data], laidTests := true, laidLooks := .later }
def StackFewCardSaid : Prop := Claim7.holds Tryd.pinned (.plain (OpenSpec.ofChange stackFewSpec)) stackFewCard

/-- THE TIED CARD OF 'simulcastlaw33.StackBroken'. -/
def stackBrokenCard : Claim7 := { stood := { row := stackBrokenRow, standIns := [], harness := (true, "6399fc4fba38014227daddd26a124d79662459d4f2427c5601d71f9acb9cc2b0"), looks := false }, kinds := [], alts := [], laidByText := true, laidKinds := [.data], laidTests := true, laidLooks := .later }
def StackBrokenCardSaid : Prop := Claim7.holds Tryd.pinned (.plain (OpenSpec.ofChange stackBrokenSpec)) stackBrokenCard

/-- THE TIED CARD OF 'simulcastlaw33.StackTurns'. -/
def stackTurnsCard : Claim7 := { stood := { row := stackTurnsRow, standIns := [], harness := (true, "6399fc4fba38014227daddd26a124d79662459d4f2427c5601d71f9acb9cc2b0"), looks := false }, kinds := [], alts := [], laidByText := true, laidKinds := [.data], laidTests := true, laidLooks := .later }
def StackTurnsCardSaid : Prop := Claim7.holds Tryd.pinned (.plain (OpenSpec.ofChange stackTurnsSpec)) stackTurnsCard

/-- THE TIED CARD OF 'simulcastlaw33.StackNeeds'. -/
def stackNeedsCard : Claim7 := { stood := { row := stackNeedsRow, standIns := [], harness := (true, "6399fc4fba38014227daddd26a124d79662459d4f2427c5601d71f9acb9cc2b0"), looks := false }, kinds := [], alts := [], laidByText := true, laidKinds := [.data], laidTests := true, laidLooks := .later }
def StackNeedsCardSaid : Prop := Claim7.holds Tryd.pinned (.plain (OpenSpec.ofChange stackNeedsSpec)) stackNeedsCard

/-- THE TIED CARD OF 'simulcastlaw33.StackNodes'. -/
def stackNodesCard : Claim7 := { stood := { row := stackNodesRow, standIns := [], harness := (true, "6399fc4fba38014227daddd26a124d79662459d4f2427c5601d71f9acb9cc2b0"), looks := false }, kinds := [], alts := [], laidByText := true, laidKinds := [.data], laidTests := true, laidLooks := .later }
def StackNodesCardSaid : Prop := Claim7.holds Tryd.pinned (.plain (OpenSpec.ofChange stackNodesSpec)) stackNodesCard

/-- THE SECOND FORM's CARD OF 'simulcastlaw33.StackPlays'. -/
def stackPlaysUptoCard : Claim7 := { stood := { row := stackPlaysUptoRow, standIns := [], harness := (true, "6399fc4fba38014227daddd26a124d79662459d4f2427c5601d71f9acb9cc2b0"), looks := false }, kinds := [], alts := [], laidByText := true, laidKinds := [.data], laidTests := true, laidLooks := .later }
def StackPlaysUptoCardSaid : Prop := Claim7.holds Tryd.pinned (.plain (OpenSpec.upto stackPlaysSpec)) stackPlaysUptoCard

/-- THE SECOND FORM's CARD OF 'simulcastlaw33.StackFew'. -/
def stackFewUptoCard : Claim7 := { stood := { row := stackFewUptoRow, standIns := [], harness := (true, "6399fc4fba38014227daddd26a124d79662459d4f2427c5601d71f9acb9cc2b0"), looks := false }, kinds := [], alts := [], laidByText := true, laidKinds := [.data], laidTests := true, laidLooks := .later }
def StackFewUptoCardSaid : Prop := Claim7.holds Tryd.pinned (.plain (OpenSpec.upto stackFewSpec)) stackFewUptoCard

/-- THE SECOND FORM's CARD OF 'simulcastlaw33.StackBroken'. -/
def stackBrokenUptoCard : Claim7 := { stood := { row := stackBrokenUptoRow, standIns := [], harness := (true, "6399fc4fba38014227daddd26a124d79662459d4f2427c5601d71f9acb9cc2b0"), looks := false }, kinds := [], alts := [], laidByText := true, laidKinds := [.data], laidTests := true, laidLooks := .later }
def StackBrokenUptoCardSaid : Prop := Claim7.holds Tryd.pinned (.plain (OpenSpec.upto stackBrokenSpec)) stackBrokenUptoCard

/-- THE SECOND FORM's CARD OF 'simulcastlaw33.StackTurns'. -/
def stackTurnsUptoCard : Claim7 := { stood := { row := stackTurnsUptoRow, standIns := [], harness := (true, "6399fc4fba38014227daddd26a124d79662459d4f2427c5601d71f9acb9cc2b0"), looks := false }, kinds := [], alts := [], laidByText := true, laidKinds := [.data], laidTests := true, laidLooks := .later }
def StackTurnsUptoCardSaid : Prop := Claim7.holds Tryd.pinned (.plain (OpenSpec.upto stackTurnsSpec)) stackTurnsUptoCard

/-- THE SECOND FORM's CARD OF 'simulcastlaw33.StackNeeds'. -/
def stackNeedsUptoCard : Claim7 := { stood := { row := stackNeedsUptoRow, standIns := [], harness := (true, "6399fc4fba38014227daddd26a124d79662459d4f2427c5601d71f9acb9cc2b0"), looks := false }, kinds := [], alts := [], laidByText := true, laidKinds := [.data], laidTests := true, laidLooks := .later }
def StackNeedsUptoCardSaid : Prop := Claim7.holds Tryd.pinned (.plain (OpenSpec.upto stackNeedsSpec)) stackNeedsUptoCard

/-- THE SECOND FORM's CARD OF 'simulcastlaw33.StackNodes'. -/
def stackNodesUptoCard : Claim7 := { stood := { row := stackNodesUptoRow, standIns := [], harness := (true, "6399fc4fba38014227daddd26a124d79662459d4f2427c5601d71f9acb9cc2b0"), looks := false }, kinds := [], alts := [], laidByText := true, laidKinds := [.data], laidTests := true, laidLooks := .later }
def StackNodesUptoCardSaid : Prop := Claim7.holds Tryd.pinned (.plain (OpenSpec.upto stackNodesSpec)) stackNodesUptoCard
end Rows
end Go.Proofs.YtalhmlnmbgpleaaDoor
