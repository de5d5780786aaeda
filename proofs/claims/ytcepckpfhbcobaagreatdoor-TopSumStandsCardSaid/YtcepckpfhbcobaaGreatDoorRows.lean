/-
  NARROWER THAN 'FOR EVERY INPUT', by the rows' own cells (each row's printed sentence says how): TopEpochs: laid · TopAllOrNothing: laid · TopSumStands: laid · TopBothWays: laid.
  DERIVED. THE GIVEN ROWS OF THIS SEAT. 4 by the template 'for every input the law returns true; each argument reads behind the call as it read before'; 0 by the template 'total and deterministic' (their statements: YtcepckpfhbcobaaGreatDoorTotals.lean).
  GIVEN WITH THE SEED: the statements are not yours to turn. If you find one false, say at which input.
  Laid BY PROGRAM, IN A SANDBOX (cutbox-rows.mjs): the forced cells as the released guide's own fill.sh prints them over the translation e7758ca8293a95c5… (all of the seat's roots in one cut). By AI agents, Wed Nov 11 2026. No macro, syntax, notation, axiom, sorry.
-/
import Derived.Test.YtcepckpfhbcobaaGreatDoorChecked
import GoSem.Claim
import GoSem.ClaimJoined
import GoSem.ClaimMapViews
import Derived.JoinedTies
import Derived.KernelRfl
namespace Go.Proofs.YtcepckpfhbcobaaGreatDoor
/- THE CELL 'sum', in the pinned program and in every row, IS THE sha256 OF THE DUMP (.gsa) THAT YtcepckpfhbcobaaGreatDoorProg.lean LOADS. Nothing in Lean hashes anything: it is a label: what it is worth is what the hold of that sum in a sandbox is worth. -/
noncomputable def Tryz.pinned : Pinned := { name := "ytcepckpfhbcobaagreatdoor", sum := "e7758ca8293a95c53ea2dab6d29f851a2cf46a42d707338be946175ea850df5e", checked := Tryz.checked }
namespace Rows
def none {H : Type} : Left H := { results := [], args := [] }

/- WHAT THE LISTED PACKAGE-LEVEL VARIABLES READ AS WHEN THE CALL BEGINS. Each datum BY PROGRAM (the guide's laid-datum.mjs) off the statement by which the dump's own 'gosem.cut.vars' lays the variable. In a bare row this is a premise. The card (YtcepckpfhbcobaaGreatDoorCards.lean) ties it to the program's text. -/
def laid_simulcast_layout_sizes {H : Type} : DataW H := .agg [.lit (.int .i64 8), .lit (.int .i64 8), .lit (.int .i64 8), .lit (.int .i64 1), .lit (.int .i64 104), .lit (.int .i64 0), .lit (.int .i64 32)]

/-- 'simulcasttop.TopEpochs': WHATEVER THE INPUT: true; the input reads as it did. -/
def topEpochsSpec : ChangeSpec := { name := "topEpochs", fn := fun _ => fun
  | [d1, d2, d3] => { results := [.lit (.bool true)], args := [d1, d2, d3] }
  | _ => none }
def topEpochsRow : OpenClaim := { program := "ytcepckpfhbcobaagreatdoor", sum := "e7758ca8293a95c53ea2dab6d29f851a2cf46a42d707338be946175ea850df5e", func := "simulcast/simulcasttop.TopEpochs", spec := "topEpochs", inPlace := ["maps.clone"], unfollowed := true, recurses := true, named := ["simulcast/layout.sizes"], apart := false, laid := [("simulcast/layout.sizes", laid_simulcast_layout_sizes)] }
def TopEpochsSaid : Prop := topEpochsRow.holds Tryz.pinned (OpenSpec.ofChange topEpochsSpec)

/-- ITS FALSE NEIGHBOUR: 'it returns false'. Refute it at one input. -/
def topEpochsWrong : ChangeSpec := { name := "topEpochs", fn := fun _ => fun
  | [d1, d2, d3] => { results := [.lit (.bool false)], args := [d1, d2, d3] }
  | _ => none }
def TopEpochsWrongFalsely : Prop := topEpochsRow.holds Tryz.pinned (OpenSpec.ofChange topEpochsWrong)

/-- 'simulcasttop.TopAllOrNothing': WHATEVER THE INPUT: true; the input reads as it did. -/
def topAllOrNothingSpec : ChangeSpec := { name := "topAllOrNothing", fn := fun _ => fun
  | [d1, d2, d3] => { results := [.lit (.bool true)], args := [d1, d2, d3] }
  | _ => none }
def topAllOrNothingRow : OpenClaim := { program := "ytcepckpfhbcobaagreatdoor", sum := "e7758ca8293a95c53ea2dab6d29f851a2cf46a42d707338be946175ea850df5e", func := "simulcast/simulcasttop.TopAllOrNothing", spec := "topAllOrNothing", inPlace := ["maps.clone"], unfollowed := true, recurses := true, named := ["simulcast/layout.sizes"], apart := false, laid := [("simulcast/layout.sizes", laid_simulcast_layout_sizes)] }
def TopAllOrNothingSaid : Prop := topAllOrNothingRow.holds Tryz.pinned (OpenSpec.ofChange topAllOrNothingSpec)

/-- ITS FALSE NEIGHBOUR: 'it returns false'. Refute it at one input. -/
def topAllOrNothingWrong : ChangeSpec := { name := "topAllOrNothing", fn := fun _ => fun
  | [d1, d2, d3] => { results := [.lit (.bool false)], args := [d1, d2, d3] }
  | _ => none }
def TopAllOrNothingWrongFalsely : Prop := topAllOrNothingRow.holds Tryz.pinned (OpenSpec.ofChange topAllOrNothingWrong)

/-- 'simulcasttop.TopSumStands': WHATEVER THE INPUT: true; the input reads as it did. -/
def topSumStandsSpec : ChangeSpec := { name := "topSumStands", fn := fun _ => fun
  | [d1, d2, d3] => { results := [.lit (.bool true)], args := [d1, d2, d3] }
  | _ => none }
def topSumStandsRow : OpenClaim := { program := "ytcepckpfhbcobaagreatdoor", sum := "e7758ca8293a95c53ea2dab6d29f851a2cf46a42d707338be946175ea850df5e", func := "simulcast/simulcasttop.TopSumStands", spec := "topSumStands", inPlace := ["maps.clone"], unfollowed := true, recurses := true, named := ["simulcast/layout.sizes"], apart := false, laid := [("simulcast/layout.sizes", laid_simulcast_layout_sizes)] }
def TopSumStandsSaid : Prop := topSumStandsRow.holds Tryz.pinned (OpenSpec.ofChange topSumStandsSpec)

/-- ITS FALSE NEIGHBOUR: 'it returns false'. Refute it at one input. -/
def topSumStandsWrong : ChangeSpec := { name := "topSumStands", fn := fun _ => fun
  | [d1, d2, d3] => { results := [.lit (.bool false)], args := [d1, d2, d3] }
  | _ => none }
def TopSumStandsWrongFalsely : Prop := topSumStandsRow.holds Tryz.pinned (OpenSpec.ofChange topSumStandsWrong)

/-- 'simulcasttop.TopBothWays': WHATEVER THE INPUT: true; the input reads as it did. -/
def topBothWaysSpec : ChangeSpec := { name := "topBothWays", fn := fun _ => fun
  | [d1, d2, d3] => { results := [.lit (.bool true)], args := [d1, d2, d3] }
  | _ => none }
def topBothWaysRow : OpenClaim := { program := "ytcepckpfhbcobaagreatdoor", sum := "e7758ca8293a95c53ea2dab6d29f851a2cf46a42d707338be946175ea850df5e", func := "simulcast/simulcasttop.TopBothWays", spec := "topBothWays", inPlace := ["maps.clone"], unfollowed := true, recurses := true, named := ["simulcast/layout.sizes"], apart := false, laid := [("simulcast/layout.sizes", laid_simulcast_layout_sizes)] }
def TopBothWaysSaid : Prop := topBothWaysRow.holds Tryz.pinned (OpenSpec.ofChange topBothWaysSpec)

/-- ITS FALSE NEIGHBOUR: 'it returns false'. Refute it at one input. -/
def topBothWaysWrong : ChangeSpec := { name := "topBothWays", fn := fun _ => fun
  | [d1, d2, d3] => { results := [.lit (.bool false)], args := [d1, d2, d3] }
  | _ => none }
def TopBothWaysWrongFalsely : Prop := topBothWaysRow.holds Tryz.pinned (OpenSpec.ofChange topBothWaysWrong)

/- THE SECOND FORM. 'bulk': how many values and letters a reading holds, each counted each time it is reached (what is shared counts as often as it is met; a slice's spare places count too). A statement '..UptoSaid' is the law's where the arguments, and the package variables that the reading takes, are together of bulk at most 1048576: NARROWER than '..Said'. Prove '..Said' where nothing that the law and all that it calls make is longer than what came in: it says more and counts as full. Else prove '..UptoSaid'. A law counts once. -/
mutual
def uptoBulk {H : Type} : DataW H → Nat
  | .lit (.string bytes) => bytes.length + 1
  | .lit _ => 1
  | .nil => 1
  | .ptr d => uptoBulk d + 1
  | .slice elems spare => uptoBulkAll elems + uptoBulkAll spare + 1
  | .agg parts => uptoBulkAll parts + 1
  | .iface _ d => uptoBulk d + 1
  | .map entries => uptoBulkEntries entries + 1
  | .held _ => 1
def uptoBulkAll {H : Type} : List (DataW H) → Nat
  | [] => 0
  | d :: r => uptoBulk d + uptoBulkAll r
def uptoBulkEntries {H : Type} : List (Lit × DataW H) → Nat
  | [] => 0
  | x :: r => uptoBulkEntry x + uptoBulkEntries r
def uptoBulkEntry {H : Type} : Lit × DataW H → Nat
  | (.string bytes, d) => bytes.length + uptoBulk d + 1
  | (_, d) => uptoBulk d + 1
 end
def uptoSmall : (H : Type) → List (DataW H) → Bool := fun _ ds => decide (uptoBulkAll ds ≤ 1048576)
def OpenSpec.upto (s : _root_.Go.ChangeSpec) : _root_.Go.OpenSpec := { _root_.Go.OpenSpec.ofChange s with cond := some uptoSmall }

/-- 'simulcasttop.TopEpochs', WHERE WHAT IT READS IS OF BULK AT MOST 1048576: true; the input reads as it did. -/
def topEpochsUptoRow : OpenClaim := { program := "ytcepckpfhbcobaagreatdoor", sum := "e7758ca8293a95c53ea2dab6d29f851a2cf46a42d707338be946175ea850df5e", func := "simulcast/simulcasttop.TopEpochs", spec := "topEpochs", inPlace := ["maps.clone"], unfollowed := true, recurses := true, named := ["simulcast/layout.sizes"], apart := false, laid := [("simulcast/layout.sizes", laid_simulcast_layout_sizes)], narrowed := true }
def TopEpochsUptoSaid : Prop := topEpochsUptoRow.holds Tryz.pinned (OpenSpec.upto topEpochsSpec)

/-- 'simulcasttop.TopAllOrNothing', WHERE WHAT IT READS IS OF BULK AT MOST 1048576: true; the input reads as it did. -/
def topAllOrNothingUptoRow : OpenClaim := { program := "ytcepckpfhbcobaagreatdoor", sum := "e7758ca8293a95c53ea2dab6d29f851a2cf46a42d707338be946175ea850df5e", func := "simulcast/simulcasttop.TopAllOrNothing", spec := "topAllOrNothing", inPlace := ["maps.clone"], unfollowed := true, recurses := true, named := ["simulcast/layout.sizes"], apart := false, laid := [("simulcast/layout.sizes", laid_simulcast_layout_sizes)], narrowed := true }
def TopAllOrNothingUptoSaid : Prop := topAllOrNothingUptoRow.holds Tryz.pinned (OpenSpec.upto topAllOrNothingSpec)

/-- 'simulcasttop.TopSumStands', WHERE WHAT IT READS IS OF BULK AT MOST 1048576: true; the input reads as it did. -/
def topSumStandsUptoRow : OpenClaim := { program := "ytcepckpfhbcobaagreatdoor", sum := "e7758ca8293a95c53ea2dab6d29f851a2cf46a42d707338be946175ea850df5e", func := "simulcast/simulcasttop.TopSumStands", spec := "topSumStands", inPlace := ["maps.clone"], unfollowed := true, recurses := true, named := ["simulcast/layout.sizes"], apart := false, laid := [("simulcast/layout.sizes", laid_simulcast_layout_sizes)], narrowed := true }
def TopSumStandsUptoSaid : Prop := topSumStandsUptoRow.holds Tryz.pinned (OpenSpec.upto topSumStandsSpec)

/-- 'simulcasttop.TopBothWays', WHERE WHAT IT READS IS OF BULK AT MOST 1048576: true; the input reads as it did. -/
def topBothWaysUptoRow : OpenClaim := { program := "ytcepckpfhbcobaagreatdoor", sum := "e7758ca8293a95c53ea2dab6d29f851a2cf46a42d707338be946175ea850df5e", func := "simulcast/simulcasttop.TopBothWays", spec := "topBothWays", inPlace := ["maps.clone"], unfollowed := true, recurses := true, named := ["simulcast/layout.sizes"], apart := false, laid := [("simulcast/layout.sizes", laid_simulcast_layout_sizes)], narrowed := true }
def TopBothWaysUptoSaid : Prop := topBothWaysUptoRow.holds Tryz.pinned (OpenSpec.upto topBothWaysSpec)

end Rows
end Go.Proofs.YtcepckpfhbcobaaGreatDoor
