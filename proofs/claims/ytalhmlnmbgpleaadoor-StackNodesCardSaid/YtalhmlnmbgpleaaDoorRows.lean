/-
  NARROWER THAN 'FOR EVERY INPUT', by the rows' own cells (each row's printed sentence says how): StackPlays: laid · StackFew: laid · StackBroken: laid · StackTurns: laid · StackNeeds: laid · StackNodes: laid.
  DERIVED. THE GIVEN ROWS OF THIS SEAT. 6 by the template 'for every input the law returns true; each argument reads behind the call as it read before'; 0 by the template 'total and deterministic' (their statements: YtalhmlnmbgpleaaDoorTotals.lean).
  GIVEN WITH THE SEED: the statements are not yours to turn. If you find one false, say at which input.
  Laid BY PROGRAM, IN A SANDBOX (cutbox-rows.mjs): the forced cells as the released guide's own fill.sh prints them over the translation b24dde8e20962ac5… (all of the seat's roots in one cut). By AI agents, Wed Nov 11 2026. No macro, syntax, notation, axiom, sorry.
-/
import Derived.Test.YtalhmlnmbgpleaaDoorChecked
import GoSem.Claim
import GoSem.ClaimJoined
import GoSem.ClaimMapViews
import Derived.JoinedTies
import Derived.KernelRfl
namespace Go.Proofs.YtalhmlnmbgpleaaDoor
/- THE CELL 'sum', in the pinned program and in every row, IS THE sha256 OF THE DUMP (.gsa) THAT YtalhmlnmbgpleaaDoorProg.lean LOADS. Nothing in Lean hashes anything: it is a label: what it is worth is what the hold of that sum in a sandbox is worth. -/
noncomputable def Tryd.pinned : Pinned := { name := "ytalhmlnmbgpleaadoor", sum := "b24dde8e20962ac56dceb7034197cf04eb9fdac810e6f7f8d3360db064a31a56", checked := Tryd.checked }
namespace Rows
def none {H : Type} : Left H := { results := [], args := [] }

/- WHAT THE LISTED PACKAGE-LEVEL VARIABLES READ AS WHEN THE CALL BEGINS. Each datum BY PROGRAM (the guide's laid-datum.mjs) off the statement by which the dump's own 'gosem.cut.vars' lays the variable. In a bare row this is a premise. The card (YtalhmlnmbgpleaaDoorCards.lean) ties it to the program's text. -/
def laid_simulcast_simulcastlaw33_roots {H : Type} : DataW H := .agg [.lit (.int .i64 8), .lit (.int .i64 16)]

/-- 'simulcastlaw33.StackPlays': WHATEVER THE INPUT: true; the input reads as it did. -/
def stackPlaysSpec : ChangeSpec := { name := "stackPlays", fn := fun _ => fun
  | [d1, d2] => { results := [.lit (.bool true)], args := [d1, d2] }
  | _ => none }
def stackPlaysRow : OpenClaim := { program := "ytalhmlnmbgpleaadoor", sum := "b24dde8e20962ac56dceb7034197cf04eb9fdac810e6f7f8d3360db064a31a56", func := "simulcast/simulcastlaw33.StackPlays", spec := "stackPlays", unfollowed := true, recurses := true, named := ["simulcast/simulcastlaw33.roots"], apart := false, laid := [("simulcast/simulcastlaw33.roots", laid_simulcast_simulcastlaw33_roots)] }
def StackPlaysSaid : Prop := stackPlaysRow.holds Tryd.pinned (OpenSpec.ofChange stackPlaysSpec)

/-- ITS FALSE NEIGHBOUR: 'it returns false'. Refute it at one input. -/
def stackPlaysWrong : ChangeSpec := { name := "stackPlays", fn := fun _ => fun
  | [d1, d2] => { results := [.lit (.bool false)], args := [d1, d2] }
  | _ => none }
def StackPlaysWrongFalsely : Prop := stackPlaysRow.holds Tryd.pinned (OpenSpec.ofChange stackPlaysWrong)

/-- 'simulcastlaw33.StackFew': WHATEVER THE INPUT: true; the input reads as it did. -/
def stackFewSpec : ChangeSpec := { name := "stackFew", fn := fun _ => fun
  | [d1, d2, d3] => { results := [.lit (.bool true)], args := [d1, d2, d3] }
  | _ => none }
def stackFewRow : OpenClaim := { program := "ytalhmlnmbgpleaadoor", sum := "b24dde8e20962ac56dceb7034197cf04eb9fdac810e6f7f8d3360db064a31a56", func := "simulcast/simulcastlaw33.StackFew", spec := "stackFew", unfollowed := true, recurses := true, named := ["simulcast/simulcastlaw33.roots"], apart := false, laid := [("simulcast/simulcastlaw33.roots", laid_simulcast_simulcastlaw33_roots)] }
def StackFewSaid : Prop := stackFewRow.holds Tryd.pinned (OpenSpec.ofChange stackFewSpec)

/-- ITS FALSE NEIGHBOUR: 'it returns false'. Refute it at one input. -/
def stackFewWrong : ChangeSpec := { name := "stackFew", fn := fun _ => fun
  | [d1, d2, d3] => { results := [.lit (.bool false)], args := [d1, d2, d3] }
  | _ => none }
def StackFewWrongFalsely : Prop := stackFewRow.holds Tryd.pinned (OpenSpec.ofChange stackFewWrong)

/-- 'simulcastlaw33.StackBroken': WHATEVER THE INPUT: true; the input reads as it did. -/
def stackBrokenSpec : ChangeSpec := { name := "stackBroken", fn := fun _ => fun
  | [d1, d2, d3] => { results := [.lit (.bool true)], args := [d1, d2, d3] }
  | _ => none }
def stackBrokenRow : OpenClaim := { program := "ytalhmlnmbgpleaadoor", sum := "b24dde8e20962ac56dceb7034197cf04eb9fdac810e6f7f8d3360db064a31a56", func := "simulcast/simulcastlaw33.StackBroken", spec := "stackBroken", unfollowed := true, recurses := true, named := ["simulcast/simulcastlaw33.roots"], apart := false, laid := [("simulcast/simulcastlaw33.roots", laid_simulcast_simulcastlaw33_roots)] }
def StackBrokenSaid : Prop := stackBrokenRow.holds Tryd.pinned (OpenSpec.ofChange stackBrokenSpec)

/-- ITS FALSE NEIGHBOUR: 'it returns false'. Refute it at one input. -/
def stackBrokenWrong : ChangeSpec := { name := "stackBroken", fn := fun _ => fun
  | [d1, d2, d3] => { results := [.lit (.bool false)], args := [d1, d2, d3] }
  | _ => none }
def StackBrokenWrongFalsely : Prop := stackBrokenRow.holds Tryd.pinned (OpenSpec.ofChange stackBrokenWrong)

/-- 'simulcastlaw33.StackTurns': WHATEVER THE INPUT: true; the input reads as it did. -/
def stackTurnsSpec : ChangeSpec := { name := "stackTurns", fn := fun _ => fun
  | [d1, d2, d3] => { results := [.lit (.bool true)], args := [d1, d2, d3] }
  | _ => none }
def stackTurnsRow : OpenClaim := { program := "ytalhmlnmbgpleaadoor", sum := "b24dde8e20962ac56dceb7034197cf04eb9fdac810e6f7f8d3360db064a31a56", func := "simulcast/simulcastlaw33.StackTurns", spec := "stackTurns", unfollowed := true, recurses := true, named := ["simulcast/simulcastlaw33.roots"], apart := false, laid := [("simulcast/simulcastlaw33.roots", laid_simulcast_simulcastlaw33_roots)] }
def StackTurnsSaid : Prop := stackTurnsRow.holds Tryd.pinned (OpenSpec.ofChange stackTurnsSpec)

/-- ITS FALSE NEIGHBOUR: 'it returns false'. Refute it at one input. -/
def stackTurnsWrong : ChangeSpec := { name := "stackTurns", fn := fun _ => fun
  | [d1, d2, d3] => { results := [.lit (.bool false)], args := [d1, d2, d3] }
  | _ => none }
def StackTurnsWrongFalsely : Prop := stackTurnsRow.holds Tryd.pinned (OpenSpec.ofChange stackTurnsWrong)

/-- 'simulcastlaw33.StackNeeds': WHATEVER THE INPUT: true; the input reads as it did. -/
def stackNeedsSpec : ChangeSpec := { name := "stackNeeds", fn := fun _ => fun
  | [d1, d2, d3] => { results := [.lit (.bool true)], args := [d1, d2, d3] }
  | _ => none }
def stackNeedsRow : OpenClaim := { program := "ytalhmlnmbgpleaadoor", sum := "b24dde8e20962ac56dceb7034197cf04eb9fdac810e6f7f8d3360db064a31a56", func := "simulcast/simulcastlaw33.StackNeeds", spec := "stackNeeds", unfollowed := true, recurses := true, named := ["simulcast/simulcastlaw33.roots"], apart := false, laid := [("simulcast/simulcastlaw33.roots", laid_simulcast_simulcastlaw33_roots)] }
def StackNeedsSaid : Prop := stackNeedsRow.holds Tryd.pinned (OpenSpec.ofChange stackNeedsSpec)

/-- ITS FALSE NEIGHBOUR: 'it returns false'. Refute it at one input. -/
def stackNeedsWrong : ChangeSpec := { name := "stackNeeds", fn := fun _ => fun
  | [d1, d2, d3] => { results := [.lit (.bool false)], args := [d1, d2, d3] }
  | _ => none }
def StackNeedsWrongFalsely : Prop := stackNeedsRow.holds Tryd.pinned (OpenSpec.ofChange stackNeedsWrong)

/-- 'simulcastlaw33.StackNodes': WHATEVER THE INPUT: true; the input reads as it did. -/
def stackNodesSpec : ChangeSpec := { name := "stackNodes", fn := fun _ => fun
  | [d1, d2] => { results := [.lit (.bool true)], args := [d1, d2] }
  | _ => none }
def stackNodesRow : OpenClaim := { program := "ytalhmlnmbgpleaadoor", sum := "b24dde8e20962ac56dceb7034197cf04eb9fdac810e6f7f8d3360db064a31a56", func := "simulcast/simulcastlaw33.StackNodes", spec := "stackNodes", unfollowed := true, recurses := true, named := ["simulcast/simulcastlaw33.roots"], apart := false, laid := [("simulcast/simulcastlaw33.roots", laid_simulcast_simulcastlaw33_roots)] }
def StackNodesSaid : Prop := stackNodesRow.holds Tryd.pinned (OpenSpec.ofChange stackNodesSpec)

/-- ITS FALSE NEIGHBOUR: 'it returns false'. Refute it at one input. -/
def stackNodesWrong : ChangeSpec := { name := "stackNodes", fn := fun _ => fun
  | [d1, d2] => { results := [.lit (.bool false)], args := [d1, d2] }
  | _ => none }
def StackNodesWrongFalsely : Prop := stackNodesRow.holds Tryd.pinned (OpenSpec.ofChange stackNodesWrong)

/- THE SECOND FORM. 'bulk': how many values and letters a reading holds, each counted each time it is reached (what is shared counts as often as it is met; a slice's spare places count too). A statement '..UptoSaid' is the law's where the arguments, and the package variables that the reading takes, are together of bulk at most 1048576: NARROWER than '..Said'. Prove '..Said' where nothing that the law and all that it calls make is longer than what came in: it says more and counts as full. Else prove '..UptoSaid'. A law counts once. -/
mutual
def uptoBulk {H : Type} : DataW H → Nat
  | .lit (.string bytes) => bytes.length + 1
  | .lit _ => 1
  | .nil => 1
  | .ptr d => uptoBulk d + 1
  | .slice elems spare => uptoBulkAll elems + uptoBulkAll spare + 1
  | .agg parts => uptoBulkAll parts + 1
  | .iface _ d => uptoBulk d + 1
  | .map entries => uptoBulkEntries entries + 1
  | .held _ => 1
def uptoBulkAll {H : Type} : List (DataW H) → Nat
  | [] => 0
  | d :: r => uptoBulk d + uptoBulkAll r
def uptoBulkEntries {H : Type} : List (Lit × DataW H) → Nat
  | [] => 0
  | x :: r => uptoBulkEntry x + uptoBulkEntries r
def uptoBulkEntry {H : Type} : Lit × DataW H → Nat
  | (.string bytes, d) => bytes.length + uptoBulk d + 1
  | (_, d) => uptoBulk d + 1
 end
def uptoSmall : (H : Type) → List (DataW H) → Bool := fun _ ds => decide (uptoBulkAll ds ≤ 1048576)
def OpenSpec.upto (s : _root_.Go.ChangeSpec) : _root_.Go.OpenSpec := { _root_.Go.OpenSpec.ofChange s with cond := some uptoSmall }

/-- 'simulcastlaw33.StackPlays', WHERE WHAT IT READS IS OF BULK AT MOST 1048576: true; the input reads as it did. -/
def stackPlaysUptoRow : OpenClaim := { program := "ytalhmlnmbgpleaadoor", sum := "b24dde8e20962ac56dceb7034197cf04eb9fdac810e6f7f8d3360db064a31a56", func := "simulcast/simulcastlaw33.StackPlays", spec := "stackPlays", unfollowed := true, recurses := true, named := ["simulcast/simulcastlaw33.roots"], apart := false, laid := [("simulcast/simulcastlaw33.roots", laid_simulcast_simulcastlaw33_roots)], narrowed := true }
def StackPlaysUptoSaid : Prop := stackPlaysUptoRow.holds Tryd.pinned (OpenSpec.upto stackPlaysSpec)

/-- 'simulcastlaw33.StackFew', WHERE WHAT IT READS IS OF BULK AT MOST 1048576: true; the input reads as it did. -/
def stackFewUptoRow : OpenClaim := { program := "ytalhmlnmbgpleaadoor", sum := "b24dde8e20962ac56dceb7034197cf04eb9fdac810e6f7f8d3360db064a31a56", func := "simulcast/simulcastlaw33.StackFew", spec := "stackFew", unfollowed := true, recurses := true, named := ["simulcast/simulcastlaw33.roots"], apart := false, laid := [("simulcast/simulcastlaw33.roots", laid_simulcast_simulcastlaw33_roots)], narrowed := true }
def StackFewUptoSaid : Prop := stackFewUptoRow.holds Tryd.pinned (OpenSpec.upto stackFewSpec)

/-- 'simulcastlaw33.StackBroken', WHERE WHAT IT READS IS OF BULK AT MOST 1048576: true; the input reads as it did. -/
def stackBrokenUptoRow : OpenClaim := { program := "ytalhmlnmbgpleaadoor", sum := "b24dde8e20962ac56dceb7034197cf04eb9fdac810e6f7f8d3360db064a31a56", func := "simulcast/simulcastlaw33.StackBroken", spec := "stackBroken", unfollowed := true, recurses := true, named := ["simulcast/simulcastlaw33.roots"], apart := false, laid := [("simulcast/simulcastlaw33.roots", laid_simulcast_simulcastlaw33_roots)], narrowed := true }
def StackBrokenUptoSaid : Prop := stackBrokenUptoRow.holds Tryd.pinned (OpenSpec.upto stackBrokenSpec)

/-- 'simulcastlaw33.StackTurns', WHERE WHAT IT READS IS OF BULK AT MOST 1048576: true; the input reads as it did. -/
def stackTurnsUptoRow : OpenClaim := { program := "ytalhmlnmbgpleaadoor", sum := "b24dde8e20962ac56dceb7034197cf04eb9fdac810e6f7f8d3360db064a31a56", func := "simulcast/simulcastlaw33.StackTurns", spec := "stackTurns", unfollowed := true, recurses := true, named := ["simulcast/simulcastlaw33.roots"], apart := false, laid := [("simulcast/simulcastlaw33.roots", laid_simulcast_simulcastlaw33_roots)], narrowed := true }
def StackTurnsUptoSaid : Prop := stackTurnsUptoRow.holds Tryd.pinned (OpenSpec.upto stackTurnsSpec)

/-- 'simulcastlaw33.StackNeeds', WHERE WHAT IT READS IS OF BULK AT MOST 1048576: true; the input reads as it did. -/
def stackNeedsUptoRow : OpenClaim := { program := "ytalhmlnmbgpleaadoor", sum := "b24dde8e20962ac56dceb7034197cf04eb9fdac810e6f7f8d3360db064a31a56", func := "simulcast/simulcastlaw33.StackNeeds", spec := "stackNeeds", unfollowed := true, recurses := true, named := ["simulcast/simulcastlaw33.roots"], apart := false, laid := [("simulcast/simulcastlaw33.roots", laid_simulcast_simulcastlaw33_roots)], narrowed := true }
def StackNeedsUptoSaid : Prop := stackNeedsUptoRow.holds Tryd.pinned (OpenSpec.upto stackNeedsSpec)

/-- 'simulcastlaw33.StackNodes', WHERE WHAT IT READS IS OF BULK AT MOST 1048576: true; the input reads as it did. -/
def stackNodesUptoRow : OpenClaim := { program := "ytalhmlnmbgpleaadoor", sum := "b24dde8e20962ac56dceb7034197cf04eb9fdac810e6f7f8d3360db064a31a56", func := "simulcast/simulcastlaw33.StackNodes", spec := "stackNodes", unfollowed := true, recurses := true, named := ["simulcast/simulcastlaw33.roots"], apart := false, laid := [("simulcast/simulcastlaw33.roots", laid_simulcast_simulcastlaw33_roots)], narrowed := true }
def StackNodesUptoSaid : Prop := stackNodesUptoRow.holds Tryd.pinned (OpenSpec.upto stackNodesSpec)

end Rows
end Go.Proofs.YtalhmlnmbgpleaaDoor
