/-
  No cell of these rows narrows 'for every input' (looked for: loops, veiled, ifaces, maps, wideKeys, modest, calm, conditions, laid).
  DERIVED. THE GIVEN ROWS OF THIS SEAT. 13 by the template 'for every input the law returns true; each argument reads behind the call as it read before'; 0 by the template 'total and deterministic' (their statements: YtggieecoagcmbaaTotals.lean).
  GIVEN WITH THE SEED: the statements are not yours to turn. If you find one false, say at which input.
  Laid BY PROGRAM, IN A SANDBOX (cutbox-rows.mjs): the forced cells as the released guide's own fill.sh prints them over the translation a2b46fd8f19b1401… (all of the seat's roots in one cut). By AI agents, Wed Nov 11 2026. No macro, syntax, notation, axiom, sorry.
-/
import Derived.Test.YtggieecoagcmbaaChecked
import GoSem.Claim
import GoSem.ClaimJoined
import GoSem.ClaimMapViews
import Derived.JoinedTies
import Derived.KernelRfl
namespace Go.Proofs.Ytggieecoagcmbaa
/- THE CELL 'sum', in the pinned program and in every row, IS THE sha256 OF THE DUMP (.gsa) THAT YtggieecoagcmbaaProg.lean LOADS. Nothing in Lean hashes anything: it is a label: what it is worth is what the hold of that sum in a sandbox is worth. -/
noncomputable def Try.pinned : Pinned := { name := "ytggieecoagcmbaa", sum := "a2b46fd8f19b1401ae395c8d13001b3eb0303971fa2f17512e26f956eee51609", checked := Try.checked }
namespace Rows
def none {H : Type} : Left H := { results := [], args := [] }

/-- 'simulcastlaw31.PoolTurns': WHATEVER THE INPUT: true; the input reads as it did. -/
def poolTurnsSpec : ChangeSpec := { name := "poolTurns", fn := fun _ => fun
  | [d1, d2] => { results := [.lit (.bool true)], args := [d1, d2] }
  | _ => none }
def poolTurnsRow : OpenClaim := { program := "ytggieecoagcmbaa", sum := "a2b46fd8f19b1401ae395c8d13001b3eb0303971fa2f17512e26f956eee51609", func := "simulcast/simulcastlaw31.PoolTurns", spec := "poolTurns", apart := false }
def PoolTurnsSaid : Prop := poolTurnsRow.holds Try.pinned (OpenSpec.ofChange poolTurnsSpec)

/-- ITS FALSE NEIGHBOUR: 'it returns false'. Refute it at one input. -/
def poolTurnsWrong : ChangeSpec := { name := "poolTurns", fn := fun _ => fun
  | [d1, d2] => { results := [.lit (.bool false)], args := [d1, d2] }
  | _ => none }
def PoolTurnsWrongFalsely : Prop := poolTurnsRow.holds Try.pinned (OpenSpec.ofChange poolTurnsWrong)

/-- 'simulcastlaw31.PoolOnce': WHATEVER THE INPUT: true; the input reads as it did. -/
def poolOnceSpec : ChangeSpec := { name := "poolOnce", fn := fun _ => fun
  | [d1, d2, d3] => { results := [.lit (.bool true)], args := [d1, d2, d3] }
  | _ => none }
def poolOnceRow : OpenClaim := { program := "ytggieecoagcmbaa", sum := "a2b46fd8f19b1401ae395c8d13001b3eb0303971fa2f17512e26f956eee51609", func := "simulcast/simulcastlaw31.PoolOnce", spec := "poolOnce", apart := false }
def PoolOnceSaid : Prop := poolOnceRow.holds Try.pinned (OpenSpec.ofChange poolOnceSpec)

/-- ITS FALSE NEIGHBOUR: 'it returns false'. Refute it at one input. -/
def poolOnceWrong : ChangeSpec := { name := "poolOnce", fn := fun _ => fun
  | [d1, d2, d3] => { results := [.lit (.bool false)], args := [d1, d2, d3] }
  | _ => none }
def PoolOnceWrongFalsely : Prop := poolOnceRow.holds Try.pinned (OpenSpec.ofChange poolOnceWrong)

/-- 'simulcastlaw34.QueuePlays': WHATEVER THE INPUT: true; the input reads as it did. -/
def queuePlaysSpec : ChangeSpec := { name := "queuePlays", fn := fun _ => fun
  | [d1, d2] => { results := [.lit (.bool true)], args := [d1, d2] }
  | _ => none }
def queuePlaysRow : OpenClaim := { program := "ytggieecoagcmbaa", sum := "a2b46fd8f19b1401ae395c8d13001b3eb0303971fa2f17512e26f956eee51609", func := "simulcast/simulcastlaw34.QueuePlays", spec := "queuePlays", unfollowed := true, recurses := true, apart := false }
def QueuePlaysSaid : Prop := queuePlaysRow.holds Try.pinned (OpenSpec.ofChange queuePlaysSpec)

/-- ITS FALSE NEIGHBOUR: 'it returns false'. Refute it at one input. -/
def queuePlaysWrong : ChangeSpec := { name := "queuePlays", fn := fun _ => fun
  | [d1, d2] => { results := [.lit (.bool false)], args := [d1, d2] }
  | _ => none }
def QueuePlaysWrongFalsely : Prop := queuePlaysRow.holds Try.pinned (OpenSpec.ofChange queuePlaysWrong)

/-- 'simulcastlaw34.QueueOrders': WHATEVER THE INPUT: true; the input reads as it did. -/
def queueOrdersSpec : ChangeSpec := { name := "queueOrders", fn := fun _ => fun
  | [d1, d2] => { results := [.lit (.bool true)], args := [d1, d2] }
  | _ => none }
def queueOrdersRow : OpenClaim := { program := "ytggieecoagcmbaa", sum := "a2b46fd8f19b1401ae395c8d13001b3eb0303971fa2f17512e26f956eee51609", func := "simulcast/simulcastlaw34.QueueOrders", spec := "queueOrders", unfollowed := true, recurses := true, apart := false }
def QueueOrdersSaid : Prop := queueOrdersRow.holds Try.pinned (OpenSpec.ofChange queueOrdersSpec)

/-- ITS FALSE NEIGHBOUR: 'it returns false'. Refute it at one input. -/
def queueOrdersWrong : ChangeSpec := { name := "queueOrders", fn := fun _ => fun
  | [d1, d2] => { results := [.lit (.bool false)], args := [d1, d2] }
  | _ => none }
def QueueOrdersWrongFalsely : Prop := queueOrdersRow.holds Try.pinned (OpenSpec.ofChange queueOrdersWrong)

/-- 'simulcastlaw34.QueueUndoes': WHATEVER THE INPUT: true; the input reads as it did. -/
def queueUndoesSpec : ChangeSpec := { name := "queueUndoes", fn := fun _ => fun
  | [d1, d2, d3] => { results := [.lit (.bool true)], args := [d1, d2, d3] }
  | _ => none }
def queueUndoesRow : OpenClaim := { program := "ytggieecoagcmbaa", sum := "a2b46fd8f19b1401ae395c8d13001b3eb0303971fa2f17512e26f956eee51609", func := "simulcast/simulcastlaw34.QueueUndoes", spec := "queueUndoes", unfollowed := true, recurses := true, apart := false }
def QueueUndoesSaid : Prop := queueUndoesRow.holds Try.pinned (OpenSpec.ofChange queueUndoesSpec)

/-- ITS FALSE NEIGHBOUR: 'it returns false'. Refute it at one input. -/
def queueUndoesWrong : ChangeSpec := { name := "queueUndoes", fn := fun _ => fun
  | [d1, d2, d3] => { results := [.lit (.bool false)], args := [d1, d2, d3] }
  | _ => none }
def QueueUndoesWrongFalsely : Prop := queueUndoesRow.holds Try.pinned (OpenSpec.ofChange queueUndoesWrong)

/-- 'simulcastlaw34.QueueShares': WHATEVER THE INPUT: true; the input reads as it did. -/
def queueSharesSpec : ChangeSpec := { name := "queueShares", fn := fun _ => fun
  | [d1, d2, d3] => { results := [.lit (.bool true)], args := [d1, d2, d3] }
  | _ => none }
def queueSharesRow : OpenClaim := { program := "ytggieecoagcmbaa", sum := "a2b46fd8f19b1401ae395c8d13001b3eb0303971fa2f17512e26f956eee51609", func := "simulcast/simulcastlaw34.QueueShares", spec := "queueShares", unfollowed := true, recurses := true, apart := false }
def QueueSharesSaid : Prop := queueSharesRow.holds Try.pinned (OpenSpec.ofChange queueSharesSpec)

/-- ITS FALSE NEIGHBOUR: 'it returns false'. Refute it at one input. -/
def queueSharesWrong : ChangeSpec := { name := "queueShares", fn := fun _ => fun
  | [d1, d2, d3] => { results := [.lit (.bool false)], args := [d1, d2, d3] }
  | _ => none }
def QueueSharesWrongFalsely : Prop := queueSharesRow.holds Try.pinned (OpenSpec.ofChange queueSharesWrong)

/-- 'simulcastlaw30.SpaceAnew': WHATEVER THE INPUT: true; the input reads as it did. -/
def spaceAnewSpec : ChangeSpec := { name := "spaceAnew", fn := fun _ => fun
  | [d1, d2] => { results := [.lit (.bool true)], args := [d1, d2] }
  | _ => none }
def spaceAnewRow : OpenClaim := { program := "ytggieecoagcmbaa", sum := "a2b46fd8f19b1401ae395c8d13001b3eb0303971fa2f17512e26f956eee51609", func := "simulcast/simulcastlaw30.SpaceAnew", spec := "spaceAnew", unfollowed := true, recurses := true, apart := false }
def SpaceAnewSaid : Prop := spaceAnewRow.holds Try.pinned (OpenSpec.ofChange spaceAnewSpec)

/-- ITS FALSE NEIGHBOUR: 'it returns false'. Refute it at one input. -/
def spaceAnewWrong : ChangeSpec := { name := "spaceAnew", fn := fun _ => fun
  | [d1, d2] => { results := [.lit (.bool false)], args := [d1, d2] }
  | _ => none }
def SpaceAnewWrongFalsely : Prop := spaceAnewRow.holds Try.pinned (OpenSpec.ofChange spaceAnewWrong)

/-- 'simulcastlaw30.SpaceBack': WHATEVER THE INPUT: true; the input reads as it did. -/
def spaceBackSpec : ChangeSpec := { name := "spaceBack", fn := fun _ => fun
  | [d1, d2, d3] => { results := [.lit (.bool true)], args := [d1, d2, d3] }
  | _ => none }
def spaceBackRow : OpenClaim := { program := "ytggieecoagcmbaa", sum := "a2b46fd8f19b1401ae395c8d13001b3eb0303971fa2f17512e26f956eee51609", func := "simulcast/simulcastlaw30.SpaceBack", spec := "spaceBack", unfollowed := true, recurses := true, apart := false }
def SpaceBackSaid : Prop := spaceBackRow.holds Try.pinned (OpenSpec.ofChange spaceBackSpec)

/-- ITS FALSE NEIGHBOUR: 'it returns false'. Refute it at one input. -/
def spaceBackWrong : ChangeSpec := { name := "spaceBack", fn := fun _ => fun
  | [d1, d2, d3] => { results := [.lit (.bool false)], args := [d1, d2, d3] }
  | _ => none }
def SpaceBackWrongFalsely : Prop := spaceBackRow.holds Try.pinned (OpenSpec.ofChange spaceBackWrong)

/-- 'simulcastlaw30.SpaceOrders': WHATEVER THE INPUT: true; the input reads as it did. -/
def spaceOrdersSpec : ChangeSpec := { name := "spaceOrders", fn := fun _ => fun
  | [d1, d2, d3] => { results := [.lit (.bool true)], args := [d1, d2, d3] }
  | _ => none }
def spaceOrdersRow : OpenClaim := { program := "ytggieecoagcmbaa", sum := "a2b46fd8f19b1401ae395c8d13001b3eb0303971fa2f17512e26f956eee51609", func := "simulcast/simulcastlaw30.SpaceOrders", spec := "spaceOrders", unfollowed := true, recurses := true, apart := false }
def SpaceOrdersSaid : Prop := spaceOrdersRow.holds Try.pinned (OpenSpec.ofChange spaceOrdersSpec)

/-- ITS FALSE NEIGHBOUR: 'it returns false'. Refute it at one input. -/
def spaceOrdersWrong : ChangeSpec := { name := "spaceOrders", fn := fun _ => fun
  | [d1, d2, d3] => { results := [.lit (.bool false)], args := [d1, d2, d3] }
  | _ => none }
def SpaceOrdersWrongFalsely : Prop := spaceOrdersRow.holds Try.pinned (OpenSpec.ofChange spaceOrdersWrong)

/-- 'simulcastlaw31.PoolWild': WHATEVER THE INPUT: true; the input reads as it did. -/
def poolWildSpec : ChangeSpec := { name := "poolWild", fn := fun _ => fun
  | [d1, d2, d3] => { results := [.lit (.bool true)], args := [d1, d2, d3] }
  | _ => none }
def poolWildRow : OpenClaim := { program := "ytggieecoagcmbaa", sum := "a2b46fd8f19b1401ae395c8d13001b3eb0303971fa2f17512e26f956eee51609", func := "simulcast/simulcastlaw31.PoolWild", spec := "poolWild", unfollowed := true, recurses := true, apart := false }
def PoolWildSaid : Prop := poolWildRow.holds Try.pinned (OpenSpec.ofChange poolWildSpec)

/-- ITS FALSE NEIGHBOUR: 'it returns false'. Refute it at one input. -/
def poolWildWrong : ChangeSpec := { name := "poolWild", fn := fun _ => fun
  | [d1, d2, d3] => { results := [.lit (.bool false)], args := [d1, d2, d3] }
  | _ => none }
def PoolWildWrongFalsely : Prop := poolWildRow.holds Try.pinned (OpenSpec.ofChange poolWildWrong)

/-- 'simulcastlaw31.PoolPlays': WHATEVER THE INPUT: true; the input reads as it did. -/
def poolPlaysSpec : ChangeSpec := { name := "poolPlays", fn := fun _ => fun
  | [d1, d2] => { results := [.lit (.bool true)], args := [d1, d2] }
  | _ => none }
def poolPlaysRow : OpenClaim := { program := "ytggieecoagcmbaa", sum := "a2b46fd8f19b1401ae395c8d13001b3eb0303971fa2f17512e26f956eee51609", func := "simulcast/simulcastlaw31.PoolPlays", spec := "poolPlays", unfollowed := true, recurses := true, apart := false }
def PoolPlaysSaid : Prop := poolPlaysRow.holds Try.pinned (OpenSpec.ofChange poolPlaysSpec)

/-- ITS FALSE NEIGHBOUR: 'it returns false'. Refute it at one input. -/
def poolPlaysWrong : ChangeSpec := { name := "poolPlays", fn := fun _ => fun
  | [d1, d2] => { results := [.lit (.bool false)], args := [d1, d2] }
  | _ => none }
def PoolPlaysWrongFalsely : Prop := poolPlaysRow.holds Try.pinned (OpenSpec.ofChange poolPlaysWrong)

/-- 'simulcastlaw30.SpaceEntries': WHATEVER THE INPUT: true; the input reads as it did. -/
def spaceEntriesSpec : ChangeSpec := { name := "spaceEntries", fn := fun _ => fun
  | [d1, d2, d3] => { results := [.lit (.bool true)], args := [d1, d2, d3] }
  | _ => none }
def spaceEntriesRow : OpenClaim := { program := "ytggieecoagcmbaa", sum := "a2b46fd8f19b1401ae395c8d13001b3eb0303971fa2f17512e26f956eee51609", func := "simulcast/simulcastlaw30.SpaceEntries", spec := "spaceEntries", unfollowed := true, recurses := true, apart := false }
def SpaceEntriesSaid : Prop := spaceEntriesRow.holds Try.pinned (OpenSpec.ofChange spaceEntriesSpec)

/-- ITS FALSE NEIGHBOUR: 'it returns false'. Refute it at one input. -/
def spaceEntriesWrong : ChangeSpec := { name := "spaceEntries", fn := fun _ => fun
  | [d1, d2, d3] => { results := [.lit (.bool false)], args := [d1, d2, d3] }
  | _ => none }
def SpaceEntriesWrongFalsely : Prop := spaceEntriesRow.holds Try.pinned (OpenSpec.ofChange spaceEntriesWrong)

/-- 'simulcastlaw34.QueueWild': WHATEVER THE INPUT: true; the input reads as it did. -/
def queueWildSpec : ChangeSpec := { name := "queueWild", fn := fun _ => fun
  | [d1, d2, d3] => { results := [.lit (.bool true)], args := [d1, d2, d3] }
  | _ => none }
def queueWildRow : OpenClaim := { program := "ytggieecoagcmbaa", sum := "a2b46fd8f19b1401ae395c8d13001b3eb0303971fa2f17512e26f956eee51609", func := "simulcast/simulcastlaw34.QueueWild", spec := "queueWild", unfollowed := true, recurses := true, apart := false }
def QueueWildSaid : Prop := queueWildRow.holds Try.pinned (OpenSpec.ofChange queueWildSpec)

/-- ITS FALSE NEIGHBOUR: 'it returns false'. Refute it at one input. -/
def queueWildWrong : ChangeSpec := { name := "queueWild", fn := fun _ => fun
  | [d1, d2, d3] => { results := [.lit (.bool false)], args := [d1, d2, d3] }
  | _ => none }
def QueueWildWrongFalsely : Prop := queueWildRow.holds Try.pinned (OpenSpec.ofChange queueWildWrong)

/- THE SECOND FORM. 'bulk': how many values and letters a reading holds, each counted each time it is reached (what is shared counts as often as it is met; a slice's spare places count too). A statement '..UptoSaid' is the law's where the arguments, and the package variables that the reading takes, are together of bulk at most 1048576: NARROWER than '..Said'. Prove '..Said' where nothing that the law and all that it calls make is longer than what came in: it says more and counts as full. Else prove '..UptoSaid'. A law counts once. -/
mutual
def uptoBulk {H : Type} : DataW H → Nat
  | .lit (.string bytes) => bytes.length + 1
  | .lit _ => 1
  | .nil => 1
  | .ptr d => uptoBulk d + 1
  | .slice elems spare => uptoBulkAll elems + uptoBulkAll spare + 1
  | .agg parts => uptoBulkAll parts + 1
  | .iface _ d => uptoBulk d + 1
  | .map entries => uptoBulkEntries entries + 1
  | .held _ => 1
def uptoBulkAll {H : Type} : List (DataW H) → Nat
  | [] => 0
  | d :: r => uptoBulk d + uptoBulkAll r
def uptoBulkEntries {H : Type} : List (Lit × DataW H) → Nat
  | [] => 0
  | x :: r => uptoBulkEntry x + uptoBulkEntries r
def uptoBulkEntry {H : Type} : Lit × DataW H → Nat
  | (.string bytes, d) => bytes.length + uptoBulk d + 1
  | (_, d) => uptoBulk d + 1
 end
def uptoSmall : (H : Type) → List (DataW H) → Bool := fun _ ds => decide (uptoBulkAll ds ≤ 1048576)
def OpenSpec.upto (s : _root_.Go.ChangeSpec) : _root_.Go.OpenSpec := { _root_.Go.OpenSpec.ofChange s with cond := some uptoSmall }

/-- 'simulcastlaw31.PoolTurns', WHERE WHAT IT READS IS OF BULK AT MOST 1048576: true; the input reads as it did. -/
def poolTurnsUptoRow : OpenClaim := { program := "ytggieecoagcmbaa", sum := "a2b46fd8f19b1401ae395c8d13001b3eb0303971fa2f17512e26f956eee51609", func := "simulcast/simulcastlaw31.PoolTurns", spec := "poolTurns", apart := false, narrowed := true }
def PoolTurnsUptoSaid : Prop := poolTurnsUptoRow.holds Try.pinned (OpenSpec.upto poolTurnsSpec)

/-- 'simulcastlaw31.PoolOnce', WHERE WHAT IT READS IS OF BULK AT MOST 1048576: true; the input reads as it did. -/
def poolOnceUptoRow : OpenClaim := { program := "ytggieecoagcmbaa", sum := "a2b46fd8f19b1401ae395c8d13001b3eb0303971fa2f17512e26f956eee51609", func := "simulcast/simulcastlaw31.PoolOnce", spec := "poolOnce", apart := false, narrowed := true }
def PoolOnceUptoSaid : Prop := poolOnceUptoRow.holds Try.pinned (OpenSpec.upto poolOnceSpec)

/-- 'simulcastlaw34.QueuePlays', WHERE WHAT IT READS IS OF BULK AT MOST 1048576: true; the input reads as it did. -/
def queuePlaysUptoRow : OpenClaim := { program := "ytggieecoagcmbaa", sum := "a2b46fd8f19b1401ae395c8d13001b3eb0303971fa2f17512e26f956eee51609", func := "simulcast/simulcastlaw34.QueuePlays", spec := "queuePlays", unfollowed := true, recurses := true, apart := false, narrowed := true }
def QueuePlaysUptoSaid : Prop := queuePlaysUptoRow.holds Try.pinned (OpenSpec.upto queuePlaysSpec)

/-- 'simulcastlaw34.QueueOrders', WHERE WHAT IT READS IS OF BULK AT MOST 1048576: true; the input reads as it did. -/
def queueOrdersUptoRow : OpenClaim := { program := "ytggieecoagcmbaa", sum := "a2b46fd8f19b1401ae395c8d13001b3eb0303971fa2f17512e26f956eee51609", func := "simulcast/simulcastlaw34.QueueOrders", spec := "queueOrders", unfollowed := true, recurses := true, apart := false, narrowed := true }
def QueueOrdersUptoSaid : Prop := queueOrdersUptoRow.holds Try.pinned (OpenSpec.upto queueOrdersSpec)

/-- 'simulcastlaw34.QueueUndoes', WHERE WHAT IT READS IS OF BULK AT MOST 1048576: true; the input reads as it did. -/
def queueUndoesUptoRow : OpenClaim := { program := "ytggieecoagcmbaa", sum := "a2b46fd8f19b1401ae395c8d13001b3eb0303971fa2f17512e26f956eee51609", func := "simulcast/simulcastlaw34.QueueUndoes", spec := "queueUndoes", unfollowed := true, recurses := true, apart := false, narrowed := true }
def QueueUndoesUptoSaid : Prop := queueUndoesUptoRow.holds Try.pinned (OpenSpec.upto queueUndoesSpec)

/-- 'simulcastlaw34.QueueShares', WHERE WHAT IT READS IS OF BULK AT MOST 1048576: true; the input reads as it did. -/
def queueSharesUptoRow : OpenClaim := { program := "ytggieecoagcmbaa", sum := "a2b46fd8f19b1401ae395c8d13001b3eb0303971fa2f17512e26f956eee51609", func := "simulcast/simulcastlaw34.QueueShares", spec := "queueShares", unfollowed := true, recurses := true, apart := false, narrowed := true }
def QueueSharesUptoSaid : Prop := queueSharesUptoRow.holds Try.pinned (OpenSpec.upto queueSharesSpec)

/-- 'simulcastlaw30.SpaceAnew', WHERE WHAT IT READS IS OF BULK AT MOST 1048576: true; the input reads as it did. -/
def spaceAnewUptoRow : OpenClaim := { program := "ytggieecoagcmbaa", sum := "a2b46fd8f19b1401ae395c8d13001b3eb0303971fa2f17512e26f956eee51609", func := "simulcast/simulcastlaw30.SpaceAnew", spec := "spaceAnew", unfollowed := true, recurses := true, apart := false, narrowed := true }
def SpaceAnewUptoSaid : Prop := spaceAnewUptoRow.holds Try.pinned (OpenSpec.upto spaceAnewSpec)

/-- 'simulcastlaw30.SpaceBack', WHERE WHAT IT READS IS OF BULK AT MOST 1048576: true; the input reads as it did. -/
def spaceBackUptoRow : OpenClaim := { program := "ytggieecoagcmbaa", sum := "a2b46fd8f19b1401ae395c8d13001b3eb0303971fa2f17512e26f956eee51609", func := "simulcast/simulcastlaw30.SpaceBack", spec := "spaceBack", unfollowed := true, recurses := true, apart := false, narrowed := true }
def SpaceBackUptoSaid : Prop := spaceBackUptoRow.holds Try.pinned (OpenSpec.upto spaceBackSpec)

/-- 'simulcastlaw30.SpaceOrders', WHERE WHAT IT READS IS OF BULK AT MOST 1048576: true; the input reads as it did. -/
def spaceOrdersUptoRow : OpenClaim := { program := "ytggieecoagcmbaa", sum := "a2b46fd8f19b1401ae395c8d13001b3eb0303971fa2f17512e26f956eee51609", func := "simulcast/simulcastlaw30.SpaceOrders", spec := "spaceOrders", unfollowed := true, recurses := true, apart := false, narrowed := true }
def SpaceOrdersUptoSaid : Prop := spaceOrdersUptoRow.holds Try.pinned (OpenSpec.upto spaceOrdersSpec)

/-- 'simulcastlaw31.PoolWild', WHERE WHAT IT READS IS OF BULK AT MOST 1048576: true; the input reads as it did. -/
def poolWildUptoRow : OpenClaim := { program := "ytggieecoagcmbaa", sum := "a2b46fd8f19b1401ae395c8d13001b3eb0303971fa2f17512e26f956eee51609", func := "simulcast/simulcastlaw31.PoolWild", spec := "poolWild", unfollowed := true, recurses := true, apart := false, narrowed := true }
def PoolWildUptoSaid : Prop := poolWildUptoRow.holds Try.pinned (OpenSpec.upto poolWildSpec)

/-- 'simulcastlaw31.PoolPlays', WHERE WHAT IT READS IS OF BULK AT MOST 1048576: true; the input reads as it did. -/
def poolPlaysUptoRow : OpenClaim := { program := "ytggieecoagcmbaa", sum := "a2b46fd8f19b1401ae395c8d13001b3eb0303971fa2f17512e26f956eee51609", func := "simulcast/simulcastlaw31.PoolPlays", spec := "poolPlays", unfollowed := true, recurses := true, apart := false, narrowed := true }
def PoolPlaysUptoSaid : Prop := poolPlaysUptoRow.holds Try.pinned (OpenSpec.upto poolPlaysSpec)

/-- 'simulcastlaw30.SpaceEntries', WHERE WHAT IT READS IS OF BULK AT MOST 1048576: true; the input reads as it did. -/
def spaceEntriesUptoRow : OpenClaim := { program := "ytggieecoagcmbaa", sum := "a2b46fd8f19b1401ae395c8d13001b3eb0303971fa2f17512e26f956eee51609", func := "simulcast/simulcastlaw30.SpaceEntries", spec := "spaceEntries", unfollowed := true, recurses := true, apart := false, narrowed := true }
def SpaceEntriesUptoSaid : Prop := spaceEntriesUptoRow.holds Try.pinned (OpenSpec.upto spaceEntriesSpec)

/-- 'simulcastlaw34.QueueWild', WHERE WHAT IT READS IS OF BULK AT MOST 1048576: true; the input reads as it did. -/
def queueWildUptoRow : OpenClaim := { program := "ytggieecoagcmbaa", sum := "a2b46fd8f19b1401ae395c8d13001b3eb0303971fa2f17512e26f956eee51609", func := "simulcast/simulcastlaw34.QueueWild", spec := "queueWild", unfollowed := true, recurses := true, apart := false, narrowed := true }
def QueueWildUptoSaid : Prop := queueWildUptoRow.holds Try.pinned (OpenSpec.upto queueWildSpec)

end Rows
end Go.Proofs.Ytggieecoagcmbaa
