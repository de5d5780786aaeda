/-
  No cell of these rows narrows 'for every input' (looked for: loops, veiled, ifaces, maps, wideKeys, modest, calm, conditions, laid).
  DERIVED. THE GIVEN ROWS OF THIS SEAT. 11 by the template 'for every input the law returns true; each argument reads behind the call as it read before'; 0 by the template 'total and deterministic' (their statements: YtmpdclbiopalaaaTotals.lean).
  GIVEN WITH THE SEED: the statements are not yours to turn. If you find one false, say at which input.
  Laid BY PROGRAM, IN A SANDBOX (cutbox-rows.mjs): the forced cells as the released guide's own fill.sh prints them over the translation 2c4c3ef58ac46f4b… (all of the seat's roots in one cut). By AI agents, Wed Nov 11 2026. No macro, syntax, notation, axiom, sorry.
-/
import Derived.Test.YtmpdclbiopalaaaChecked
import GoSem.Claim
import GoSem.ClaimJoined
import GoSem.ClaimMapViews
import Derived.JoinedTies
import Derived.KernelRfl
namespace Go.Proofs.Ytmpdclbiopalaaa
/- THE CELL 'sum', in the pinned program and in every row, IS THE sha256 OF THE DUMP (.gsa) THAT YtmpdclbiopalaaaProg.lean LOADS. Nothing in Lean hashes anything: it is a label: what it is worth is what the hold of that sum in a sandbox is worth. -/
noncomputable def Try.pinned : Pinned := { name := "ytmpdclbiopalaaa", sum := "2c4c3ef58ac46f4b51d430560e707a0f40b6062b8a195eebd88be5527b95fe08", checked := Try.checked }
namespace Rows
def none {H : Type} : Left H := { results := [], args := [] }

/-- 'simulcastlaw40.GraphBoth': WHATEVER THE INPUT: true; the input reads as it did. -/
def graphBothSpec : ChangeSpec := { name := "graphBoth", fn := fun _ => fun
  | [d] => { results := [.lit (.bool true)], args := [d] }
  | _ => none }
def graphBothRow : OpenClaim := { program := "ytmpdclbiopalaaa", sum := "2c4c3ef58ac46f4b51d430560e707a0f40b6062b8a195eebd88be5527b95fe08", func := "simulcast/simulcastlaw40.GraphBoth", spec := "graphBoth", unfollowed := true, recurses := true, apart := false }
def GraphBothSaid : Prop := graphBothRow.holds Try.pinned (OpenSpec.ofChange graphBothSpec)

/-- ITS FALSE NEIGHBOUR: 'it returns false'. Refute it at one input. -/
def graphBothWrong : ChangeSpec := { name := "graphBoth", fn := fun _ => fun
  | [d] => { results := [.lit (.bool false)], args := [d] }
  | _ => none }
def GraphBothWrongFalsely : Prop := graphBothRow.holds Try.pinned (OpenSpec.ofChange graphBothWrong)

/-- 'simulcastlaw40.GraphWeighs': WHATEVER THE INPUT: true; the input reads as it did. -/
def graphWeighsSpec : ChangeSpec := { name := "graphWeighs", fn := fun _ => fun
  | [d1, d2, d3] => { results := [.lit (.bool true)], args := [d1, d2, d3] }
  | _ => none }
def graphWeighsRow : OpenClaim := { program := "ytmpdclbiopalaaa", sum := "2c4c3ef58ac46f4b51d430560e707a0f40b6062b8a195eebd88be5527b95fe08", func := "simulcast/simulcastlaw40.GraphWeighs", spec := "graphWeighs", unfollowed := true, recurses := true, apart := false }
def GraphWeighsSaid : Prop := graphWeighsRow.holds Try.pinned (OpenSpec.ofChange graphWeighsSpec)

/-- ITS FALSE NEIGHBOUR: 'it returns false'. Refute it at one input. -/
def graphWeighsWrong : ChangeSpec := { name := "graphWeighs", fn := fun _ => fun
  | [d1, d2, d3] => { results := [.lit (.bool false)], args := [d1, d2, d3] }
  | _ => none }
def GraphWeighsWrongFalsely : Prop := graphWeighsRow.holds Try.pinned (OpenSpec.ofChange graphWeighsWrong)

/-- 'simulcastlaw40.GraphPlays': WHATEVER THE INPUT: true; the input reads as it did. -/
def graphPlaysSpec : ChangeSpec := { name := "graphPlays", fn := fun _ => fun
  | [d1, d2] => { results := [.lit (.bool true)], args := [d1, d2] }
  | _ => none }
def graphPlaysRow : OpenClaim := { program := "ytmpdclbiopalaaa", sum := "2c4c3ef58ac46f4b51d430560e707a0f40b6062b8a195eebd88be5527b95fe08", func := "simulcast/simulcastlaw40.GraphPlays", spec := "graphPlays", unfollowed := true, recurses := true, apart := false }
def GraphPlaysSaid : Prop := graphPlaysRow.holds Try.pinned (OpenSpec.ofChange graphPlaysSpec)

/-- ITS FALSE NEIGHBOUR: 'it returns false'. Refute it at one input. -/
def graphPlaysWrong : ChangeSpec := { name := "graphPlays", fn := fun _ => fun
  | [d1, d2] => { results := [.lit (.bool false)], args := [d1, d2] }
  | _ => none }
def GraphPlaysWrongFalsely : Prop := graphPlaysRow.holds Try.pinned (OpenSpec.ofChange graphPlaysWrong)

/-- 'simulcastlaw40.GraphLost': WHATEVER THE INPUT: true; the input reads as it did. -/
def graphLostSpec : ChangeSpec := { name := "graphLost", fn := fun _ => fun
  | [d1, d2] => { results := [.lit (.bool true)], args := [d1, d2] }
  | _ => none }
def graphLostRow : OpenClaim := { program := "ytmpdclbiopalaaa", sum := "2c4c3ef58ac46f4b51d430560e707a0f40b6062b8a195eebd88be5527b95fe08", func := "simulcast/simulcastlaw40.GraphLost", spec := "graphLost", unfollowed := true, recurses := true, apart := false }
def GraphLostSaid : Prop := graphLostRow.holds Try.pinned (OpenSpec.ofChange graphLostSpec)

/-- ITS FALSE NEIGHBOUR: 'it returns false'. Refute it at one input. -/
def graphLostWrong : ChangeSpec := { name := "graphLost", fn := fun _ => fun
  | [d1, d2] => { results := [.lit (.bool false)], args := [d1, d2] }
  | _ => none }
def GraphLostWrongFalsely : Prop := graphLostRow.holds Try.pinned (OpenSpec.ofChange graphLostWrong)

/-- 'simulcastlaw40.GraphVanishes': WHATEVER THE INPUT: true; the input reads as it did. -/
def graphVanishesSpec : ChangeSpec := { name := "graphVanishes", fn := fun _ => fun
  | [d1, d2] => { results := [.lit (.bool true)], args := [d1, d2] }
  | _ => none }
def graphVanishesRow : OpenClaim := { program := "ytmpdclbiopalaaa", sum := "2c4c3ef58ac46f4b51d430560e707a0f40b6062b8a195eebd88be5527b95fe08", func := "simulcast/simulcastlaw40.GraphVanishes", spec := "graphVanishes", unfollowed := true, recurses := true, apart := false }
def GraphVanishesSaid : Prop := graphVanishesRow.holds Try.pinned (OpenSpec.ofChange graphVanishesSpec)

/-- ITS FALSE NEIGHBOUR: 'it returns false'. Refute it at one input. -/
def graphVanishesWrong : ChangeSpec := { name := "graphVanishes", fn := fun _ => fun
  | [d1, d2] => { results := [.lit (.bool false)], args := [d1, d2] }
  | _ => none }
def GraphVanishesWrongFalsely : Prop := graphVanishesRow.holds Try.pinned (OpenSpec.ofChange graphVanishesWrong)

/-- 'simulcastlaw37.TreeShaped': WHATEVER THE INPUT: true; the input reads as it did. -/
def treeShapedSpec : ChangeSpec := { name := "treeShaped", fn := fun _ => fun
  | [d1, d2] => { results := [.lit (.bool true)], args := [d1, d2] }
  | _ => none }
def treeShapedRow : OpenClaim := { program := "ytmpdclbiopalaaa", sum := "2c4c3ef58ac46f4b51d430560e707a0f40b6062b8a195eebd88be5527b95fe08", func := "simulcast/simulcastlaw37.TreeShaped", spec := "treeShaped", unfollowed := true, recurses := true, apart := false }
def TreeShapedSaid : Prop := treeShapedRow.holds Try.pinned (OpenSpec.ofChange treeShapedSpec)

/-- ITS FALSE NEIGHBOUR: 'it returns false'. Refute it at one input. -/
def treeShapedWrong : ChangeSpec := { name := "treeShaped", fn := fun _ => fun
  | [d1, d2] => { results := [.lit (.bool false)], args := [d1, d2] }
  | _ => none }
def TreeShapedWrongFalsely : Prop := treeShapedRow.holds Try.pinned (OpenSpec.ofChange treeShapedWrong)

/-- 'simulcastlaw37.TreePlays': WHATEVER THE INPUT: true; the input reads as it did. -/
def treePlaysSpec : ChangeSpec := { name := "treePlays", fn := fun _ => fun
  | [d1, d2] => { results := [.lit (.bool true)], args := [d1, d2] }
  | _ => none }
def treePlaysRow : OpenClaim := { program := "ytmpdclbiopalaaa", sum := "2c4c3ef58ac46f4b51d430560e707a0f40b6062b8a195eebd88be5527b95fe08", func := "simulcast/simulcastlaw37.TreePlays", spec := "treePlays", unfollowed := true, recurses := true, apart := false }
def TreePlaysSaid : Prop := treePlaysRow.holds Try.pinned (OpenSpec.ofChange treePlaysSpec)

/-- ITS FALSE NEIGHBOUR: 'it returns false'. Refute it at one input. -/
def treePlaysWrong : ChangeSpec := { name := "treePlays", fn := fun _ => fun
  | [d1, d2] => { results := [.lit (.bool false)], args := [d1, d2] }
  | _ => none }
def TreePlaysWrongFalsely : Prop := treePlaysRow.holds Try.pinned (OpenSpec.ofChange treePlaysWrong)

/-- 'simulcastlaw37.TreeLost': WHATEVER THE INPUT: true; the input reads as it did. -/
def treeLostSpec : ChangeSpec := { name := "treeLost", fn := fun _ => fun
  | [d1, d2] => { results := [.lit (.bool true)], args := [d1, d2] }
  | _ => none }
def treeLostRow : OpenClaim := { program := "ytmpdclbiopalaaa", sum := "2c4c3ef58ac46f4b51d430560e707a0f40b6062b8a195eebd88be5527b95fe08", func := "simulcast/simulcastlaw37.TreeLost", spec := "treeLost", unfollowed := true, recurses := true, apart := false }
def TreeLostSaid : Prop := treeLostRow.holds Try.pinned (OpenSpec.ofChange treeLostSpec)

/-- ITS FALSE NEIGHBOUR: 'it returns false'. Refute it at one input. -/
def treeLostWrong : ChangeSpec := { name := "treeLost", fn := fun _ => fun
  | [d1, d2] => { results := [.lit (.bool false)], args := [d1, d2] }
  | _ => none }
def TreeLostWrongFalsely : Prop := treeLostRow.holds Try.pinned (OpenSpec.ofChange treeLostWrong)

/-- 'simulcastlaw40.GraphAnew': WHATEVER THE INPUT: true; the input reads as it did. -/
def graphAnewSpec : ChangeSpec := { name := "graphAnew", fn := fun _ => fun
  | [d1, d2] => { results := [.lit (.bool true)], args := [d1, d2] }
  | _ => none }
def graphAnewRow : OpenClaim := { program := "ytmpdclbiopalaaa", sum := "2c4c3ef58ac46f4b51d430560e707a0f40b6062b8a195eebd88be5527b95fe08", func := "simulcast/simulcastlaw40.GraphAnew", spec := "graphAnew", unfollowed := true, recurses := true, apart := false }
def GraphAnewSaid : Prop := graphAnewRow.holds Try.pinned (OpenSpec.ofChange graphAnewSpec)

/-- ITS FALSE NEIGHBOUR: 'it returns false'. Refute it at one input. -/
def graphAnewWrong : ChangeSpec := { name := "graphAnew", fn := fun _ => fun
  | [d1, d2] => { results := [.lit (.bool false)], args := [d1, d2] }
  | _ => none }
def GraphAnewWrongFalsely : Prop := graphAnewRow.holds Try.pinned (OpenSpec.ofChange graphAnewWrong)

/-- 'simulcastlaw37.TreeOrders': WHATEVER THE INPUT: true; the input reads as it did. -/
def treeOrdersSpec : ChangeSpec := { name := "treeOrders", fn := fun _ => fun
  | [d1, d2, d3] => { results := [.lit (.bool true)], args := [d1, d2, d3] }
  | _ => none }
def treeOrdersRow : OpenClaim := { program := "ytmpdclbiopalaaa", sum := "2c4c3ef58ac46f4b51d430560e707a0f40b6062b8a195eebd88be5527b95fe08", func := "simulcast/simulcastlaw37.TreeOrders", spec := "treeOrders", unfollowed := true, recurses := true, apart := false }
def TreeOrdersSaid : Prop := treeOrdersRow.holds Try.pinned (OpenSpec.ofChange treeOrdersSpec)

/-- ITS FALSE NEIGHBOUR: 'it returns false'. Refute it at one input. -/
def treeOrdersWrong : ChangeSpec := { name := "treeOrders", fn := fun _ => fun
  | [d1, d2, d3] => { results := [.lit (.bool false)], args := [d1, d2, d3] }
  | _ => none }
def TreeOrdersWrongFalsely : Prop := treeOrdersRow.holds Try.pinned (OpenSpec.ofChange treeOrdersWrong)

/-- 'simulcastlaw37.TreeAnew': WHATEVER THE INPUT: true; the input reads as it did. -/
def treeAnewSpec : ChangeSpec := { name := "treeAnew", fn := fun _ => fun
  | [d1, d2] => { results := [.lit (.bool true)], args := [d1, d2] }
  | _ => none }
def treeAnewRow : OpenClaim := { program := "ytmpdclbiopalaaa", sum := "2c4c3ef58ac46f4b51d430560e707a0f40b6062b8a195eebd88be5527b95fe08", func := "simulcast/simulcastlaw37.TreeAnew", spec := "treeAnew", unfollowed := true, recurses := true, apart := false }
def TreeAnewSaid : Prop := treeAnewRow.holds Try.pinned (OpenSpec.ofChange treeAnewSpec)

/-- ITS FALSE NEIGHBOUR: 'it returns false'. Refute it at one input. -/
def treeAnewWrong : ChangeSpec := { name := "treeAnew", fn := fun _ => fun
  | [d1, d2] => { results := [.lit (.bool false)], args := [d1, d2] }
  | _ => none }
def TreeAnewWrongFalsely : Prop := treeAnewRow.holds Try.pinned (OpenSpec.ofChange treeAnewWrong)

/- THE SECOND FORM. 'bulk': how many values and letters a reading holds, each counted each time it is reached (what is shared counts as often as it is met; a slice's spare places count too). A statement '..UptoSaid' is the law's where the arguments, and the package variables that the reading takes, are together of bulk at most 1048576: NARROWER than '..Said'. Prove '..Said' where nothing that the law and all that it calls make is longer than what came in: it says more and counts as full. Else prove '..UptoSaid'. A law counts once. -/
mutual
def uptoBulk {H : Type} : DataW H → Nat
  | .lit (.string bytes) => bytes.length + 1
  | .lit _ => 1
  | .nil => 1
  | .ptr d => uptoBulk d + 1
  | .slice elems spare => uptoBulkAll elems + uptoBulkAll spare + 1
  | .agg parts => uptoBulkAll parts + 1
  | .iface _ d => uptoBulk d + 1
  | .map entries => uptoBulkEntries entries + 1
  | .held _ => 1
def uptoBulkAll {H : Type} : List (DataW H) → Nat
  | [] => 0
  | d :: r => uptoBulk d + uptoBulkAll r
def uptoBulkEntries {H : Type} : List (Lit × DataW H) → Nat
  | [] => 0
  | x :: r => uptoBulkEntry x + uptoBulkEntries r
def uptoBulkEntry {H : Type} : Lit × DataW H → Nat
  | (.string bytes, d) => bytes.length + uptoBulk d + 1
  | (_, d) => uptoBulk d + 1
 end
def uptoSmall : (H : Type) → List (DataW H) → Bool := fun _ ds => decide (uptoBulkAll ds ≤ 1048576)
def OpenSpec.upto (s : _root_.Go.ChangeSpec) : _root_.Go.OpenSpec := { _root_.Go.OpenSpec.ofChange s with cond := some uptoSmall }

/-- 'simulcastlaw40.GraphBoth', WHERE WHAT IT READS IS OF BULK AT MOST 1048576: true; the input reads as it did. -/
def graphBothUptoRow : OpenClaim := { program := "ytmpdclbiopalaaa", sum := "2c4c3ef58ac46f4b51d430560e707a0f40b6062b8a195eebd88be5527b95fe08", func := "simulcast/simulcastlaw40.GraphBoth", spec := "graphBoth", unfollowed := true, recurses := true, apart := false, narrowed := true }
def GraphBothUptoSaid : Prop := graphBothUptoRow.holds Try.pinned (OpenSpec.upto graphBothSpec)

/-- 'simulcastlaw40.GraphWeighs', WHERE WHAT IT READS IS OF BULK AT MOST 1048576: true; the input reads as it did. -/
def graphWeighsUptoRow : OpenClaim := { program := "ytmpdclbiopalaaa", sum := "2c4c3ef58ac46f4b51d430560e707a0f40b6062b8a195eebd88be5527b95fe08", func := "simulcast/simulcastlaw40.GraphWeighs", spec := "graphWeighs", unfollowed := true, recurses := true, apart := false, narrowed := true }
def GraphWeighsUptoSaid : Prop := graphWeighsUptoRow.holds Try.pinned (OpenSpec.upto graphWeighsSpec)

/-- 'simulcastlaw40.GraphPlays', WHERE WHAT IT READS IS OF BULK AT MOST 1048576: true; the input reads as it did. -/
def graphPlaysUptoRow : OpenClaim := { program := "ytmpdclbiopalaaa", sum := "2c4c3ef58ac46f4b51d430560e707a0f40b6062b8a195eebd88be5527b95fe08", func := "simulcast/simulcastlaw40.GraphPlays", spec := "graphPlays", unfollowed := true, recurses := true, apart := false, narrowed := true }
def GraphPlaysUptoSaid : Prop := graphPlaysUptoRow.holds Try.pinned (OpenSpec.upto graphPlaysSpec)

/-- 'simulcastlaw40.GraphLost', WHERE WHAT IT READS IS OF BULK AT MOST 1048576: true; the input reads as it did. -/
def graphLostUptoRow : OpenClaim := { program := "ytmpdclbiopalaaa", sum := "2c4c3ef58ac46f4b51d430560e707a0f40b6062b8a195eebd88be5527b95fe08", func := "simulcast/simulcastlaw40.GraphLost", spec := "graphLost", unfollowed := true, recurses := true, apart := false, narrowed := true }
def GraphLostUptoSaid : Prop := graphLostUptoRow.holds Try.pinned (OpenSpec.upto graphLostSpec)

/-- 'simulcastlaw40.GraphVanishes', WHERE WHAT IT READS IS OF BULK AT MOST 1048576: true; the input reads as it did. -/
def graphVanishesUptoRow : OpenClaim := { program := "ytmpdclbiopalaaa", sum := "2c4c3ef58ac46f4b51d430560e707a0f40b6062b8a195eebd88be5527b95fe08", func := "simulcast/simulcastlaw40.GraphVanishes", spec := "graphVanishes", unfollowed := true, recurses := true, apart := false, narrowed := true }
def GraphVanishesUptoSaid : Prop := graphVanishesUptoRow.holds Try.pinned (OpenSpec.upto graphVanishesSpec)

/-- 'simulcastlaw37.TreeShaped', WHERE WHAT IT READS IS OF BULK AT MOST 1048576: true; the input reads as it did. -/
def treeShapedUptoRow : OpenClaim := { program := "ytmpdclbiopalaaa", sum := "2c4c3ef58ac46f4b51d430560e707a0f40b6062b8a195eebd88be5527b95fe08", func := "simulcast/simulcastlaw37.TreeShaped", spec := "treeShaped", unfollowed := true, recurses := true, apart := false, narrowed := true }
def TreeShapedUptoSaid : Prop := treeShapedUptoRow.holds Try.pinned (OpenSpec.upto treeShapedSpec)

/-- 'simulcastlaw37.TreePlays', WHERE WHAT IT READS IS OF BULK AT MOST 1048576: true; the input reads as it did. -/
def treePlaysUptoRow : OpenClaim := { program := "ytmpdclbiopalaaa", sum := "2c4c3ef58ac46f4b51d430560e707a0f40b6062b8a195eebd88be5527b95fe08", func := "simulcast/simulcastlaw37.TreePlays", spec := "treePlays", unfollowed := true, recurses := true, apart := false, narrowed := true }
def TreePlaysUptoSaid : Prop := treePlaysUptoRow.holds Try.pinned (OpenSpec.upto treePlaysSpec)

/-- 'simulcastlaw37.TreeLost', WHERE WHAT IT READS IS OF BULK AT MOST 1048576: true; the input reads as it did. -/
def treeLostUptoRow : OpenClaim := { program := "ytmpdclbiopalaaa", sum := "2c4c3ef58ac46f4b51d430560e707a0f40b6062b8a195eebd88be5527b95fe08", func := "simulcast/simulcastlaw37.TreeLost", spec := "treeLost", unfollowed := true, recurses := true, apart := false, narrowed := true }
def TreeLostUptoSaid : Prop := treeLostUptoRow.holds Try.pinned (OpenSpec.upto treeLostSpec)

/-- 'simulcastlaw40.GraphAnew', WHERE WHAT IT READS IS OF BULK AT MOST 1048576: true; the input reads as it did. -/
def graphAnewUptoRow : OpenClaim := { program := "ytmpdclbiopalaaa", sum := "2c4c3ef58ac46f4b51d430560e707a0f40b6062b8a195eebd88be5527b95fe08", func := "simulcast/simulcastlaw40.GraphAnew", spec := "graphAnew", unfollowed := true, recurses := true, apart := false, narrowed := true }
def GraphAnewUptoSaid : Prop := graphAnewUptoRow.holds Try.pinned (OpenSpec.upto graphAnewSpec)

/-- 'simulcastlaw37.TreeOrders', WHERE WHAT IT READS IS OF BULK AT MOST 1048576: true; the input reads as it did. -/
def treeOrdersUptoRow : OpenClaim := { program := "ytmpdclbiopalaaa", sum := "2c4c3ef58ac46f4b51d430560e707a0f40b6062b8a195eebd88be5527b95fe08", func := "simulcast/simulcastlaw37.TreeOrders", spec := "treeOrders", unfollowed := true, recurses := true, apart := false, narrowed := true }
def TreeOrdersUptoSaid : Prop := treeOrdersUptoRow.holds Try.pinned (OpenSpec.upto treeOrdersSpec)

/-- 'simulcastlaw37.TreeAnew', WHERE WHAT IT READS IS OF BULK AT MOST 1048576: true; the input reads as it did. -/
def treeAnewUptoRow : OpenClaim := { program := "ytmpdclbiopalaaa", sum := "2c4c3ef58ac46f4b51d430560e707a0f40b6062b8a195eebd88be5527b95fe08", func := "simulcast/simulcastlaw37.TreeAnew", spec := "treeAnew", unfollowed := true, recurses := true, apart := false, narrowed := true }
def TreeAnewUptoSaid : Prop := treeAnewUptoRow.holds Try.pinned (OpenSpec.upto treeAnewSpec)

end Rows
end Go.Proofs.Ytmpdclbiopalaaa
