/-
  No cell of these rows narrows 'for every input' (looked for: loops, veiled, ifaces, maps, wideKeys, modest, calm, conditions, laid).
  DERIVED. THE GIVEN ROWS OF THIS SEAT. 10 by the template 'for every input the law returns true; each argument reads behind the call as it read before'; 0 by the template 'total and deterministic' (their statements: YtalhmlnmbgpleaaTotals.lean).
  GIVEN WITH THE SEED: the statements are not yours to turn. If you find one false, say at which input.
  Laid BY PROGRAM, IN A SANDBOX (cutbox-rows.mjs): the forced cells as the released guide's own fill.sh prints them over the translation 8d73d08333c78894… (all of the seat's roots in one cut). By AI agents, Wed Nov 11 2026. No macro, syntax, notation, axiom, sorry.
-/
import Derived.Test.YtalhmlnmbgpleaaChecked
import GoSem.Claim
import GoSem.ClaimJoined
import GoSem.ClaimMapViews
import Derived.JoinedTies
import Derived.KernelRfl
namespace Go.Proofs.Ytalhmlnmbgpleaa
/- THE CELL 'sum', in the pinned program and in every row, IS THE sha256 OF THE DUMP (.gsa) THAT YtalhmlnmbgpleaaProg.lean LOADS. Nothing in Lean hashes anything: it is a label: what it is worth is what the hold of that sum in a sandbox is worth. -/
noncomputable def Try.pinned : Pinned := { name := "ytalhmlnmbgpleaa", sum := "8d73d08333c78894fbf73b75a6c4b0fd2a35989365bff6a0d2ff34196758566f", checked := Try.checked }
namespace Rows
def none {H : Type} : Left H := { results := [], args := [] }

/-- 'simulcastlaw32.CounterActs': WHATEVER THE INPUT: true; the input reads as it did. -/
def counterActsSpec : ChangeSpec := { name := "counterActs", fn := fun _ => fun
  | [d1, d2] => { results := [.lit (.bool true)], args := [d1, d2] }
  | _ => none }
def counterActsRow : OpenClaim := { program := "ytalhmlnmbgpleaa", sum := "8d73d08333c78894fbf73b75a6c4b0fd2a35989365bff6a0d2ff34196758566f", func := "simulcast/simulcastlaw32.CounterActs", spec := "counterActs", unfollowed := true, recurses := true, apart := false }
def CounterActsSaid : Prop := counterActsRow.holds Try.pinned (OpenSpec.ofChange counterActsSpec)

/-- ITS FALSE NEIGHBOUR: 'it returns false'. Refute it at one input. -/
def counterActsWrong : ChangeSpec := { name := "counterActs", fn := fun _ => fun
  | [d1, d2] => { results := [.lit (.bool false)], args := [d1, d2] }
  | _ => none }
def CounterActsWrongFalsely : Prop := counterActsRow.holds Try.pinned (OpenSpec.ofChange counterActsWrong)

/-- 'simulcastlaw32.CounterSums': WHATEVER THE INPUT: true; the input reads as it did. -/
def counterSumsSpec : ChangeSpec := { name := "counterSums", fn := fun _ => fun
  | [d1, d2] => { results := [.lit (.bool true)], args := [d1, d2] }
  | _ => none }
def counterSumsRow : OpenClaim := { program := "ytalhmlnmbgpleaa", sum := "8d73d08333c78894fbf73b75a6c4b0fd2a35989365bff6a0d2ff34196758566f", func := "simulcast/simulcastlaw32.CounterSums", spec := "counterSums", unfollowed := true, recurses := true, apart := false }
def CounterSumsSaid : Prop := counterSumsRow.holds Try.pinned (OpenSpec.ofChange counterSumsSpec)

/-- ITS FALSE NEIGHBOUR: 'it returns false'. Refute it at one input. -/
def counterSumsWrong : ChangeSpec := { name := "counterSums", fn := fun _ => fun
  | [d1, d2] => { results := [.lit (.bool false)], args := [d1, d2] }
  | _ => none }
def CounterSumsWrongFalsely : Prop := counterSumsRow.holds Try.pinned (OpenSpec.ofChange counterSumsWrong)

/-- 'simulcastlaw32.CounterBack': WHATEVER THE INPUT: true; the input reads as it did. -/
def counterBackSpec : ChangeSpec := { name := "counterBack", fn := fun _ => fun
  | [d1, d2] => { results := [.lit (.bool true)], args := [d1, d2] }
  | _ => none }
def counterBackRow : OpenClaim := { program := "ytalhmlnmbgpleaa", sum := "8d73d08333c78894fbf73b75a6c4b0fd2a35989365bff6a0d2ff34196758566f", func := "simulcast/simulcastlaw32.CounterBack", spec := "counterBack", unfollowed := true, recurses := true, apart := false }
def CounterBackSaid : Prop := counterBackRow.holds Try.pinned (OpenSpec.ofChange counterBackSpec)

/-- ITS FALSE NEIGHBOUR: 'it returns false'. Refute it at one input. -/
def counterBackWrong : ChangeSpec := { name := "counterBack", fn := fun _ => fun
  | [d1, d2] => { results := [.lit (.bool false)], args := [d1, d2] }
  | _ => none }
def CounterBackWrongFalsely : Prop := counterBackRow.holds Try.pinned (OpenSpec.ofChange counterBackWrong)

/-- 'simulcastlaw32.CounterOwn': WHATEVER THE INPUT: true; the input reads as it did. -/
def counterOwnSpec : ChangeSpec := { name := "counterOwn", fn := fun _ => fun
  | [d1, d2] => { results := [.lit (.bool true)], args := [d1, d2] }
  | _ => none }
def counterOwnRow : OpenClaim := { program := "ytalhmlnmbgpleaa", sum := "8d73d08333c78894fbf73b75a6c4b0fd2a35989365bff6a0d2ff34196758566f", func := "simulcast/simulcastlaw32.CounterOwn", spec := "counterOwn", unfollowed := true, recurses := true, apart := false }
def CounterOwnSaid : Prop := counterOwnRow.holds Try.pinned (OpenSpec.ofChange counterOwnSpec)

/-- ITS FALSE NEIGHBOUR: 'it returns false'. Refute it at one input. -/
def counterOwnWrong : ChangeSpec := { name := "counterOwn", fn := fun _ => fun
  | [d1, d2] => { results := [.lit (.bool false)], args := [d1, d2] }
  | _ => none }
def CounterOwnWrongFalsely : Prop := counterOwnRow.holds Try.pinned (OpenSpec.ofChange counterOwnWrong)

/-- 'simulcastlaw32.CounterMoves': WHATEVER THE INPUT: true; the input reads as it did. -/
def counterMovesSpec : ChangeSpec := { name := "counterMoves", fn := fun _ => fun
  | [d1, d2, d3, d4] => { results := [.lit (.bool true)], args := [d1, d2, d3, d4] }
  | _ => none }
def counterMovesRow : OpenClaim := { program := "ytalhmlnmbgpleaa", sum := "8d73d08333c78894fbf73b75a6c4b0fd2a35989365bff6a0d2ff34196758566f", func := "simulcast/simulcastlaw32.CounterMoves", spec := "counterMoves", unfollowed := true, recurses := true, apart := false }
def CounterMovesSaid : Prop := counterMovesRow.holds Try.pinned (OpenSpec.ofChange counterMovesSpec)

/-- ITS FALSE NEIGHBOUR: 'it returns false'. Refute it at one input. -/
def counterMovesWrong : ChangeSpec := { name := "counterMoves", fn := fun _ => fun
  | [d1, d2, d3, d4] => { results := [.lit (.bool false)], args := [d1, d2, d3, d4] }
  | _ => none }
def CounterMovesWrongFalsely : Prop := counterMovesRow.holds Try.pinned (OpenSpec.ofChange counterMovesWrong)

/-- 'simulcastlaw35.DequeActs': WHATEVER THE INPUT: true; the input reads as it did. -/
def dequeActsSpec : ChangeSpec := { name := "dequeActs", fn := fun _ => fun
  | [d1, d2] => { results := [.lit (.bool true)], args := [d1, d2] }
  | _ => none }
def dequeActsRow : OpenClaim := { program := "ytalhmlnmbgpleaa", sum := "8d73d08333c78894fbf73b75a6c4b0fd2a35989365bff6a0d2ff34196758566f", func := "simulcast/simulcastlaw35.DequeActs", spec := "dequeActs", unfollowed := true, recurses := true, apart := false }
def DequeActsSaid : Prop := dequeActsRow.holds Try.pinned (OpenSpec.ofChange dequeActsSpec)

/-- ITS FALSE NEIGHBOUR: 'it returns false'. Refute it at one input. -/
def dequeActsWrong : ChangeSpec := { name := "dequeActs", fn := fun _ => fun
  | [d1, d2] => { results := [.lit (.bool false)], args := [d1, d2] }
  | _ => none }
def DequeActsWrongFalsely : Prop := dequeActsRow.holds Try.pinned (OpenSpec.ofChange dequeActsWrong)

/-- 'simulcastlaw35.DequeEnds': WHATEVER THE INPUT: true; the input reads as it did. -/
def dequeEndsSpec : ChangeSpec := { name := "dequeEnds", fn := fun _ => fun
  | [d1, d2, d3] => { results := [.lit (.bool true)], args := [d1, d2, d3] }
  | _ => none }
def dequeEndsRow : OpenClaim := { program := "ytalhmlnmbgpleaa", sum := "8d73d08333c78894fbf73b75a6c4b0fd2a35989365bff6a0d2ff34196758566f", func := "simulcast/simulcastlaw35.DequeEnds", spec := "dequeEnds", unfollowed := true, recurses := true, apart := false }
def DequeEndsSaid : Prop := dequeEndsRow.holds Try.pinned (OpenSpec.ofChange dequeEndsSpec)

/-- ITS FALSE NEIGHBOUR: 'it returns false'. Refute it at one input. -/
def dequeEndsWrong : ChangeSpec := { name := "dequeEnds", fn := fun _ => fun
  | [d1, d2, d3] => { results := [.lit (.bool false)], args := [d1, d2, d3] }
  | _ => none }
def DequeEndsWrongFalsely : Prop := dequeEndsRow.holds Try.pinned (OpenSpec.ofChange dequeEndsWrong)

/-- 'simulcastlaw35.DequeOther': WHATEVER THE INPUT: true; the input reads as it did. -/
def dequeOtherSpec : ChangeSpec := { name := "dequeOther", fn := fun _ => fun
  | [d1, d2] => { results := [.lit (.bool true)], args := [d1, d2] }
  | _ => none }
def dequeOtherRow : OpenClaim := { program := "ytalhmlnmbgpleaa", sum := "8d73d08333c78894fbf73b75a6c4b0fd2a35989365bff6a0d2ff34196758566f", func := "simulcast/simulcastlaw35.DequeOther", spec := "dequeOther", unfollowed := true, recurses := true, apart := false }
def DequeOtherSaid : Prop := dequeOtherRow.holds Try.pinned (OpenSpec.ofChange dequeOtherSpec)

/-- ITS FALSE NEIGHBOUR: 'it returns false'. Refute it at one input. -/
def dequeOtherWrong : ChangeSpec := { name := "dequeOther", fn := fun _ => fun
  | [d1, d2] => { results := [.lit (.bool false)], args := [d1, d2] }
  | _ => none }
def DequeOtherWrongFalsely : Prop := dequeOtherRow.holds Try.pinned (OpenSpec.ofChange dequeOtherWrong)

/-- 'simulcastlaw35.DequeMirror': WHATEVER THE INPUT: true; the input reads as it did. -/
def dequeMirrorSpec : ChangeSpec := { name := "dequeMirror", fn := fun _ => fun
  | [d] => { results := [.lit (.bool true)], args := [d] }
  | _ => none }
def dequeMirrorRow : OpenClaim := { program := "ytalhmlnmbgpleaa", sum := "8d73d08333c78894fbf73b75a6c4b0fd2a35989365bff6a0d2ff34196758566f", func := "simulcast/simulcastlaw35.DequeMirror", spec := "dequeMirror", unfollowed := true, recurses := true, apart := false }
def DequeMirrorSaid : Prop := dequeMirrorRow.holds Try.pinned (OpenSpec.ofChange dequeMirrorSpec)

/-- ITS FALSE NEIGHBOUR: 'it returns false'. Refute it at one input. -/
def dequeMirrorWrong : ChangeSpec := { name := "dequeMirror", fn := fun _ => fun
  | [d] => { results := [.lit (.bool false)], args := [d] }
  | _ => none }
def DequeMirrorWrongFalsely : Prop := dequeMirrorRow.holds Try.pinned (OpenSpec.ofChange dequeMirrorWrong)

/-- 'simulcastlaw35.DequeRefused': WHATEVER THE INPUT: true; the input reads as it did. -/
def dequeRefusedSpec : ChangeSpec := { name := "dequeRefused", fn := fun _ => fun
  | [d1, d2] => { results := [.lit (.bool true)], args := [d1, d2] }
  | _ => none }
def dequeRefusedRow : OpenClaim := { program := "ytalhmlnmbgpleaa", sum := "8d73d08333c78894fbf73b75a6c4b0fd2a35989365bff6a0d2ff34196758566f", func := "simulcast/simulcastlaw35.DequeRefused", spec := "dequeRefused", unfollowed := true, recurses := true, apart := false }
def DequeRefusedSaid : Prop := dequeRefusedRow.holds Try.pinned (OpenSpec.ofChange dequeRefusedSpec)

/-- ITS FALSE NEIGHBOUR: 'it returns false'. Refute it at one input. -/
def dequeRefusedWrong : ChangeSpec := { name := "dequeRefused", fn := fun _ => fun
  | [d1, d2] => { results := [.lit (.bool false)], args := [d1, d2] }
  | _ => none }
def DequeRefusedWrongFalsely : Prop := dequeRefusedRow.holds Try.pinned (OpenSpec.ofChange dequeRefusedWrong)

/- THE SECOND FORM. 'bulk': how many values and letters a reading holds, each counted each time it is reached (what is shared counts as often as it is met; a slice's spare places count too). A statement '..UptoSaid' is the law's where the arguments, and the package variables that the reading takes, are together of bulk at most 1048576: NARROWER than '..Said'. Prove '..Said' where nothing that the law and all that it calls make is longer than what came in: it says more and counts as full. Else prove '..UptoSaid'. A law counts once. -/
mutual
def uptoBulk {H : Type} : DataW H → Nat
  | .lit (.string bytes) => bytes.length + 1
  | .lit _ => 1
  | .nil => 1
  | .ptr d => uptoBulk d + 1
  | .slice elems spare => uptoBulkAll elems + uptoBulkAll spare + 1
  | .agg parts => uptoBulkAll parts + 1
  | .iface _ d => uptoBulk d + 1
  | .map entries => uptoBulkEntries entries + 1
  | .held _ => 1
def uptoBulkAll {H : Type} : List (DataW H) → Nat
  | [] => 0
  | d :: r => uptoBulk d + uptoBulkAll r
def uptoBulkEntries {H : Type} : List (Lit × DataW H) → Nat
  | [] => 0
  | x :: r => uptoBulkEntry x + uptoBulkEntries r
def uptoBulkEntry {H : Type} : Lit × DataW H → Nat
  | (.string bytes, d) => bytes.length + uptoBulk d + 1
  | (_, d) => uptoBulk d + 1
 end
def uptoSmall : (H : Type) → List (DataW H) → Bool := fun _ ds => decide (uptoBulkAll ds ≤ 1048576)
def OpenSpec.upto (s : _root_.Go.ChangeSpec) : _root_.Go.OpenSpec := { _root_.Go.OpenSpec.ofChange s with cond := some uptoSmall }

/-- 'simulcastlaw32.CounterActs', WHERE WHAT IT READS IS OF BULK AT MOST 1048576: true; the input reads as it did. -/
def counterActsUptoRow : OpenClaim := { program := "ytalhmlnmbgpleaa", sum := "8d73d08333c78894fbf73b75a6c4b0fd2a35989365bff6a0d2ff34196758566f", func := "simulcast/simulcastlaw32.CounterActs", spec := "counterActs", unfollowed := true, recurses := true, apart := false, narrowed := true }
def CounterActsUptoSaid : Prop := counterActsUptoRow.holds Try.pinned (OpenSpec.upto counterActsSpec)

/-- 'simulcastlaw32.CounterSums', WHERE WHAT IT READS IS OF BULK AT MOST 1048576: true; the input reads as it did. -/
def counterSumsUptoRow : OpenClaim := { program := "ytalhmlnmbgpleaa", sum := "8d73d08333c78894fbf73b75a6c4b0fd2a35989365bff6a0d2ff34196758566f", func := "simulcast/simulcastlaw32.CounterSums", spec := "counterSums", unfollowed := true, recurses := true, apart := false, narrowed := true }
def CounterSumsUptoSaid : Prop := counterSumsUptoRow.holds Try.pinned (OpenSpec.upto counterSumsSpec)

/-- 'simulcastlaw32.CounterBack', WHERE WHAT IT READS IS OF BULK AT MOST 1048576: true; the input reads as it did. -/
def counterBackUptoRow : OpenClaim := { program := "ytalhmlnmbgpleaa", sum := "8d73d08333c78894fbf73b75a6c4b0fd2a35989365bff6a0d2ff34196758566f", func := "simulcast/simulcastlaw32.CounterBack", spec := "counterBack", unfollowed := true, recurses := true, apart := false, narrowed := true }
def CounterBackUptoSaid : Prop := counterBackUptoRow.holds Try.pinned (OpenSpec.upto counterBackSpec)

/-- 'simulcastlaw32.CounterOwn', WHERE WHAT IT READS IS OF BULK AT MOST 1048576: true; the input reads as it did. -/
def counterOwnUptoRow : OpenClaim := { program := "ytalhmlnmbgpleaa", sum := "8d73d08333c78894fbf73b75a6c4b0fd2a35989365bff6a0d2ff34196758566f", func := "simulcast/simulcastlaw32.CounterOwn", spec := "counterOwn", unfollowed := true, recurses := true, apart := false, narrowed := true }
def CounterOwnUptoSaid : Prop := counterOwnUptoRow.holds Try.pinned (OpenSpec.upto counterOwnSpec)

/-- 'simulcastlaw32.CounterMoves', WHERE WHAT IT READS IS OF BULK AT MOST 1048576: true; the input reads as it did. -/
def counterMovesUptoRow : OpenClaim := { program := "ytalhmlnmbgpleaa", sum := "8d73d08333c78894fbf73b75a6c4b0fd2a35989365bff6a0d2ff34196758566f", func := "simulcast/simulcastlaw32.CounterMoves", spec := "counterMoves", unfollowed := true, recurses := true, apart := false, narrowed := true }
def CounterMovesUptoSaid : Prop := counterMovesUptoRow.holds Try.pinned (OpenSpec.upto counterMovesSpec)

/-- 'simulcastlaw35.DequeActs', WHERE WHAT IT READS IS OF BULK AT MOST 1048576: true; the input reads as it did. -/
def dequeActsUptoRow : OpenClaim := { program := "ytalhmlnmbgpleaa", sum := "8d73d08333c78894fbf73b75a6c4b0fd2a35989365bff6a0d2ff34196758566f", func := "simulcast/simulcastlaw35.DequeActs", spec := "dequeActs", unfollowed := true, recurses := true, apart := false, narrowed := true }
def DequeActsUptoSaid : Prop := dequeActsUptoRow.holds Try.pinned (OpenSpec.upto dequeActsSpec)

/-- 'simulcastlaw35.DequeEnds', WHERE WHAT IT READS IS OF BULK AT MOST 1048576: true; the input reads as it did. -/
def dequeEndsUptoRow : OpenClaim := { program := "ytalhmlnmbgpleaa", sum := "8d73d08333c78894fbf73b75a6c4b0fd2a35989365bff6a0d2ff34196758566f", func := "simulcast/simulcastlaw35.DequeEnds", spec := "dequeEnds", unfollowed := true, recurses := true, apart := false, narrowed := true }
def DequeEndsUptoSaid : Prop := dequeEndsUptoRow.holds Try.pinned (OpenSpec.upto dequeEndsSpec)

/-- 'simulcastlaw35.DequeOther', WHERE WHAT IT READS IS OF BULK AT MOST 1048576: true; the input reads as it did. -/
def dequeOtherUptoRow : OpenClaim := { program := "ytalhmlnmbgpleaa", sum := "8d73d08333c78894fbf73b75a6c4b0fd2a35989365bff6a0d2ff34196758566f", func := "simulcast/simulcastlaw35.DequeOther", spec := "dequeOther", unfollowed := true, recurses := true, apart := false, narrowed := true }
def DequeOtherUptoSaid : Prop := dequeOtherUptoRow.holds Try.pinned (OpenSpec.upto dequeOtherSpec)

/-- 'simulcastlaw35.DequeMirror', WHERE WHAT IT READS IS OF BULK AT MOST 1048576: true; the input reads as it did. -/
def dequeMirrorUptoRow : OpenClaim := { program := "ytalhmlnmbgpleaa", sum := "8d73d08333c78894fbf73b75a6c4b0fd2a35989365bff6a0d2ff34196758566f", func := "simulcast/simulcastlaw35.DequeMirror", spec := "dequeMirror", unfollowed := true, recurses := true, apart := false, narrowed := true }
def DequeMirrorUptoSaid : Prop := dequeMirrorUptoRow.holds Try.pinned (OpenSpec.upto dequeMirrorSpec)

/-- 'simulcastlaw35.DequeRefused', WHERE WHAT IT READS IS OF BULK AT MOST 1048576: true; the input reads as it did. -/
def dequeRefusedUptoRow : OpenClaim := { program := "ytalhmlnmbgpleaa", sum := "8d73d08333c78894fbf73b75a6c4b0fd2a35989365bff6a0d2ff34196758566f", func := "simulcast/simulcastlaw35.DequeRefused", spec := "dequeRefused", unfollowed := true, recurses := true, apart := false, narrowed := true }
def DequeRefusedUptoSaid : Prop := dequeRefusedUptoRow.holds Try.pinned (OpenSpec.upto dequeRefusedSpec)

end Rows
end Go.Proofs.Ytalhmlnmbgpleaa
