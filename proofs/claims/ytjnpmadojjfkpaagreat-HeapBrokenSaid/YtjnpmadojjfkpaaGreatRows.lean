/-
  No cell of these rows narrows 'for every input' (looked for: loops, veiled, ifaces, maps, wideKeys, modest, calm, conditions, laid).
  DERIVED. THE GIVEN ROWS OF THIS SEAT. 7 by the template 'for every input the law returns true; each argument reads behind the call as it read before'; 0 by the template 'total and deterministic' (their statements: YtjnpmadojjfkpaaGreatTotals.lean).
  GIVEN WITH THE SEED: the statements are not yours to turn. If you find one false, say at which input.
  Laid BY PROGRAM, IN A SANDBOX (cutbox-rows.mjs): the forced cells as the released guide's own fill.sh prints them over the translation 078a67292bb03545… (all of the seat's roots in one cut). By AI agents, Wed Nov 11 2026. No macro, syntax, notation, axiom, sorry.
-/
import Derived.Test.YtjnpmadojjfkpaaGreatChecked
import GoSem.Claim
import GoSem.ClaimJoined
import GoSem.ClaimMapViews
import Derived.JoinedTies
import Derived.KernelRfl
namespace Go.Proofs.YtjnpmadojjfkpaaGreat
/- THE CELL 'sum', in the pinned program and in every row, IS THE sha256 OF THE DUMP (.gsa) THAT YtjnpmadojjfkpaaGreatProg.lean LOADS. Nothing in Lean hashes anything: it is a label: what it is worth is what the hold of that sum in a sandbox is worth. -/
noncomputable def Tryz.pinned : Pinned := { name := "ytjnpmadojjfkpaagreat", sum := "078a67292bb03545ef685d9db8c800aba2e15ecf318cfce7ee4a0b871dd36b2f", checked := Tryz.checked }
namespace Rows
def none {H : Type} : Left H := { results := [], args := [] }

/-- 'simulcastlaw38.HeapPlays': WHATEVER THE INPUT: true; the input reads as it did. -/
def heapPlaysSpec : ChangeSpec := { name := "heapPlays", fn := fun _ => fun
  | [d1, d2] => { results := [.lit (.bool true)], args := [d1, d2] }
  | _ => none }
def heapPlaysRow : OpenClaim := { program := "ytjnpmadojjfkpaagreat", sum := "078a67292bb03545ef685d9db8c800aba2e15ecf318cfce7ee4a0b871dd36b2f", func := "simulcast/simulcastlaw38.HeapPlays", spec := "heapPlays", unfollowed := true, recurses := true, apart := false }
def HeapPlaysSaid : Prop := heapPlaysRow.holds Tryz.pinned (OpenSpec.ofChange heapPlaysSpec)

/-- ITS FALSE NEIGHBOUR: 'it returns false'. Refute it at one input. -/
def heapPlaysWrong : ChangeSpec := { name := "heapPlays", fn := fun _ => fun
  | [d1, d2] => { results := [.lit (.bool false)], args := [d1, d2] }
  | _ => none }
def HeapPlaysWrongFalsely : Prop := heapPlaysRow.holds Tryz.pinned (OpenSpec.ofChange heapPlaysWrong)

/-- 'simulcastlaw38.HeapSorts': WHATEVER THE INPUT: true; the input reads as it did. -/
def heapSortsSpec : ChangeSpec := { name := "heapSorts", fn := fun _ => fun
  | [d1, d2, d3] => { results := [.lit (.bool true)], args := [d1, d2, d3] }
  | _ => none }
def heapSortsRow : OpenClaim := { program := "ytjnpmadojjfkpaagreat", sum := "078a67292bb03545ef685d9db8c800aba2e15ecf318cfce7ee4a0b871dd36b2f", func := "simulcast/simulcastlaw38.HeapSorts", spec := "heapSorts", unfollowed := true, recurses := true, apart := false }
def HeapSortsSaid : Prop := heapSortsRow.holds Tryz.pinned (OpenSpec.ofChange heapSortsSpec)

/-- ITS FALSE NEIGHBOUR: 'it returns false'. Refute it at one input. -/
def heapSortsWrong : ChangeSpec := { name := "heapSorts", fn := fun _ => fun
  | [d1, d2, d3] => { results := [.lit (.bool false)], args := [d1, d2, d3] }
  | _ => none }
def HeapSortsWrongFalsely : Prop := heapSortsRow.holds Tryz.pinned (OpenSpec.ofChange heapSortsWrong)

/-- 'simulcastlaw38.HeapStands': WHATEVER THE INPUT: true; the input reads as it did. -/
def heapStandsSpec : ChangeSpec := { name := "heapStands", fn := fun _ => fun
  | [d1, d2] => { results := [.lit (.bool true)], args := [d1, d2] }
  | _ => none }
def heapStandsRow : OpenClaim := { program := "ytjnpmadojjfkpaagreat", sum := "078a67292bb03545ef685d9db8c800aba2e15ecf318cfce7ee4a0b871dd36b2f", func := "simulcast/simulcastlaw38.HeapStands", spec := "heapStands", unfollowed := true, recurses := true, apart := false }
def HeapStandsSaid : Prop := heapStandsRow.holds Tryz.pinned (OpenSpec.ofChange heapStandsSpec)

/-- ITS FALSE NEIGHBOUR: 'it returns false'. Refute it at one input. -/
def heapStandsWrong : ChangeSpec := { name := "heapStands", fn := fun _ => fun
  | [d1, d2] => { results := [.lit (.bool false)], args := [d1, d2] }
  | _ => none }
def HeapStandsWrongFalsely : Prop := heapStandsRow.holds Tryz.pinned (OpenSpec.ofChange heapStandsWrong)

/-- 'simulcastlaw38.HeapHandles': WHATEVER THE INPUT: true; the input reads as it did. -/
def heapHandlesSpec : ChangeSpec := { name := "heapHandles", fn := fun _ => fun
  | [d1, d2, d3] => { results := [.lit (.bool true)], args := [d1, d2, d3] }
  | _ => none }
def heapHandlesRow : OpenClaim := { program := "ytjnpmadojjfkpaagreat", sum := "078a67292bb03545ef685d9db8c800aba2e15ecf318cfce7ee4a0b871dd36b2f", func := "simulcast/simulcastlaw38.HeapHandles", spec := "heapHandles", unfollowed := true, recurses := true, apart := false }
def HeapHandlesSaid : Prop := heapHandlesRow.holds Tryz.pinned (OpenSpec.ofChange heapHandlesSpec)

/-- ITS FALSE NEIGHBOUR: 'it returns false'. Refute it at one input. -/
def heapHandlesWrong : ChangeSpec := { name := "heapHandles", fn := fun _ => fun
  | [d1, d2, d3] => { results := [.lit (.bool false)], args := [d1, d2, d3] }
  | _ => none }
def HeapHandlesWrongFalsely : Prop := heapHandlesRow.holds Tryz.pinned (OpenSpec.ofChange heapHandlesWrong)

/-- 'simulcastlaw38.HeapFew': WHATEVER THE INPUT: true; the input reads as it did. -/
def heapFewSpec : ChangeSpec := { name := "heapFew", fn := fun _ => fun
  | [d1, d2, d3] => { results := [.lit (.bool true)], args := [d1, d2, d3] }
  | _ => none }
def heapFewRow : OpenClaim := { program := "ytjnpmadojjfkpaagreat", sum := "078a67292bb03545ef685d9db8c800aba2e15ecf318cfce7ee4a0b871dd36b2f", func := "simulcast/simulcastlaw38.HeapFew", spec := "heapFew", unfollowed := true, recurses := true, apart := false }
def HeapFewSaid : Prop := heapFewRow.holds Tryz.pinned (OpenSpec.ofChange heapFewSpec)

/-- ITS FALSE NEIGHBOUR: 'it returns false'. Refute it at one input. -/
def heapFewWrong : ChangeSpec := { name := "heapFew", fn := fun _ => fun
  | [d1, d2, d3] => { results := [.lit (.bool false)], args := [d1, d2, d3] }
  | _ => none }
def HeapFewWrongFalsely : Prop := heapFewRow.holds Tryz.pinned (OpenSpec.ofChange heapFewWrong)

/-- 'simulcastlaw38.HeapBroken': WHATEVER THE INPUT: true; the input reads as it did. -/
def heapBrokenSpec : ChangeSpec := { name := "heapBroken", fn := fun _ => fun
  | [d1, d2, d3] => { results := [.lit (.bool true)], args := [d1, d2, d3] }
  | _ => none }
def heapBrokenRow : OpenClaim := { program := "ytjnpmadojjfkpaagreat", sum := "078a67292bb03545ef685d9db8c800aba2e15ecf318cfce7ee4a0b871dd36b2f", func := "simulcast/simulcastlaw38.HeapBroken", spec := "heapBroken", unfollowed := true, recurses := true, apart := false }
def HeapBrokenSaid : Prop := heapBrokenRow.holds Tryz.pinned (OpenSpec.ofChange heapBrokenSpec)

/-- ITS FALSE NEIGHBOUR: 'it returns false'. Refute it at one input. -/
def heapBrokenWrong : ChangeSpec := { name := "heapBroken", fn := fun _ => fun
  | [d1, d2, d3] => { results := [.lit (.bool false)], args := [d1, d2, d3] }
  | _ => none }
def HeapBrokenWrongFalsely : Prop := heapBrokenRow.holds Tryz.pinned (OpenSpec.ofChange heapBrokenWrong)

/-- 'simulcastlaw38.HeapMerges': WHATEVER THE INPUT: true; the input reads as it did. -/
def heapMergesSpec : ChangeSpec := { name := "heapMerges", fn := fun _ => fun
  | [d1, d2] => { results := [.lit (.bool true)], args := [d1, d2] }
  | _ => none }
def heapMergesRow : OpenClaim := { program := "ytjnpmadojjfkpaagreat", sum := "078a67292bb03545ef685d9db8c800aba2e15ecf318cfce7ee4a0b871dd36b2f", func := "simulcast/simulcastlaw38.HeapMerges", spec := "heapMerges", unfollowed := true, recurses := true, apart := false }
def HeapMergesSaid : Prop := heapMergesRow.holds Tryz.pinned (OpenSpec.ofChange heapMergesSpec)

/-- ITS FALSE NEIGHBOUR: 'it returns false'. Refute it at one input. -/
def heapMergesWrong : ChangeSpec := { name := "heapMerges", fn := fun _ => fun
  | [d1, d2] => { results := [.lit (.bool false)], args := [d1, d2] }
  | _ => none }
def HeapMergesWrongFalsely : Prop := heapMergesRow.holds Tryz.pinned (OpenSpec.ofChange heapMergesWrong)

/- THE SECOND FORM. 'bulk': how many values and letters a reading holds, each counted each time it is reached (what is shared counts as often as it is met; a slice's spare places count too). A statement '..UptoSaid' is the law's where the arguments, and the package variables that the reading takes, are together of bulk at most 1048576: NARROWER than '..Said'. Prove '..Said' where nothing that the law and all that it calls make is longer than what came in: it says more and counts as full. Else prove '..UptoSaid'. A law counts once. -/
mutual
def uptoBulk {H : Type} : DataW H → Nat
  | .lit (.string bytes) => bytes.length + 1
  | .lit _ => 1
  | .nil => 1
  | .ptr d => uptoBulk d + 1
  | .slice elems spare => uptoBulkAll elems + uptoBulkAll spare + 1
  | .agg parts => uptoBulkAll parts + 1
  | .iface _ d => uptoBulk d + 1
  | .map entries => uptoBulkEntries entries + 1
  | .held _ => 1
def uptoBulkAll {H : Type} : List (DataW H) → Nat
  | [] => 0
  | d :: r => uptoBulk d + uptoBulkAll r
def uptoBulkEntries {H : Type} : List (Lit × DataW H) → Nat
  | [] => 0
  | x :: r => uptoBulkEntry x + uptoBulkEntries r
def uptoBulkEntry {H : Type} : Lit × DataW H → Nat
  | (.string bytes, d) => bytes.length + uptoBulk d + 1
  | (_, d) => uptoBulk d + 1
 end
def uptoSmall : (H : Type) → List (DataW H) → Bool := fun _ ds => decide (uptoBulkAll ds ≤ 1048576)
def OpenSpec.upto (s : _root_.Go.ChangeSpec) : _root_.Go.OpenSpec := { _root_.Go.OpenSpec.ofChange s with cond := some uptoSmall }

/-- 'simulcastlaw38.HeapPlays', WHERE WHAT IT READS IS OF BULK AT MOST 1048576: true; the input reads as it did. -/
def heapPlaysUptoRow : OpenClaim := { program := "ytjnpmadojjfkpaagreat", sum := "078a67292bb03545ef685d9db8c800aba2e15ecf318cfce7ee4a0b871dd36b2f", func := "simulcast/simulcastlaw38.HeapPlays", spec := "heapPlays", unfollowed := true, recurses := true, apart := false, narrowed := true }
def HeapPlaysUptoSaid : Prop := heapPlaysUptoRow.holds Tryz.pinned (OpenSpec.upto heapPlaysSpec)

/-- 'simulcastlaw38.HeapSorts', WHERE WHAT IT READS IS OF BULK AT MOST 1048576: true; the input reads as it did. -/
def heapSortsUptoRow : OpenClaim := { program := "ytjnpmadojjfkpaagreat", sum := "078a67292bb03545ef685d9db8c800aba2e15ecf318cfce7ee4a0b871dd36b2f", func := "simulcast/simulcastlaw38.HeapSorts", spec := "heapSorts", unfollowed := true, recurses := true, apart := false, narrowed := true }
def HeapSortsUptoSaid : Prop := heapSortsUptoRow.holds Tryz.pinned (OpenSpec.upto heapSortsSpec)

/-- 'simulcastlaw38.HeapStands', WHERE WHAT IT READS IS OF BULK AT MOST 1048576: true; the input reads as it did. -/
def heapStandsUptoRow : OpenClaim := { program := "ytjnpmadojjfkpaagreat", sum := "078a67292bb03545ef685d9db8c800aba2e15ecf318cfce7ee4a0b871dd36b2f", func := "simulcast/simulcastlaw38.HeapStands", spec := "heapStands", unfollowed := true, recurses := true, apart := false, narrowed := true }
def HeapStandsUptoSaid : Prop := heapStandsUptoRow.holds Tryz.pinned (OpenSpec.upto heapStandsSpec)

/-- 'simulcastlaw38.HeapHandles', WHERE WHAT IT READS IS OF BULK AT MOST 1048576: true; the input reads as it did. -/
def heapHandlesUptoRow : OpenClaim := { program := "ytjnpmadojjfkpaagreat", sum := "078a67292bb03545ef685d9db8c800aba2e15ecf318cfce7ee4a0b871dd36b2f", func := "simulcast/simulcastlaw38.HeapHandles", spec := "heapHandles", unfollowed := true, recurses := true, apart := false, narrowed := true }
def HeapHandlesUptoSaid : Prop := heapHandlesUptoRow.holds Tryz.pinned (OpenSpec.upto heapHandlesSpec)

/-- 'simulcastlaw38.HeapFew', WHERE WHAT IT READS IS OF BULK AT MOST 1048576: true; the input reads as it did. -/
def heapFewUptoRow : OpenClaim := { program := "ytjnpmadojjfkpaagreat", sum := "078a67292bb03545ef685d9db8c800aba2e15ecf318cfce7ee4a0b871dd36b2f", func := "simulcast/simulcastlaw38.HeapFew", spec := "heapFew", unfollowed := true, recurses := true, apart := false, narrowed := true }
def HeapFewUptoSaid : Prop := heapFewUptoRow.holds Tryz.pinned (OpenSpec.upto heapFewSpec)

/-- 'simulcastlaw38.HeapBroken', WHERE WHAT IT READS IS OF BULK AT MOST 1048576: true; the input reads as it did. -/
def heapBrokenUptoRow : OpenClaim := { program := "ytjnpmadojjfkpaagreat", sum := "078a67292bb03545ef685d9db8c800aba2e15ecf318cfce7ee4a0b871dd36b2f", func := "simulcast/simulcastlaw38.HeapBroken", spec := "heapBroken", unfollowed := true, recurses := true, apart := false, narrowed := true }
def HeapBrokenUptoSaid : Prop := heapBrokenUptoRow.holds Tryz.pinned (OpenSpec.upto heapBrokenSpec)

/-- 'simulcastlaw38.HeapMerges', WHERE WHAT IT READS IS OF BULK AT MOST 1048576: true; the input reads as it did. -/
def heapMergesUptoRow : OpenClaim := { program := "ytjnpmadojjfkpaagreat", sum := "078a67292bb03545ef685d9db8c800aba2e15ecf318cfce7ee4a0b871dd36b2f", func := "simulcast/simulcastlaw38.HeapMerges", spec := "heapMerges", unfollowed := true, recurses := true, apart := false, narrowed := true }
def HeapMergesUptoSaid : Prop := heapMergesUptoRow.holds Tryz.pinned (OpenSpec.upto heapMergesSpec)

end Rows
end Go.Proofs.YtjnpmadojjfkpaaGreat
