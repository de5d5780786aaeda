/-
  No cell of these rows narrows 'for every input' (looked for: loops, veiled, ifaces, maps, wideKeys, modest, calm, conditions, laid).
  DERIVED. THE GIVEN ROWS OF THIS SEAT. 7 by the template 'for every input the law returns true; each argument reads behind the call as it read before'; 0 by the template 'total and deterministic' (their statements: YtbdnfljpgcpbaaaTotals.lean).
  GIVEN WITH THE SEED: the statements are not yours to turn. If you find one false, say at which input.
  Laid BY PROGRAM, IN A SANDBOX (cutbox-rows.mjs): the forced cells as the released guide's own fill.sh prints them over the translation 575ba3eaaf801ca7… (all of the seat's roots in one cut). By AI agents, Wed Nov 11 2026. No macro, syntax, notation, axiom, sorry.
-/
import Derived.Test.YtbdnfljpgcpbaaaChecked
import GoSem.Claim
import GoSem.ClaimJoined
import GoSem.ClaimMapViews
import Derived.JoinedTies
import Derived.KernelRfl
namespace Go.Proofs.Ytbdnfljpgcpbaaa
/- THE CELL 'sum', in the pinned program and in every row, IS THE sha256 OF THE DUMP (.gsa) THAT YtbdnfljpgcpbaaaProg.lean LOADS. Nothing in Lean hashes anything: it is a label: what it is worth is what the hold of that sum in a sandbox is worth. -/
noncomputable def Try.pinned : Pinned := { name := "ytbdnfljpgcpbaaa", sum := "575ba3eaaf801ca70a54acc45ab788271ce3187d715fcace7f2b04fe3399827b", checked := Try.checked }
namespace Rows
def none {H : Type} : Left H := { results := [], args := [] }

/-- 'simulcastlaw53.EliminatePairs': WHATEVER THE INPUT: true; the input reads as it did. -/
def eliminatePairsSpec : ChangeSpec := { name := "eliminatePairs", fn := fun _ => fun
  | [d] => { results := [.lit (.bool true)], args := [d] }
  | _ => none }
def eliminatePairsRow : OpenClaim := { program := "ytbdnfljpgcpbaaa", sum := "575ba3eaaf801ca70a54acc45ab788271ce3187d715fcace7f2b04fe3399827b", func := "simulcast/simulcastlaw53.EliminatePairs", spec := "eliminatePairs", apart := false }
def EliminatePairsSaid : Prop := eliminatePairsRow.holds Try.pinned (OpenSpec.ofChange eliminatePairsSpec)

/-- ITS FALSE NEIGHBOUR: 'it returns false'. Refute it at one input. -/
def eliminatePairsWrong : ChangeSpec := { name := "eliminatePairs", fn := fun _ => fun
  | [d] => { results := [.lit (.bool false)], args := [d] }
  | _ => none }
def EliminatePairsWrongFalsely : Prop := eliminatePairsRow.holds Try.pinned (OpenSpec.ofChange eliminatePairsWrong)

/-- 'simulcastlaw53.EliminateFast': WHATEVER THE INPUT: true; the input reads as it did. -/
def eliminateFastSpec : ChangeSpec := { name := "eliminateFast", fn := fun _ => fun
  | [d1, d2] => { results := [.lit (.bool true)], args := [d1, d2] }
  | _ => none }
def eliminateFastRow : OpenClaim := { program := "ytbdnfljpgcpbaaa", sum := "575ba3eaaf801ca70a54acc45ab788271ce3187d715fcace7f2b04fe3399827b", func := "simulcast/simulcastlaw53.EliminateFast", spec := "eliminateFast", apart := false }
def EliminateFastSaid : Prop := eliminateFastRow.holds Try.pinned (OpenSpec.ofChange eliminateFastSpec)

/-- ITS FALSE NEIGHBOUR: 'it returns false'. Refute it at one input. -/
def eliminateFastWrong : ChangeSpec := { name := "eliminateFast", fn := fun _ => fun
  | [d1, d2] => { results := [.lit (.bool false)], args := [d1, d2] }
  | _ => none }
def EliminateFastWrongFalsely : Prop := eliminateFastRow.holds Try.pinned (OpenSpec.ofChange eliminateFastWrong)

/-- 'simulcastlaw53.EliminateSpares': WHATEVER THE INPUT: true; the input reads as it did. -/
def eliminateSparesSpec : ChangeSpec := { name := "eliminateSpares", fn := fun _ => fun
  | [d1, d2, d3] => { results := [.lit (.bool true)], args := [d1, d2, d3] }
  | _ => none }
def eliminateSparesRow : OpenClaim := { program := "ytbdnfljpgcpbaaa", sum := "575ba3eaaf801ca70a54acc45ab788271ce3187d715fcace7f2b04fe3399827b", func := "simulcast/simulcastlaw53.EliminateSpares", spec := "eliminateSpares", apart := false }
def EliminateSparesSaid : Prop := eliminateSparesRow.holds Try.pinned (OpenSpec.ofChange eliminateSparesSpec)

/-- ITS FALSE NEIGHBOUR: 'it returns false'. Refute it at one input. -/
def eliminateSparesWrong : ChangeSpec := { name := "eliminateSpares", fn := fun _ => fun
  | [d1, d2, d3] => { results := [.lit (.bool false)], args := [d1, d2, d3] }
  | _ => none }
def EliminateSparesWrongFalsely : Prop := eliminateSparesRow.holds Try.pinned (OpenSpec.ofChange eliminateSparesWrong)

/-- 'simulcastlaw53.EliminateApplies': WHATEVER THE INPUT: true; the input reads as it did. -/
def eliminateAppliesSpec : ChangeSpec := { name := "eliminateApplies", fn := fun _ => fun
  | [d1, d2] => { results := [.lit (.bool true)], args := [d1, d2] }
  | _ => none }
def eliminateAppliesRow : OpenClaim := { program := "ytbdnfljpgcpbaaa", sum := "575ba3eaaf801ca70a54acc45ab788271ce3187d715fcace7f2b04fe3399827b", func := "simulcast/simulcastlaw53.EliminateApplies", spec := "eliminateApplies", apart := false }
def EliminateAppliesSaid : Prop := eliminateAppliesRow.holds Try.pinned (OpenSpec.ofChange eliminateAppliesSpec)

/-- ITS FALSE NEIGHBOUR: 'it returns false'. Refute it at one input. -/
def eliminateAppliesWrong : ChangeSpec := { name := "eliminateApplies", fn := fun _ => fun
  | [d1, d2] => { results := [.lit (.bool false)], args := [d1, d2] }
  | _ => none }
def EliminateAppliesWrongFalsely : Prop := eliminateAppliesRow.holds Try.pinned (OpenSpec.ofChange eliminateAppliesWrong)

/-- 'simulcastlaw53.EliminateWitness': WHATEVER THE INPUT: true; the input reads as it did. -/
def eliminateWitnessSpec : ChangeSpec := { name := "eliminateWitness", fn := fun _ => fun
  | [d1, d2] => { results := [.lit (.bool true)], args := [d1, d2] }
  | _ => none }
def eliminateWitnessRow : OpenClaim := { program := "ytbdnfljpgcpbaaa", sum := "575ba3eaaf801ca70a54acc45ab788271ce3187d715fcace7f2b04fe3399827b", func := "simulcast/simulcastlaw53.EliminateWitness", spec := "eliminateWitness", apart := false }
def EliminateWitnessSaid : Prop := eliminateWitnessRow.holds Try.pinned (OpenSpec.ofChange eliminateWitnessSpec)

/-- ITS FALSE NEIGHBOUR: 'it returns false'. Refute it at one input. -/
def eliminateWitnessWrong : ChangeSpec := { name := "eliminateWitness", fn := fun _ => fun
  | [d1, d2] => { results := [.lit (.bool false)], args := [d1, d2] }
  | _ => none }
def EliminateWitnessWrongFalsely : Prop := eliminateWitnessRow.holds Try.pinned (OpenSpec.ofChange eliminateWitnessWrong)

/-- 'simulcastlaw53.EliminateAlone': WHATEVER THE INPUT: true; the input reads as it did. -/
def eliminateAloneSpec : ChangeSpec := { name := "eliminateAlone", fn := fun _ => fun
  | [d1, d2, d3] => { results := [.lit (.bool true)], args := [d1, d2, d3] }
  | _ => none }
def eliminateAloneRow : OpenClaim := { program := "ytbdnfljpgcpbaaa", sum := "575ba3eaaf801ca70a54acc45ab788271ce3187d715fcace7f2b04fe3399827b", func := "simulcast/simulcastlaw53.EliminateAlone", spec := "eliminateAlone", apart := false }
def EliminateAloneSaid : Prop := eliminateAloneRow.holds Try.pinned (OpenSpec.ofChange eliminateAloneSpec)

/-- ITS FALSE NEIGHBOUR: 'it returns false'. Refute it at one input. -/
def eliminateAloneWrong : ChangeSpec := { name := "eliminateAlone", fn := fun _ => fun
  | [d1, d2, d3] => { results := [.lit (.bool false)], args := [d1, d2, d3] }
  | _ => none }
def EliminateAloneWrongFalsely : Prop := eliminateAloneRow.holds Try.pinned (OpenSpec.ofChange eliminateAloneWrong)

/-- 'simulcastlaw53.EliminateConserves': WHATEVER THE INPUT: true; the input reads as it did. -/
def eliminateConservesSpec : ChangeSpec := { name := "eliminateConserves", fn := fun _ => fun
  | [d1, d2] => { results := [.lit (.bool true)], args := [d1, d2] }
  | _ => none }
def eliminateConservesRow : OpenClaim := { program := "ytbdnfljpgcpbaaa", sum := "575ba3eaaf801ca70a54acc45ab788271ce3187d715fcace7f2b04fe3399827b", func := "simulcast/simulcastlaw53.EliminateConserves", spec := "eliminateConserves", apart := false }
def EliminateConservesSaid : Prop := eliminateConservesRow.holds Try.pinned (OpenSpec.ofChange eliminateConservesSpec)

/-- ITS FALSE NEIGHBOUR: 'it returns false'. Refute it at one input. -/
def eliminateConservesWrong : ChangeSpec := { name := "eliminateConserves", fn := fun _ => fun
  | [d1, d2] => { results := [.lit (.bool false)], args := [d1, d2] }
  | _ => none }
def EliminateConservesWrongFalsely : Prop := eliminateConservesRow.holds Try.pinned (OpenSpec.ofChange eliminateConservesWrong)

/- THE SECOND FORM. 'bulk': how many values and letters a reading holds, each counted each time it is reached (what is shared counts as often as it is met; a slice's spare places count too). A statement '..UptoSaid' is the law's where the arguments, and the package variables that the reading takes, are together of bulk at most 1048576: NARROWER than '..Said'. Prove '..Said' where nothing that the law and all that it calls make is longer than what came in: it says more and counts as full. Else prove '..UptoSaid'. A law counts once. -/
mutual
def uptoBulk {H : Type} : DataW H → Nat
  | .lit (.string bytes) => bytes.length + 1
  | .lit _ => 1
  | .nil => 1
  | .ptr d => uptoBulk d + 1
  | .slice elems spare => uptoBulkAll elems + uptoBulkAll spare + 1
  | .agg parts => uptoBulkAll parts + 1
  | .iface _ d => uptoBulk d + 1
  | .map entries => uptoBulkEntries entries + 1
  | .held _ => 1
def uptoBulkAll {H : Type} : List (DataW H) → Nat
  | [] => 0
  | d :: r => uptoBulk d + uptoBulkAll r
def uptoBulkEntries {H : Type} : List (Lit × DataW H) → Nat
  | [] => 0
  | x :: r => uptoBulkEntry x + uptoBulkEntries r
def uptoBulkEntry {H : Type} : Lit × DataW H → Nat
  | (.string bytes, d) => bytes.length + uptoBulk d + 1
  | (_, d) => uptoBulk d + 1
 end
def uptoSmall : (H : Type) → List (DataW H) → Bool := fun _ ds => decide (uptoBulkAll ds ≤ 1048576)
def OpenSpec.upto (s : _root_.Go.ChangeSpec) : _root_.Go.OpenSpec := { _root_.Go.OpenSpec.ofChange s with cond := some uptoSmall }

/-- 'simulcastlaw53.EliminatePairs', WHERE WHAT IT READS IS OF BULK AT MOST 1048576: true; the input reads as it did. -/
def eliminatePairsUptoRow : OpenClaim := { program := "ytbdnfljpgcpbaaa", sum := "575ba3eaaf801ca70a54acc45ab788271ce3187d715fcace7f2b04fe3399827b", func := "simulcast/simulcastlaw53.EliminatePairs", spec := "eliminatePairs", apart := false, narrowed := true }
def EliminatePairsUptoSaid : Prop := eliminatePairsUptoRow.holds Try.pinned (OpenSpec.upto eliminatePairsSpec)

/-- 'simulcastlaw53.EliminateFast', WHERE WHAT IT READS IS OF BULK AT MOST 1048576: true; the input reads as it did. -/
def eliminateFastUptoRow : OpenClaim := { program := "ytbdnfljpgcpbaaa", sum := "575ba3eaaf801ca70a54acc45ab788271ce3187d715fcace7f2b04fe3399827b", func := "simulcast/simulcastlaw53.EliminateFast", spec := "eliminateFast", apart := false, narrowed := true }
def EliminateFastUptoSaid : Prop := eliminateFastUptoRow.holds Try.pinned (OpenSpec.upto eliminateFastSpec)

/-- 'simulcastlaw53.EliminateSpares', WHERE WHAT IT READS IS OF BULK AT MOST 1048576: true; the input reads as it did. -/
def eliminateSparesUptoRow : OpenClaim := { program := "ytbdnfljpgcpbaaa", sum := "575ba3eaaf801ca70a54acc45ab788271ce3187d715fcace7f2b04fe3399827b", func := "simulcast/simulcastlaw53.EliminateSpares", spec := "eliminateSpares", apart := false, narrowed := true }
def EliminateSparesUptoSaid : Prop := eliminateSparesUptoRow.holds Try.pinned (OpenSpec.upto eliminateSparesSpec)

/-- 'simulcastlaw53.EliminateApplies', WHERE WHAT IT READS IS OF BULK AT MOST 1048576: true; the input reads as it did. -/
def eliminateAppliesUptoRow : OpenClaim := { program := "ytbdnfljpgcpbaaa", sum := "575ba3eaaf801ca70a54acc45ab788271ce3187d715fcace7f2b04fe3399827b", func := "simulcast/simulcastlaw53.EliminateApplies", spec := "eliminateApplies", apart := false, narrowed := true }
def EliminateAppliesUptoSaid : Prop := eliminateAppliesUptoRow.holds Try.pinned (OpenSpec.upto eliminateAppliesSpec)

/-- 'simulcastlaw53.EliminateWitness', WHERE WHAT IT READS IS OF BULK AT MOST 1048576: true; the input reads as it did. -/
def eliminateWitnessUptoRow : OpenClaim := { program := "ytbdnfljpgcpbaaa", sum := "575ba3eaaf801ca70a54acc45ab788271ce3187d715fcace7f2b04fe3399827b", func := "simulcast/simulcastlaw53.EliminateWitness", spec := "eliminateWitness", apart := false, narrowed := true }
def EliminateWitnessUptoSaid : Prop := eliminateWitnessUptoRow.holds Try.pinned (OpenSpec.upto eliminateWitnessSpec)

/-- 'simulcastlaw53.EliminateAlone', WHERE WHAT IT READS IS OF BULK AT MOST 1048576: true; the input reads as it did. -/
def eliminateAloneUptoRow : OpenClaim := { program := "ytbdnfljpgcpbaaa", sum := "575ba3eaaf801ca70a54acc45ab788271ce3187d715fcace7f2b04fe3399827b", func := "simulcast/simulcastlaw53.EliminateAlone", spec := "eliminateAlone", apart := false, narrowed := true }
def EliminateAloneUptoSaid : Prop := eliminateAloneUptoRow.holds Try.pinned (OpenSpec.upto eliminateAloneSpec)

/-- 'simulcastlaw53.EliminateConserves', WHERE WHAT IT READS IS OF BULK AT MOST 1048576: true; the input reads as it did. -/
def eliminateConservesUptoRow : OpenClaim := { program := "ytbdnfljpgcpbaaa", sum := "575ba3eaaf801ca70a54acc45ab788271ce3187d715fcace7f2b04fe3399827b", func := "simulcast/simulcastlaw53.EliminateConserves", spec := "eliminateConserves", apart := false, narrowed := true }
def EliminateConservesUptoSaid : Prop := eliminateConservesUptoRow.holds Try.pinned (OpenSpec.upto eliminateConservesSpec)

end Rows
end Go.Proofs.Ytbdnfljpgcpbaaa
