/-
  Layer 53: the contracts, joined over the program.
-/
import Derived.Test.YtbdnfljpgcpbaaaElI
import Derived.Test.YtbdnfljpgcpbaaaElTie
import Derived.Test.YtbdnfljpgcpbaaaEngP
namespace Go.En
open Go.ChangeShapes Go.WideShapes

theorem cs : Cs (Sys.of Go.Proofs.Try.prog) ids :=
  ⟨fun a b c => C_eliminate_firsts (K_firsts a b c), fun a b c d => C_simulcastref53_first (K_first a b c d)⟩
theorem cs2 : Cs2 (Sys.of Go.Proofs.Try.prog) ids :=
  ⟨fun a b c => C_eliminate_Pairs (K_Pairs cs a b c), fun a b c => C_simulcastref53_Pairs (K_refPairs cs a b c), fun a b c => C_slices_Clone_int64_int64 (K_CloneI a b c)⟩
theorem cs3 : Cs3 (Sys.of Go.Proofs.Try.prog) ids := ⟨cs2, fun a b c => C_eliminate_apply (K_apply a b c)⟩
theorem cs4 : Cs4 (Sys.of Go.Proofs.Try.prog) ids := ⟨cs3, fun a b c d e => C_simulcastref53_Apply (K_refApply a b c d e)⟩
theorem cs5 : Cs5 (Sys.of Go.Proofs.Try.prog) ids where
  great := fun a b c => C_simulcastlaw53_great (K_great a b c)
  of := fun a b c => C_simulcastlaw53_of (K_of a b c)
  eqN := fun a b c d => C_slices_Equal_int_int (K_EqualN a b c d)
  eqI := fun a b c d => C_slices_Equal_int64_int64 (K_EqualI a b c d)
  eqA' := fun a b c d => C_slices_Equal_api_Answer_api_Answer (K_EqualA a b c d)
  same := fun a b c d => C_simulcastlaw53_same (K_same a b c d)
  cloneI := fun a b c => C_slices_Clone_int64_int64 (K_CloneI a b c)
  cloneO := fun a b c => C_slices_Clone_eliminate_Op_eliminate_Op (K_CloneO a b c)
  cPairs := cs2.cPairs
  refPairs := cs2.cRef
  cOrder := fun a b c => C_eliminate_Order (K_Order cs2 a b c)
  cApply := fun a b c d e => C_eliminate_Apply (K_Apply cs3 a b c d e)
  refApply := cs4.cRefApply
  cFast := fun a b c d e => C_eliminate_Fast (K_Fast cs3 a b c d e)
  refFast := fun a b c d e => C_simulcastref53_Fast (K_refFast cs4 a b c d e)
theorem cs6 : Cs6 (Sys.of Go.Proofs.Try.prog) ids := ⟨cs5, fun a => C_simulcastlaw53_awake (K_awake cs5 a)⟩

/-- an operation among the arguments -/
theorem el_op {H : Type} {enc : TypeId × Value → H} {P : Program} {W : World} {e : TypeId} (hs : shp P e [some .i64, none, some .i64] = true) :
    ∀ n cs y, DataW.trod enc P W 0 (fun _ => true) true n e cs = some y → ∃ x : Op, cs = EO.c x ∧ (inI64 x.t ∧ inI64 x.v) := by
  intro n cs y h
  obtain ⟨hlen, hf⟩ := el_shape hs n cs y h
  match cs, hlen with
  | [c0, c1, c2], _ =>
    obtain ⟨z0, e0, w0⟩ := hf 0 _ rfl
    obtain ⟨b, e1⟩ := hf 1 _ rfl
    obtain ⟨z2, e2, w2⟩ := hf 2 _ rfl
    simp only [List.getElem?_cons_zero, List.getElem?_cons_succ, Option.some.injEq] at e0 e1 e2
    exact ⟨⟨z0, b, z2⟩, by rw [e0, e1, e2]; rfl, wf_i64 w0, wf_i64 w2⟩
end Go.En
