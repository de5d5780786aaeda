/-
  Layer 35: the contracts, joined over the program.
-/
import Derived.Test.YtalhmlnmbgpleaaXI
import Derived.Test.YtalhmlnmbgpleaaXJ
namespace Go.En
open Go.ChangeShapes Go.WideShapes Prog Go.Sort

theorem csMM : CsM3 (Sys.of Go.Proofs.Try.prog) ids := { csM2, csH with mlen := fun a k => C_model_Model_Len (K_MLen a k) }
theorem csD1 : CsD1 (Sys.of Go.Proofs.Try.prog) ids := { csT with
  side := Pur.of fun h R c k => C_deque_side (K_side h R c k)
  dis := fun a => Pur.of fun h R c k => C_deque_is (K_dIs a csT h R c k)
  dmore := Does.of fun h0 F σ R Q c hp k => C_deque_more (K_dMore csT h0 F σ R Q c hp k)
  dundo := fun a b c => D_deque_undo (K_dUndo csT a b c) }
theorem csD2 : CsD2 (Sys.of Go.Proofs.Try.prog) ids := { csD1 with
  dpush := fun a b => Does.of fun h0 F σ R Q c hp k => C_deque_Push (K_dPush csD1 a b h0 F σ R Q c hp k)
  dpop := fun a => Does.of fun h0 F σ R Q c hp k => C_deque_Pop (K_dPop csD1 a h0 F σ R Q c hp k)
  dpeek := fun a => Does.of fun h0 F σ R Q c hp k => C_deque_Peek (K_dPeek csD1 a h0 F σ R Q c hp k)
  dlen := fun a => Does.of fun h0 F σ R Q c hp k => C_deque_Len (K_dLen csD1 a h0 F σ R Q c hp k)
  dwalk := fun a b c d k => C_deque_Walk (K_dWalk csD1 a b _ _ _ _ _ c d k) }
theorem csD3 : CsD3 (Sys.of Go.Proofs.Try.prog) ids := { csD2 with
  mm := csMM
  ddo := fun a => Does.of fun h0 F σ R Q c hp k => C_simulcastlaw35_Act_do (K_dActDo csD2 a h0 F σ R Q c hp k)
  rpush := fun a b k => C_simulcastref35_Push (K_refPush35 a b k)
  rpeek := fun a b c k => C_simulcastref35_Peek (K_refPeek35 a b c k)
  rpop := fun a b k => C_simulcastref35_Pop (K_refPop35 a b k)
  rwalk := fun a b k => C_simulcastref35_Walk (K_refWalk35 a b k)
  eq64 := fun a b c k => C_slices_Equal_int64_int64 (K_Equal64 a b c k)
  told := fun a b c d e f g i j k => C_simulcastlaw32_Told (K_Told csMM a b c d e f g i j k)
  acts35 := fun k => C_simulcastlaw35_DequeActs_1 k
  awk35 := fun k => C_simulcastlaw35_awake_1 k }
theorem csD4 : CsD4 (Sys.of Go.Proofs.Try.prog) ids := { csD3 with
  nodes35 := fun a k => C_simulcastlaw35_nodes (K_nodes35 csMM a k)
  whole35 := fun a b c k => C_simulcastlaw35_whole (K_whole35 csMM a b c k)
  dref := fun a b c d k => C_simulcastlaw35_Act_ref (K_dActRef csD3.rpush csD3.rpeek csD3.rpop a b c d k) }
theorem csD5 : CsD5 (Sys.of Go.Proofs.Try.prog) ids := { csD4 with is35 := fun a b c d k => C_simulcastlaw35_is (K_is35 csD4 a b c d k) }
theorem csD6 : CsD6 (Sys.of Go.Proofs.Try.prog) ids := { csD5 with awake35 := fun k => C_simulcastlaw35_awake (K_awake35 csD5 k) }
/-- an act among the arguments -/
theorem el_a5 {H : Type} {enc : TypeId × Value → H} {P : Program} {W : World} {e : TypeId} (hs : shp P e [some .u8, none, some .i64] = true) :
    ∀ n cs y, DataW.trod enc P W 0 (fun _ => true) true n e cs = some y → ∃ x : A5, cs = EA5.c x ∧ x.ok := by
  intro n cs y h
  obtain ⟨hlen, hf⟩ := el_shape hs n cs y h
  match cs, hlen with
  | [c0, c1, c2], _ =>
    obtain ⟨z0, e0, w0⟩ := hf 0 _ rfl
    obtain ⟨z1, e1⟩ := hf 1 _ rfl
    obtain ⟨z2, e2, w2⟩ := hf 2 _ rfl
    simp only [List.getElem?_cons_zero, List.getElem?_cons_succ, Option.some.injEq] at e0 e1 e2
    exact ⟨⟨z0, z1, z2⟩, by rw [e0, e1, e2]; rfl, wf_u8 w0, wf_i64 w2⟩
theorem el_b1 {H : Type} {enc : TypeId × Value → H} {P : Program} {W : World} {e : TypeId} (he : P.underlying e = some .bool) :
    ∀ n cs y, DataW.trod enc P W 0 (fun _ => true) true n e cs = some y → ∃ x : Bool, cs = EB1.c x ∧ True := by
  intro n cs y h
  obtain ⟨b, e1, _⟩ := DataW.trod_bool he h
  exact ⟨b, e1, trivial⟩
end Go.En
