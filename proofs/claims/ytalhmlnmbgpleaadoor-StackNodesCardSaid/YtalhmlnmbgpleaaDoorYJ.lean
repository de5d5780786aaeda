/-
  Layer 33: the contracts, joined over the program.
-/
import Derived.Test.YtalhmlnmbgpleaaDoorYD
import Derived.Test.YtalhmlnmbgpleaaDoorXJ
namespace Go.En
open Go.ChangeShapes Go.WideShapes Prog Go.Sort

theorem csS1' : CsS1' (Sys.of Go.Proofs.Tryd.prog) ids := { csT with
  smore := fun a => Does.of fun h0 F σ R Q c hp k => C_stack_more (K_sMore csT a h0 F σ R Q c hp k)
  sundo := fun a b c => D_stack_undo (K_sUndo csT a b c) }
theorem csS2' : CsS2' (Sys.of Go.Proofs.Tryd.prog) ids := { csS1' with hh := csH }
theorem csS3' : CsS3' (Sys.of Go.Proofs.Tryd.prog) ids := { csS2' with
  spush := fun a => Does.of fun h0 F σ R Q c hp k => C_stack_Push (K_sPush csS1' a h0 F σ R Q c hp k)
  spop := fun a => Does.of fun h0 F σ R Q c hp k => C_stack_Pop (K_sPop csS1' a h0 F σ R Q c hp k)
  rpush := fun a b c d => C_simulcastref33_Push (K_rPush a b c d)
  rpop := fun a b c d => C_simulcastref33_Pop (K_rPop a b c d) }
theorem csS4' : CsS4' (Sys.of Go.Proofs.Tryd.prog) ids := { csS3' with
  done := fun a b c d e f g => C_simulcastlaw33_World_Done (K_Done csS2' a b c d e f g)
  ustep1 := fun k => C_simulcastlaw33_step_1 k }
theorem csS5' : CsS5' (Sys.of Go.Proofs.Tryd.prog) ids := { csS4' with
  swalk := fun a b c d k => C_stack_Walk (K_sWalk csT a b _ _ _ _ _ c d k)
  stop := fun a => Does.of fun h0 F σ R Q c hp k => C_stack_Top (K_sTop csT a h0 F σ R Q c hp k)
  slen := fun a => Does.of fun h0 F σ R Q c hp k => C_stack_Len (K_sLen csT a h0 F σ R Q c hp k)
  rwalk := fun a b k => C_simulcastref33_Walk (K_rWalk a b k)
  equal := fun a b c k => C_slices_Equal_int64_int64 (K_Equal a b c k)
  alike := fun a b c k => C_simulcastlaw33_Alike (K_Alike a b c k)
  uis1 := fun k => C_simulcastlaw33_is_1 k
  uis2 := fun k => C_simulcastlaw33_is_2 k }
theorem csS6' : CsS6' (Sys.of Go.Proofs.Tryd.prog) ids := { csS5' with
  step := fun a b c d e k => C_simulcastlaw33_step (K_step csS4' a b c d e k)
  is := fun a b c d k => C_simulcastlaw33_is (K_is csS5' a b c d k)
  fresh := fun k => C_simulcastlaw33_Fresh (K_Fresh (N := 192) (by decide) k)
  nodes := fun a k => C_simulcastlaw33_Nodes (K_Nodes a k) }
theorem csS7' : CsS7' (Sys.of Go.Proofs.Tryd.prog) ids := { csS6' with
  played := fun a b c d e k => C_simulcastlaw33_played (K_played csS6' a b c d e k) }
theorem csS8' : CsS8' (Sys.of Go.Proofs.Tryd.prog) ids := { csS7' with
  awake := fun a k => C_simulcastlaw33_awake (K_awake33 csS7' a k)
  great := fun a k => C_simulcastlaw33_great (K_great33 a k) }
/-- a call among the arguments -/
theorem el_c33 {H : Type} {enc : TypeId × Value → H} {P : Program} {W : World} {e : TypeId} (hs : shp P e [some .u8, some .u8, some .i64] = true) :
    ∀ n cs y, DataW.trod enc P W 0 (fun _ => true) true n e cs = some y → ∃ x : C33, cs = ECs.c x ∧ x.ok := by
  intro n cs y h
  obtain ⟨hlen, hf⟩ := el_shape hs n cs y h
  match cs, hlen with
  | [c0, c1, c2], _ =>
    obtain ⟨z0, e0, w0⟩ := hf 0 _ rfl
    obtain ⟨z1, e1, w1⟩ := hf 1 _ rfl
    obtain ⟨z2, e2, w2⟩ := hf 2 _ rfl
    simp only [List.getElem?_cons_zero, List.getElem?_cons_succ, Option.some.injEq] at e0 e1 e2
    exact ⟨⟨z0, z1, z2⟩, by rw [e0, e1, e2]; rfl, wf_u8 w0, wf_u8 w1, wf_i64 w2⟩
end Go.En
