/-
  Layers 30, 31, 34: the contracts, joined over the program.
-/
import Derived.Test.YtggieecoagcmbaaQuE
import Derived.Test.YtggieecoagcmbaaSpTie
import Derived.Test.YtggieecoagcmbaaEngP
namespace Go.En
open Go.ChangeShapes Go.WideShapes Prog

theorem csA : CsA (Sys.of Go.Proofs.Try.prog) ids := ⟨fun a b => C_space_Space_Ended (K_Ended a b)⟩
theorem csB : CsB (Sys.of Go.Proofs.Try.prog) ids := { csA with
  reads := fun a b => C_space_Space_reads (K_reads csA a b)
  last := fun a b => C_space_Space_last (K_last a b) }
theorem csC : CsC (Sys.of Go.Proofs.Try.prog) ids := { csB with value := fun a b => C_space_Space_value (K_value csB a b) }
theorem csD : CsD (Sys.of Go.Proofs.Try.prog) ids := { csC with
  get := fun _ _ _ _ a hp => C_space_Space_Get (K_Get csC a hp)
  put := fun _ _ _ _ a hp => C_space_Space_Put (K_Put csC hp.1 hp.2.1 a hp.2.2)
  back := fun _ _ _ _ a hp => C_space_Space_Back (K_Back csA a hp)
  mark := fun _ _ _ _ a hp => C_space_Space_Mark (K_Mark a (hp _ _ a (.refl _ _)))
  need := fun a b => C_space_Space_Need (K_Need a b)
  new := fun a b c d => C_space_New (K_New a b c d) }
theorem csP : CsP (Sys.of Go.Proofs.Try.prog) ids := { csD with check := Pur.of fun h R c k => C_pool_Pool_Check (K_Check h R c k) }
theorem csQ : CsQ (Sys.of Go.Proofs.Try.prog) ids := { csP with node := fun ha => Pur.of fun h R c k => C_pool_Pool_Node (K_Node ha csP h R c k) }
theorem csR : CsR (Sys.of Go.Proofs.Try.prog) ids := { csQ with add := fun a b => Does.of fun h0 F σ R Q c hp k => C_pool_Pool_add (K_add csQ a b h0 F σ R Q c hp k) }
theorem csT : CsT (Sys.of Go.Proofs.Try.prog) ids := { csR with
  take := Does.of fun h0 F σ R Q c hp k => C_pool_Pool_Take (K_Take csR h0 F σ R Q c hp k)
  give := fun ha => Does.of fun h0 F σ R Q c hp k => C_pool_Pool_Give (K_Give ha csR h0 F σ R Q c hp k)
  left := Does.of fun h0 F σ R Q c hp k => C_pool_Pool_Left (K_Left csR h0 F σ R Q c hp k) }
theorem csU : CsU (Sys.of Go.Proofs.Try.prog) ids := { csT with
  isNode := fun ha => Pur.of fun h R c k => C_queue_isNode (K_isNode ha csT h R c k)
  undo := fun a b c => D_queue_undo (K_undo csT a b c) }
theorem csV : CsV (Sys.of Go.Proofs.Try.prog) ids := { csU with
  qput := fun a b => Does.of fun h0 F σ R Q c hp k => C_queue_Put (K_qPut csU a b h0 F σ R Q c hp k)
  qtake := fun a => Does.of fun h0 F σ R Q c hp k => C_queue_Take (K_qTake csU a h0 F σ R Q c hp k)
  qfirst := fun a => Does.of fun h0 F σ R Q c hp k => C_queue_First (K_qFirst csU a h0 F σ R Q c hp k)
  qlen := fun a => Does.of fun h0 F σ R Q c hp k => C_queue_Len (K_qLen csU a h0 F σ R Q c hp k)
  nodes := fun k => C_queue_nodes (K_nodes k)
  nodes1 := fun k => C_queue_nodes_1 k }
theorem csW : CsW (Sys.of Go.Proofs.Try.prog) ids := { csV with walk := fun a c hp k => C_queue_Walk (K_qWalk csV a _ _ _ _ _ c hp k) }
theorem csX : CsX (Sys.of Go.Proofs.Try.prog) ids := { csW with known := fun a b k => C_simulcastlaw31_Words_Known (K_Known a b k) }
theorem csY : CsY (Sys.of Go.Proofs.Try.prog) ids := { csX with
  space0 := fun a b c k => C_simulcastlaw34_space0 (K_space0 csX a b c k)
  start := fun a k => C_simulcastlaw34_start (K_start34 a k)
  same := fun a b c k => C_simulcastref34_Same (K_Same34 a b c k)
  rput := fun a b c d => C_simulcastref34_Put (K_refPut34 a b c d)
  rtake := fun a b c d => C_simulcastref34_Take (K_refTake34 a b c d) }
theorem csZ : CsZ (Sys.of Go.Proofs.Try.prog) ids := { csY with
  awake := fun k => C_simulcastlaw34_awake (K_awake34 csY k)
  done := fun a b c d e f g i j => C_simulcastlaw34_done (K_done34 csY a b c d e f g i j)
  tells := fun a b c d e k => C_simulcastlaw34_tells (K_tells34 csY a b c d e k) }

theorem wf_u8 {z : Int} (h : (Lit.int .u8 z).wf = true) : 0 ≤ z ∧ z ≤ 255 := by
  have h1 : IntKind.u8.min = 0 := rfl
  have h2 : IntKind.u8.max = 255 := rfl
  simp only [Lit.wf, Bool.and_eq_true, decide_eq_true_eq] at h
  exact ⟨by omega, by omega⟩
/-- an act among the arguments -/
theorem el_act {H : Type} {enc : TypeId × Value → H} {P : Program} {W : World} {e : TypeId} (hs : shp P e [some .u8, some .i64] = true) :
    ∀ n cs y, DataW.trod enc P W 0 (fun _ => true) true n e cs = some y → ∃ x : Act34, cs = EAct.c x ∧ x.ok := by
  intro n cs y h
  obtain ⟨hlen, hf⟩ := el_shape hs n cs y h
  match cs, hlen with
  | [c0, c1], _ =>
    obtain ⟨z0, e0, w0⟩ := hf 0 _ rfl
    obtain ⟨z1, e1, w1⟩ := hf 1 _ rfl
    simp only [List.getElem?_cons_zero, List.getElem?_cons_succ, Option.some.injEq] at e0 e1
    exact ⟨⟨z0, z1⟩, by rw [e0, e1]; rfl, wf_u8 w0, wf_i64 w1⟩
end Go.En
