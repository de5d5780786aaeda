/-
  Layers 30, 31: the contracts, joined over the program.
-/
import Derived.Test.YtggieecoagcmbaaSpH
import Derived.Test.YtggieecoagcmbaaSpTie
import Derived.Test.YtggieecoagcmbaaEngR
namespace Go.En
open Go.ChangeShapes Go.WideShapes Prog

theorem csA : CsA (Sys.of Go.Proofs.Try.prog) ids := ⟨fun a b => C_space_Space_Ended (K_Ended a b)⟩
theorem csB : CsB (Sys.of Go.Proofs.Try.prog) ids := { csA with
  reads := fun a b => C_space_Space_reads (K_reads csA a b)
  last := fun a b => C_space_Space_last (K_last a b) }
theorem csC : CsC (Sys.of Go.Proofs.Try.prog) ids := { csB with value := fun a b => C_space_Space_value (K_value csB a b) }
theorem csD : CsD (Sys.of Go.Proofs.Try.prog) ids := { csC with
  get := fun _ _ _ _ a hp => C_space_Space_Get (K_Get csC a hp)
  put := fun _ _ _ _ a hp => C_space_Space_Put (K_Put csC hp.1 hp.2.1 a hp.2.2)
  back := fun _ _ _ _ a hp => C_space_Space_Back (K_Back csA a hp)
  mark := fun _ _ _ _ a hp => C_space_Space_Mark (K_Mark a (hp _ _ a (.refl _ _)))
  need := fun a b => C_space_Space_Need (K_Need a b)
  new := fun a b c d => C_space_New (K_New a b c d) }
theorem csP : CsP (Sys.of Go.Proofs.Try.prog) ids := { csD with check := Pur.of fun h R c k => C_pool_Pool_Check (K_Check h R c k) }
theorem csQ : CsQ (Sys.of Go.Proofs.Try.prog) ids := { csP with node := fun ha => Pur.of fun h R c k => C_pool_Pool_Node (K_Node ha csP h R c k) }
theorem csR : CsR (Sys.of Go.Proofs.Try.prog) ids := { csQ with add := fun a b => Does.of fun h0 F σ R Q c hp k => C_pool_Pool_add (K_add csQ a b h0 F σ R Q c hp k) }
theorem csT : CsT (Sys.of Go.Proofs.Try.prog) ids := { csR with
  take := Does.of fun h0 F σ R Q c hp k => C_pool_Pool_Take (K_Take csR h0 F σ R Q c hp k)
  give := fun ha => Does.of fun h0 F σ R Q c hp k => C_pool_Pool_Give (K_Give ha csR h0 F σ R Q c hp k)
  left := Does.of fun h0 F σ R Q c hp k => C_pool_Pool_Left (K_Left csR h0 F σ R Q c hp k) }
theorem wf_u8 {z : Int} (h : (Lit.int .u8 z).wf = true) : 0 ≤ z ∧ z ≤ 255 := by
  have h1 : IntKind.u8.min = 0 := rfl
  have h2 : IntKind.u8.max = 255 := rfl
  simp only [Lit.wf, Bool.and_eq_true, decide_eq_true_eq] at h
  exact ⟨by omega, by omega⟩
end Go.En
