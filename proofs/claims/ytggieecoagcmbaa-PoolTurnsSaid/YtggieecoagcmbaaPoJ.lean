/-
  Layer 31: the contracts, joined over the program.
-/
import Derived.Test.YtggieecoagcmbaaPoB
import Derived.Test.YtggieecoagcmbaaQuJ
namespace Go.En
open Go.ChangeShapes Go.WideShapes Prog

theorem csP1 : CsP1 (Sys.of Go.Proofs.Try.prog) ids := { csX with
  start31 := fun a k => C_simulcastlaw31_start (K_start31 a k)
  awake31 := fun k => C_simulcastlaw31_awake (K_awake31 csX k) }

/-- an act among the arguments -/
theorem el_act31 {H : Type} {enc : TypeId × Value → H} {P : Program} {W : World} {e : TypeId} (hs : shp P e [some .u8, some .u8] = true) :
    ∀ n cs y, DataW.trod enc P W 0 (fun _ => true) true n e cs = some y → ∃ x : Act31, cs = EAct31.c x ∧ x.ok := by
  intro n cs y h
  obtain ⟨hlen, hf⟩ := el_shape hs n cs y h
  match cs, hlen with
  | [c0, c1], _ =>
    obtain ⟨z0, e0, w0⟩ := hf 0 _ rfl
    obtain ⟨z1, e1, w1⟩ := hf 1 _ rfl
    simp only [List.getElem?_cons_zero, List.getElem?_cons_succ, Option.some.injEq] at e0 e1
    exact ⟨⟨z0, z1⟩, by rw [e0, e1]; rfl, wf_u8 w0, wf_u8 w1⟩
end Go.En
