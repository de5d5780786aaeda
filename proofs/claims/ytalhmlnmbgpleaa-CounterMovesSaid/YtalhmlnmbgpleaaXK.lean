/-
  Layer 32: the contracts, joined over the program.
-/
import Derived.Test.YtalhmlnmbgpleaaXF
import Derived.Test.YtalhmlnmbgpleaaXJ
namespace Go.En
open Go.ChangeShapes Go.WideShapes Prog Go.Sort

theorem csM3 : CsM3 (Sys.of Go.Proofs.Try.prog) ids := { csM2, csH with mlen := fun a k => C_model_Model_Len (K_MLen a k) }
theorem csC0 : CsC0 (Sys.of Go.Proofs.Try.prog) ids := { csM3 with
  cfits := fun a b => Pur.of fun h R c k => C_counter_fits (K_cFits a b h R c k)
  rfits := fun a b => Pur.of fun h R c k => C_simulcastref32_fits (K_rFits a b h R c k)
  root := fun a => Pur.of fun h R c k => C_simulcastlaw32_root (K_root32 a h R c k) }
theorem csC1 : CsC1 (Sys.of Go.Proofs.Try.prog) ids := { csC0 with cget := Does.of fun h0 F σ R Q c hp k => C_counter_Get (K_cGet csC0 h0 F σ R Q c hp k) }
theorem csC2 : CsC2 (Sys.of Go.Proofs.Try.prog) ids := { csC1 with
  cadd := fun a => Does.of fun h0 F σ R Q c hp k => C_counter_Add (K_cAdd csC1 a h0 F σ R Q c hp k)
  cset := Does.of fun h0 F σ R Q c hp k => C_counter_Set (K_cSet csC1 h0 F σ R Q c hp k)
  cmove := fun a => Does.of fun h0 F σ R Q c hp k => C_counter_Move (K_cMove csC1 a h0 F σ R Q c hp k)
  cref := fun a => Pur.of fun h R c k => C_simulcastlaw32_Act_ref (K_cRef a h R c k) }
theorem csC3 : CsC3 (Sys.of Go.Proofs.Try.prog) ids := { csC2 with
  cdo := fun a => Does.of fun h0 F σ R Q c hp k => C_simulcastlaw32_Act_do (K_cDo csC2 a h0 F σ R Q c hp k)
  refdo := fun a b c k => C_simulcastref32_Do (K_cRefDo csC0 a b c k)
  told := fun a b c d e f g i j k => C_simulcastlaw32_Told (K_Told csM3 a b c d e f g i j k)
  acts1 := fun k => C_simulcastlaw32_CounterActs_1 k
  sums1 := fun k => C_simulcastlaw32_CounterSums_1 k
  awake1 := fun k => C_simulcastlaw32_awake_1 k }
theorem csC4 : CsC4 (Sys.of Go.Proofs.Try.prog) ids := { csC3 with
  words32 := fun a k => C_simulcastlaw32_words (K_words32 csC3 a k)
  is32 := fun a b c k => C_simulcastlaw32_is (K_is32 csC3 a b c k) }
theorem csC5 : CsC5 (Sys.of Go.Proofs.Try.prog) ids := { csC4 with awake32 := fun k => C_simulcastlaw32_awake (K_awake32 csC4 k) }
/-- an act among the arguments -/
theorem el_c4 {H : Type} {enc : TypeId × Value → H} {P : Program} {W : World} {e : TypeId} (hs : shp P e [some .u8, some .u8, some .u8, some .i64] = true) :
    ∀ n cs y, DataW.trod enc P W 0 (fun _ => true) true n e cs = some y → ∃ x : C4, cs = EC4.c x ∧ x.ok := by
  intro n cs y h
  obtain ⟨hlen, hf⟩ := el_shape hs n cs y h
  match cs, hlen with
  | [c0, c1, c2, c3], _ =>
    obtain ⟨z0, e0, w0⟩ := hf 0 _ rfl
    obtain ⟨z1, e1, w1⟩ := hf 1 _ rfl
    obtain ⟨z2, e2, w2⟩ := hf 2 _ rfl
    obtain ⟨z3, e3, w3⟩ := hf 3 _ rfl
    simp only [List.getElem?_cons_zero, List.getElem?_cons_succ, Option.some.injEq] at e0 e1 e2 e3
    exact ⟨⟨z0, z1, z2, z3⟩, by rw [e0, e1, e2, e3]; rfl, wf_u8 w0, wf_u8 w1, wf_u8 w2, wf_i64 w3⟩
end Go.En
