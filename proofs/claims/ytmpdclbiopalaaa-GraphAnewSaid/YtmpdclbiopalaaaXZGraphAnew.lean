import Derived.Test.YtmpdclbiopalaaaXM
import Derived.Test.YtmpdclbiopalaaaRows
namespace Go.Proofs.Ytmpdclbiopalaaa
open Go.ChangeShapes Go.WideShapes Go.ChangeAt Go.RowKit Go.En

theorem graphAnewOwn : ownKnob Try.prog.godebug = none := by kernel_rfl
theorem graphAnewLaidOut : laidOutB Try.prog = true := by kernel_rfl
set_option maxRecDepth 100000 in
theorem graphAnewLifted (os : Os) (started : os.Started) (H : Type) (enc : TypeId × Value → H) :
    ReturnsInHanded {} Try.checked os 11 .any (Rows.graphAnewSpec.pre6 enc Try.prog Try.f11 Rows.graphAnewRow.domain false) (Rows.graphAnewSpec.post enc Try.prog Try.f11 false true false false) := by
  refine returnsInHanded_of_change_sized (C := Try.checked) graphAnewOwn started (by kernel_rfl) Try.func11
    (ChangeSpec.witness6 (enc := enc) (C := Try.checked) false ⟨#[], #[.slice none 0 0, .agg #[.int IntKind.u8 0, .int IntKind.i16 0, .int IntKind.i16 0, .int IntKind.i64 0]], []⟩ 8 (by kernel_rfl) (by kernel_rfl) (by kernel_rfl) (by kernel_rfl)) ?_
  intro W base args ds gs before hval0 hW _ _ _
  have hval : ∀ (j : Nat) t v, Try.f11.params[j]? = some t → args[j]? = some v → Value.okWide Try.prog W .any base t v := hval0
  clear hval0
  have hW' := hW
  obtain ⟨p, q, hA0, hV, rfl, hfz, hnd⟩ := hW
  have hA : DataW.TrodAll enc Try.prog W 0 (fun _ => true) true [22, 62] args.toList ds p := hA0
  obtain ⟨v0, v1, d0, d1, p0, p1, rfl, rfl, rfl, h0, h1⟩ := trodAll_two hA
  obtain ⟨x0, s0, w0⟩ := sl_open (E := ECl) (t := 22) (e := 62) (by kernel_rfl) (by kernel_rfl) (by decide) (el_c40 (by kernel_rfl)) (hval 0 22 v0 rfl rfl) h0
  obtain ⟨x1, rfl, w1⟩ := ag_open (E := ECl) (t := 62) (by kernel_rfl) (el_c40 (by kernel_rfl)) (hval 1 62 v1 rfl rfl) h1
  refine true_calls (tb := 4) graphAnewLaidOut (by kernel_rfl) rfl rfl (by kernel_rfl) (fun ds hd => ?_) hW' ?_
  · match ds, hd with
    | [d0, d1], _ => rfl
  · exact (C_simulcastlaw40_GraphAnew (L_GraphAnew csK8 s0 w0 w1 fun h' g => ⟨rfl, g⟩)).2

theorem graphAnew_holds : Rows.GraphAnewSaid :=
  OpenClaim.holds_of_wide 11 Try.f11 rfl rfl rfl rfl rfl rfl rfl ⟨rfl, rfl, rfl, rfl, rfl⟩ rfl rfl rfl rfl rfl (by kernel_rfl) Try.func11 (by kernel_rfl)
    (of_decide_eq_true (by kernel_rfl)) (by unfold Func.isWrapper; first | (rw [if_pos (by decide +kernel)]; kernel_rfl) | (rw [if_neg (by decide +kernel)]; exact ⟨rfl, rfl⟩))
    (fun os started H enc _ => graphAnewLifted os started H enc)
#print axioms graphAnew_holds

end Go.Proofs.Ytmpdclbiopalaaa
