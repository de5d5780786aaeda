import Derived.Test.YtggieecoagcmbaaLsJ
import Derived.Test.YtggieecoagcmbaaRows
namespace Go.Proofs.Ytggieecoagcmbaa
open Go.ChangeShapes Go.WideShapes Go.ChangeAt Go.RowKit Go.En

theorem spaceAnewOwn : ownKnob Try.prog.godebug = none := by kernel_rfl
theorem spaceAnewLaidOut : laidOutB Try.prog = true := by kernel_rfl
set_option maxRecDepth 100000 in
theorem spaceAnewLifted (os : Os) (started : os.Started) (H : Type) (enc : TypeId × Value → H) :
    ReturnsInHanded {} Try.checked os 9 .any (Rows.spaceAnewSpec.pre6 enc Try.prog Try.f9 Rows.spaceAnewRow.domain false) (Rows.spaceAnewSpec.post enc Try.prog Try.f9 false true false false) := by
  refine returnsInHanded_of_change_sized (C := Try.checked) spaceAnewOwn started (by kernel_rfl) Try.func9
    (ChangeSpec.witness6 (enc := enc) (C := Try.checked) false ⟨#[], #[.agg #[.int IntKind.i8 0, .int IntKind.i8 0, .int IntKind.i8 0, .int IntKind.i8 0, .int IntKind.i8 0, .int IntKind.i8 0, .int IntKind.i8 0, .int IntKind.i8 0, .int IntKind.i8 0, .int IntKind.i8 0, .int IntKind.i8 0, .int IntKind.i8 0, .int IntKind.i8 0, .int IntKind.i8 0, .int IntKind.i8 0, .int IntKind.i8 0], .slice none 0 0], []⟩ 8 (by kernel_rfl) (by kernel_rfl) (by kernel_rfl) (by kernel_rfl)) ?_
  intro W base args ds gs before hval0 hW _ _ _
  have hval : ∀ (j : Nat) t v, Try.f9.params[j]? = some t → args[j]? = some v → Value.okWide Try.prog W .any base t v := hval0
  clear hval0
  have hW' := hW
  obtain ⟨p, q, hA0, hV, rfl, hfz, hnd⟩ := hW
  have hA : DataW.TrodAll enc Try.prog W 0 (fun _ => true) true [74, 75] args.toList ds p := hA0
  obtain ⟨v0, v1, d0, d1, p0, p1, rfl, rfl, rfl, h0, h1⟩ := trodAll_two hA
  obtain ⟨x0, rfl, w0⟩ := ag_open (E := EAr .i8 16) (t := 74) (by kernel_rfl) (el_arr (e := 73) (n := 16) (by kernel_rfl) (by kernel_rfl) (by kernel_rfl) (by kernel_rfl)) (hval 0 74 v0 rfl rfl) h0
  obtain ⟨x1, s1, w1⟩ := sl_open (E := EAc) (t := 75) (e := 91) (by kernel_rfl) (by kernel_rfl) (by decide) (el_ac (by kernel_rfl)) (hval 1 75 v1 rfl rfl) h1
  refine true_calls (tb := 4) spaceAnewLaidOut (by kernel_rfl) rfl rfl (by kernel_rfl) (fun ds hd => ?_) hW' ?_
  · match ds, hd with
    | [d0, d1], _ => rfl
  · exact (C_simulcastlaw30_SpaceAnew (L_SpaceAnew csR6 (fun i hi => wf_i8 (w0 i hi)) s1 w1 fun h' g => ⟨rfl, g⟩)).2

theorem spaceAnew_holds : Rows.SpaceAnewSaid :=
  OpenClaim.holds_of_wide 9 Try.f9 rfl rfl rfl rfl rfl rfl rfl ⟨rfl, rfl, rfl, rfl, rfl⟩ rfl rfl rfl rfl rfl (by kernel_rfl) Try.func9 (by kernel_rfl)
    (of_decide_eq_true (by kernel_rfl)) (by unfold Func.isWrapper; first | (rw [if_pos (by decide +kernel)]; kernel_rfl) | (rw [if_neg (by decide +kernel)]; exact ⟨rfl, rfl⟩))
    (fun os started H enc _ => spaceAnewLifted os started H enc)
#print axioms spaceAnew_holds

end Go.Proofs.Ytggieecoagcmbaa
