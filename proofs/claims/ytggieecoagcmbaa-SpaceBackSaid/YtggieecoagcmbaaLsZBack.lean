import Derived.Test.YtggieecoagcmbaaLsJ
import Derived.Test.YtggieecoagcmbaaRows
namespace Go.Proofs.Ytggieecoagcmbaa
open Go.ChangeShapes Go.WideShapes Go.ChangeAt Go.RowKit Go.En

theorem spaceBackOwn : ownKnob Try.prog.godebug = none := by kernel_rfl
theorem spaceBackLaidOut : laidOutB Try.prog = true := by kernel_rfl
set_option maxRecDepth 100000 in
theorem spaceBackLifted (os : Os) (started : os.Started) (H : Type) (enc : TypeId × Value → H) :
    ReturnsInHanded {} Try.checked os 10 .any (Rows.spaceBackSpec.pre6 enc Try.prog Try.f10 Rows.spaceBackRow.domain false) (Rows.spaceBackSpec.post enc Try.prog Try.f10 false true false false) := by
  refine returnsInHanded_of_change_sized (C := Try.checked) spaceBackOwn started (by kernel_rfl) Try.func10
    (ChangeSpec.witness6 (enc := enc) (C := Try.checked) false ⟨#[], #[.agg #[.int IntKind.i64 0, .int IntKind.i64 0, .int IntKind.i64 0, .int IntKind.i64 0, .int IntKind.i64 0, .int IntKind.i64 0, .int IntKind.i64 0, .int IntKind.i64 0], .slice none 0 0, .slice none 0 0], []⟩ 8 (by kernel_rfl) (by kernel_rfl) (by kernel_rfl) (by kernel_rfl)) ?_
  intro W base args ds gs before hval0 hW _ _ _
  have hval : ∀ (j : Nat) t v, Try.f10.params[j]? = some t → args[j]? = some v → Value.okWide Try.prog W .any base t v := hval0
  clear hval0
  have hW' := hW
  obtain ⟨p, q, hA0, hV, rfl, hfz, hnd⟩ := hW
  have hA : DataW.TrodAll enc Try.prog W 0 (fun _ => true) true [89, 75, 75] args.toList ds p := hA0
  obtain ⟨v0, v1, v2, d0, d1, d2, p0, p1, p2, rfl, rfl, rfl, h0, h1, h2⟩ := trodAll_three hA
  obtain ⟨x0, rfl, w0⟩ := ag_open (E := EAr .i64 8) (t := 89) (by kernel_rfl) (el_arr (e := 2) (n := 8) (by kernel_rfl) (by kernel_rfl) (by kernel_rfl) (by kernel_rfl)) (hval 0 89 v0 rfl rfl) h0
  obtain ⟨x1, s1, w1⟩ := sl_open (E := EAc) (t := 75) (e := 91) (by kernel_rfl) (by kernel_rfl) (by decide) (el_ac (by kernel_rfl)) (hval 1 75 v1 rfl rfl) h1
  obtain ⟨x2, s2, w2⟩ := sl_open (E := EAc) (t := 75) (e := 91) (by kernel_rfl) (by kernel_rfl) (by decide) (el_ac (by kernel_rfl)) (hval 2 75 v2 rfl rfl) h2
  refine true_calls (tb := 4) spaceBackLaidOut (by kernel_rfl) rfl rfl (by kernel_rfl) (fun ds hd => ?_) hW' ?_
  · match ds, hd with
    | [d0, d1, d2], _ => rfl
  · exact (C_simulcastlaw30_SpaceBack (L_SpaceBack csR5 (fun i hi => wf_i64 (w0 i hi)) s1 w1 s2 w2 fun h' g => ⟨rfl, g⟩)).2

theorem spaceBack_holds : Rows.SpaceBackSaid :=
  OpenClaim.holds_of_wide 10 Try.f10 rfl rfl rfl rfl rfl rfl rfl ⟨rfl, rfl, rfl, rfl, rfl⟩ rfl rfl rfl rfl rfl (by kernel_rfl) Try.func10 (by kernel_rfl)
    (of_decide_eq_true (by kernel_rfl)) (by unfold Func.isWrapper; first | (rw [if_pos (by decide +kernel)]; kernel_rfl) | (rw [if_neg (by decide +kernel)]; exact ⟨rfl, rfl⟩))
    (fun os started H enc _ => spaceBackLifted os started H enc)
#print axioms spaceBack_holds

end Go.Proofs.Ytggieecoagcmbaa
