import Derived.Test.YtmpdclbiopalaaaYQ
import Derived.Test.YtmpdclbiopalaaaYM
import Derived.Test.YtmpdclbiopalaaaRows
namespace Go.Proofs.Ytmpdclbiopalaaa
open Go.ChangeShapes Go.WideShapes Go.ChangeAt Go.RowKit Go.En

theorem treeAnewOwn : ownKnob Try.prog.godebug = none := by kernel_rfl
theorem treeAnewLaidOut : laidOutB Try.prog = true := by kernel_rfl
set_option maxRecDepth 100000 in
theorem treeAnewLifted (os : Os) (started : os.Started) (H : Type) (enc : TypeId × Value → H) :
    ReturnsInHanded {} Try.checked os 13 .any (Rows.treeAnewSpec.pre6 enc Try.prog Try.f13 Rows.treeAnewRow.domain false) (Rows.treeAnewSpec.post enc Try.prog Try.f13 false true false false) := by
  refine returnsInHanded_of_change_sized (C := Try.checked) treeAnewOwn started (by kernel_rfl) Try.func13
    (ChangeSpec.witness6 (enc := enc) (C := Try.checked) false ⟨#[], #[.slice none 0 0, .agg #[.int IntKind.u8 0, .int IntKind.i64 0, .int IntKind.i64 0]], []⟩ 8 (by kernel_rfl) (by kernel_rfl) (by kernel_rfl) (by kernel_rfl)) ?_
  intro W base args ds gs before hval0 hW _ _ _
  have hval : ∀ (j : Nat) t v, Try.f13.params[j]? = some t → args[j]? = some v → Value.okWide Try.prog W .any base t v := hval0
  clear hval0
  have hW' := hW
  obtain ⟨p, q, hA0, hV, rfl, hfz, hnd⟩ := hW
  have hA : DataW.TrodAll enc Try.prog W 0 (fun _ => true) true [80, 88] args.toList ds p := hA0
  obtain ⟨v0, v1, d0, d1, p0, p1, rfl, rfl, rfl, h0, h1⟩ := trodAll_two hA
  obtain ⟨x0, s0, w0⟩ := sl_open (E := ECl) (t := 80) (e := 88) (by kernel_rfl) (by kernel_rfl) (by decide) (el_c37 (by kernel_rfl)) (hval 0 80 v0 rfl rfl) h0
  obtain ⟨x1, rfl, w1⟩ := ag_open (E := ECl) (t := 88) (by kernel_rfl) (el_c37 (by kernel_rfl)) (hval 1 88 v1 rfl rfl) h1
  refine true_calls (tb := 4) treeAnewLaidOut (by kernel_rfl) rfl rfl (by kernel_rfl) (fun ds hd => ?_) hW' ?_
  · match ds, hd with
    | [d0, d1], _ => rfl
  · exact (C_simulcastlaw37_TreeAnew (L_TreeAnew csX4 s0 w0 w1 fun h' g => ⟨rfl, g⟩)).2

theorem treeAnew_holds : Rows.TreeAnewSaid :=
  OpenClaim.holds_of_wide 13 Try.f13 rfl rfl rfl rfl rfl rfl rfl ⟨rfl, rfl, rfl, rfl, rfl⟩ rfl rfl rfl rfl rfl (by kernel_rfl) Try.func13 (by kernel_rfl)
    (of_decide_eq_true (by kernel_rfl)) (by unfold Func.isWrapper; first | (rw [if_pos (by decide +kernel)]; kernel_rfl) | (rw [if_neg (by decide +kernel)]; exact ⟨rfl, rfl⟩))
    (fun os started H enc _ => treeAnewLifted os started H enc)
#print axioms treeAnew_holds

end Go.Proofs.Ytmpdclbiopalaaa
