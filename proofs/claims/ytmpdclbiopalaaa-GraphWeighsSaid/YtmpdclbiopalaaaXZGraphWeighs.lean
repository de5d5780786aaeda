import Derived.Test.YtmpdclbiopalaaaXL
import Derived.Test.YtmpdclbiopalaaaRows
namespace Go.Proofs.Ytmpdclbiopalaaa
open Go.ChangeShapes Go.WideShapes Go.ChangeAt Go.RowKit Go.En

theorem graphWeighsOwn : ownKnob Try.prog.godebug = none := by kernel_rfl
theorem graphWeighsLaidOut : laidOutB Try.prog = true := by kernel_rfl
set_option maxRecDepth 100000 in
theorem graphWeighsLifted (os : Os) (started : os.Started) (H : Type) (enc : TypeId × Value → H) :
    ReturnsInHanded {} Try.checked os 4 .any (Rows.graphWeighsSpec.pre6 enc Try.prog Try.f4 Rows.graphWeighsRow.domain false) (Rows.graphWeighsSpec.post enc Try.prog Try.f4 false true false false) := by
  refine returnsInHanded_of_change_sized (C := Try.checked) graphWeighsOwn started (by kernel_rfl) Try.func4
    (ChangeSpec.witness6 (enc := enc) (C := Try.checked) false ⟨#[], #[.slice none 0 0, .int IntKind.i16 0, .int IntKind.i16 0], []⟩ 8 (by kernel_rfl) (by kernel_rfl) (by kernel_rfl) (by kernel_rfl)) ?_
  intro W base args ds gs before hval0 hW _ _ _
  have hval : ∀ (j : Nat) t v, Try.f4.params[j]? = some t → args[j]? = some v → Value.okWide Try.prog W .any base t v := hval0
  clear hval0
  have hW' := hW
  obtain ⟨p, q, hA0, hV, rfl, hfz, hnd⟩ := hW
  have hA : DataW.TrodAll enc Try.prog W 0 (fun _ => true) true [22, 46, 46] args.toList ds p := hA0
  obtain ⟨v0, v1, v2, d0, d1, d2, p0, p1, p2, rfl, rfl, rfl, h0, h1, h2⟩ := trodAll_three hA
  obtain ⟨x0, s0, w0⟩ := sl_open (E := ECl) (t := 22) (e := 62) (by kernel_rfl) (by kernel_rfl) (by decide) (el_c40 (by kernel_rfl)) (hval 0 22 v0 rfl rfl) h0
  obtain ⟨x1, rfl, rfl, rfl, w1⟩ := open_int (t := 46) (k := .i16) (by kernel_rfl) (hval 1 46 v1 rfl rfl) h1
  obtain ⟨x2, rfl, rfl, rfl, w2⟩ := open_int (t := 46) (k := .i16) (by kernel_rfl) (hval 2 46 v2 rfl rfl) h2
  refine true_calls (tb := 4) graphWeighsLaidOut (by kernel_rfl) rfl rfl (by kernel_rfl) (fun ds hd => ?_) hW' ?_
  · match ds, hd with
    | [d0, d1, d2], _ => rfl
  · exact (C_simulcastlaw40_GraphWeighs (L_GraphWeighs csK7 s0 w0 (wf_i16 w1) (wf_i16 w2) fun h' g => ⟨rfl, g⟩)).2

theorem graphWeighs_holds : Rows.GraphWeighsSaid :=
  OpenClaim.holds_of_wide 4 Try.f4 rfl rfl rfl rfl rfl rfl rfl ⟨rfl, rfl, rfl, rfl, rfl⟩ rfl rfl rfl rfl rfl (by kernel_rfl) Try.func4 (by kernel_rfl)
    (of_decide_eq_true (by kernel_rfl)) (by unfold Func.isWrapper; first | (rw [if_pos (by decide +kernel)]; kernel_rfl) | (rw [if_neg (by decide +kernel)]; exact ⟨rfl, rfl⟩))
    (fun os started H enc _ => graphWeighsLifted os started H enc)
#print axioms graphWeighs_holds

end Go.Proofs.Ytmpdclbiopalaaa
