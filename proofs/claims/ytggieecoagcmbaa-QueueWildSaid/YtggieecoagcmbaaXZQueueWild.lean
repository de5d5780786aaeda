import Derived.Test.YtggieecoagcmbaaXJ
import Derived.Test.YtggieecoagcmbaaRows
namespace Go.Proofs.Ytggieecoagcmbaa
open Go.ChangeShapes Go.WideShapes Go.ChangeAt Go.RowKit Go.En

theorem queueWildOwn : ownKnob Try.prog.godebug = none := by kernel_rfl
theorem queueWildLaidOut : laidOutB Try.prog = true := by kernel_rfl
set_option maxRecDepth 100000 in
theorem queueWildLifted (os : Os) (started : os.Started) (H : Type) (enc : TypeId × Value → H) :
    ReturnsInHanded {} Try.checked os 15 .any (Rows.queueWildSpec.pre6 enc Try.prog Try.f15 Rows.queueWildRow.domain false) (Rows.queueWildSpec.post enc Try.prog Try.f15 false true false false) := by
  refine returnsInHanded_of_change_sized (C := Try.checked) queueWildOwn started (by kernel_rfl) Try.func15
    (ChangeSpec.witness6 (enc := enc) (C := Try.checked) false ⟨#[], #[.int IntKind.u8 0, .slice none 0 0, .agg #[.int IntKind.u8 0, .int IntKind.i64 0]], []⟩ 8 (by kernel_rfl) (by kernel_rfl) (by kernel_rfl) (by kernel_rfl)) ?_
  intro W base args ds gs before hval0 hW _ _ _
  have hval : ∀ (j : Nat) t v, Try.f15.params[j]? = some t → args[j]? = some v → Value.okWide Try.prog W .any base t v := hval0
  clear hval0
  have hW' := hW
  obtain ⟨p, q, hA0, hV, rfl, hfz, hnd⟩ := hW
  have hA : DataW.TrodAll enc Try.prog W 0 (fun _ => true) true [5, 25, 56] args.toList ds p := hA0
  obtain ⟨v0, v1, v2, d0, d1, d2, p0, p1, p2, rfl, rfl, rfl, h0, h1, h2⟩ := trodAll_three hA
  obtain ⟨x0, rfl, rfl, rfl, w0⟩ := open_int (t := 5) (k := .u8) (by kernel_rfl) (hval 0 5 v0 rfl rfl) h0
  obtain ⟨x1, s1, w1⟩ := sl_open (E := EI1) (t := 25) (e := 2) (by kernel_rfl) (by kernel_rfl) (by decide) (el_i64 (by kernel_rfl)) (hval 1 25 v1 rfl rfl) h1
  obtain ⟨x2, rfl, w2⟩ := ag_open (E := EAct) (t := 56) (by kernel_rfl) (el_act (by kernel_rfl)) (hval 2 56 v2 rfl rfl) h2
  refine true_calls (tb := 4) queueWildLaidOut (by kernel_rfl) rfl rfl (by kernel_rfl) (fun ds hd => ?_) hW' ?_
  · match ds, hd with
    | [d0, d1, d2], _ => rfl
  · exact (C_simulcastlaw34_QueueWild (L_QueueWild csZ1 (wf_u8 w0) s1 w1 w2 fun h' g => ⟨rfl, g⟩)).2

theorem queueWild_holds : Rows.QueueWildSaid :=
  OpenClaim.holds_of_wide 15 Try.f15 rfl rfl rfl rfl rfl rfl rfl ⟨rfl, rfl, rfl, rfl, rfl⟩ rfl rfl rfl rfl rfl (by kernel_rfl) Try.func15 (by kernel_rfl)
    (of_decide_eq_true (by kernel_rfl)) (by unfold Func.isWrapper; first | (rw [if_pos (by decide +kernel)]; kernel_rfl) | (rw [if_neg (by decide +kernel)]; exact ⟨rfl, rfl⟩))
    (fun os started H enc _ => queueWildLifted os started H enc)
#print axioms queueWild_holds

end Go.Proofs.Ytggieecoagcmbaa
