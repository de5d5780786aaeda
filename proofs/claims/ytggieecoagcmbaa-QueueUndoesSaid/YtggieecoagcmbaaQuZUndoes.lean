import Derived.Test.YtggieecoagcmbaaQuJ
import Derived.Test.YtggieecoagcmbaaQuG
import Derived.Test.YtggieecoagcmbaaRows
namespace Go.Proofs.Ytggieecoagcmbaa
open Go.ChangeShapes Go.WideShapes Go.ChangeAt Go.RowKit Go.En

theorem queueUndoesOwn : ownKnob Try.prog.godebug = none := by kernel_rfl
theorem queueUndoesLaidOut : laidOutB Try.prog = true := by kernel_rfl
set_option maxRecDepth 100000 in
theorem queueUndoesLifted (os : Os) (started : os.Started) (H : Type) (enc : TypeId × Value → H) :
    ReturnsInHanded {} Try.checked os 7 .any (Rows.queueUndoesSpec.pre6 enc Try.prog Try.f7 Rows.queueUndoesRow.domain false) (Rows.queueUndoesSpec.post enc Try.prog Try.f7 false true false false) := by
  refine returnsInHanded_of_change_sized (C := Try.checked) queueUndoesOwn started (by kernel_rfl) Try.func7
    (ChangeSpec.witness6 (enc := enc) (C := Try.checked) false ⟨#[], #[.int IntKind.u8 0, .slice none 0 0, .slice none 0 0], []⟩ 8 (by kernel_rfl) (by kernel_rfl) (by kernel_rfl) (by kernel_rfl)) ?_
  intro W base args ds gs before hval0 hW _ _ _
  have hval : ∀ (j : Nat) t v, Try.f7.params[j]? = some t → args[j]? = some v → Value.okWide Try.prog W .any base t v := hval0
  clear hval0
  have hW' := hW
  obtain ⟨p, q, hA0, hV, rfl, hfz, hnd⟩ := hW
  have hA : DataW.TrodAll enc Try.prog W 0 (fun _ => true) true [5, 51, 51] args.toList ds p := hA0
  obtain ⟨v0, v1, v2, d0, d1, d2, p0, p1, p2, rfl, rfl, rfl, h0, h1, h2⟩ := trodAll_three hA
  obtain ⟨x0, rfl, rfl, rfl, w0⟩ := open_int (t := 5) (k := .u8) (by kernel_rfl) (hval 0 5 v0 rfl rfl) h0
  obtain ⟨x1, s1, w1⟩ := sl_open (E := EAct) (t := 51) (e := 56) (by kernel_rfl) (by kernel_rfl) (by decide) (el_act (by kernel_rfl)) (hval 1 51 v1 rfl rfl) h1
  obtain ⟨x2, s2, w2⟩ := sl_open (E := EAct) (t := 51) (e := 56) (by kernel_rfl) (by kernel_rfl) (by decide) (el_act (by kernel_rfl)) (hval 2 51 v2 rfl rfl) h2
  refine true_calls (tb := 4) queueUndoesLaidOut (by kernel_rfl) rfl rfl (by kernel_rfl) (fun ds hd => ?_) hW' ?_
  · match ds, hd with
    | [d0, d1, d2], _ => rfl
  · exact (C_simulcastlaw34_QueueUndoes (L_QueueUndoes csZ (wf_u8 w0) s1 w1 s2 w2 fun h' g => ⟨rfl, g⟩)).2

theorem queueUndoes_holds : Rows.QueueUndoesSaid :=
  OpenClaim.holds_of_wide 7 Try.f7 rfl rfl rfl rfl rfl rfl rfl ⟨rfl, rfl, rfl, rfl, rfl⟩ rfl rfl rfl rfl rfl (by kernel_rfl) Try.func7 (by kernel_rfl)
    (of_decide_eq_true (by kernel_rfl)) (by unfold Func.isWrapper; first | (rw [if_pos (by decide +kernel)]; kernel_rfl) | (rw [if_neg (by decide +kernel)]; exact ⟨rfl, rfl⟩))
    (fun os started H enc _ => queueUndoesLifted os started H enc)
#print axioms queueUndoes_holds

end Go.Proofs.Ytggieecoagcmbaa
