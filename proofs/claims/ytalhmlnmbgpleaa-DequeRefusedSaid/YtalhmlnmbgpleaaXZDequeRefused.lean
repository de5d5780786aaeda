import Derived.Test.YtalhmlnmbgpleaaXL
import Derived.Test.YtalhmlnmbgpleaaRows
namespace Go.Proofs.Ytalhmlnmbgpleaa
open Go.ChangeShapes Go.WideShapes Go.ChangeAt Go.RowKit Go.En

theorem dequeRefusedOwn : ownKnob Try.prog.godebug = none := by kernel_rfl
theorem dequeRefusedLaidOut : laidOutB Try.prog = true := by kernel_rfl
set_option maxRecDepth 100000 in
theorem dequeRefusedLifted (os : Os) (started : os.Started) (H : Type) (enc : TypeId × Value → H) :
    ReturnsInHanded {} Try.checked os 12 .any (Rows.dequeRefusedSpec.pre6 enc Try.prog Try.f12 Rows.dequeRefusedRow.domain false) (Rows.dequeRefusedSpec.post enc Try.prog Try.f12 false true false false) := by
  refine returnsInHanded_of_change_sized (C := Try.checked) dequeRefusedOwn started (by kernel_rfl) Try.func12
    (ChangeSpec.witness6 (enc := enc) (C := Try.checked) false ⟨#[], #[.slice none 0 0, .agg #[.int IntKind.u8 0, .bool false, .int IntKind.i64 0]], []⟩ 8 (by kernel_rfl) (by kernel_rfl) (by kernel_rfl) (by kernel_rfl)) ?_
  intro W base args ds gs before hval0 hW _ _ _
  have hval : ∀ (j : Nat) t v, Try.f12.params[j]? = some t → args[j]? = some v → Value.okWide Try.prog W .any base t v := hval0
  clear hval0
  have hW' := hW
  obtain ⟨p, q, hA0, hV, rfl, hfz, hnd⟩ := hW
  have hA : DataW.TrodAll enc Try.prog W 0 (fun _ => true) true [29, 70] args.toList ds p := hA0
  obtain ⟨v0, v1, d0, d1, p0, p1, rfl, rfl, rfl, h0, h1⟩ := trodAll_two hA
  obtain ⟨x0, s0, w0⟩ := sl_open (E := EI1) (t := 29) (e := 2) (by kernel_rfl) (by kernel_rfl) (by decide) (el_i64 (by kernel_rfl)) (hval 0 29 v0 rfl rfl) h0
  obtain ⟨x1, rfl, w1⟩ := ag_open (E := EA5) (t := 70) (by kernel_rfl) (el_a5 (by kernel_rfl)) (hval 1 70 v1 rfl rfl) h1
  refine true_calls (tb := 4) dequeRefusedLaidOut (by kernel_rfl) rfl rfl (by kernel_rfl) (fun ds hd => ?_) hW' ?_
  · match ds, hd with
    | [d0, d1], _ => rfl
  · exact (C_simulcastlaw35_DequeRefused (L_DequeRefused csD6 s0 w0 w1 fun h' g => ⟨rfl, g⟩)).2

theorem dequeRefused_holds : Rows.DequeRefusedSaid :=
  OpenClaim.holds_of_wide 12 Try.f12 rfl rfl rfl rfl rfl rfl rfl ⟨rfl, rfl, rfl, rfl, rfl⟩ rfl rfl rfl rfl rfl (by kernel_rfl) Try.func12 (by kernel_rfl)
    (of_decide_eq_true (by kernel_rfl)) (by unfold Func.isWrapper; first | (rw [if_pos (by decide +kernel)]; kernel_rfl) | (rw [if_neg (by decide +kernel)]; exact ⟨rfl, rfl⟩))
    (fun os started H enc _ => dequeRefusedLifted os started H enc)
#print axioms dequeRefused_holds

end Go.Proofs.Ytalhmlnmbgpleaa
