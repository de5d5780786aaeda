import Derived.Test.YtalhmlnmbgpleaaXL
import Derived.Test.YtalhmlnmbgpleaaRows
namespace Go.Proofs.Ytalhmlnmbgpleaa
open Go.ChangeShapes Go.WideShapes Go.ChangeAt Go.RowKit Go.En

theorem dequeMirrorOwn : ownKnob Try.prog.godebug = none := by kernel_rfl
theorem dequeMirrorLaidOut : laidOutB Try.prog = true := by kernel_rfl
set_option maxRecDepth 100000 in
theorem dequeMirrorLifted (os : Os) (started : os.Started) (H : Type) (enc : TypeId × Value → H) :
    ReturnsInHanded {} Try.checked os 11 .any (Rows.dequeMirrorSpec.pre6 enc Try.prog Try.f11 Rows.dequeMirrorRow.domain false) (Rows.dequeMirrorSpec.post enc Try.prog Try.f11 false true false false) := by
  refine returnsInHanded_of_change_sized (C := Try.checked) dequeMirrorOwn started (by kernel_rfl) Try.func11
    (ChangeSpec.witness6 (enc := enc) (C := Try.checked) false ⟨#[], #[.slice none 0 0], []⟩ 8 (by kernel_rfl) (by kernel_rfl) (by kernel_rfl) (by kernel_rfl)) ?_
  intro W base args ds gs before hval0 hW _ _ _
  have hval : ∀ (j : Nat) t v, Try.f11.params[j]? = some t → args[j]? = some v → Value.okWide Try.prog W .any base t v := hval0
  clear hval0
  have hW' := hW
  obtain ⟨p, q, hA0, hV, rfl, hfz, hnd⟩ := hW
  have hA : DataW.TrodAll enc Try.prog W 0 (fun _ => true) true [64] args.toList ds p := hA0
  obtain ⟨v0, d0, rfl, rfl, h0⟩ := trodAll_one hA
  obtain ⟨x0, s0, w0⟩ := sl_open (E := EA5) (t := 64) (e := 70) (by kernel_rfl) (by kernel_rfl) (by decide) (el_a5 (by kernel_rfl)) (hval 0 64 v0 rfl rfl) h0
  refine true_calls (tb := 4) dequeMirrorLaidOut (by kernel_rfl) rfl rfl (by kernel_rfl) (fun ds hd => ?_) hW' ?_
  · match ds, hd with
    | [d0], _ => rfl
  · exact (C_simulcastlaw35_DequeMirror (L_DequeMirror csD6 s0 w0 fun h' g => ⟨rfl, g⟩)).2

theorem dequeMirror_holds : Rows.DequeMirrorSaid :=
  OpenClaim.holds_of_wide 11 Try.f11 rfl rfl rfl rfl rfl rfl rfl ⟨rfl, rfl, rfl, rfl, rfl⟩ rfl rfl rfl rfl rfl (by kernel_rfl) Try.func11 (by kernel_rfl)
    (of_decide_eq_true (by kernel_rfl)) (by unfold Func.isWrapper; first | (rw [if_pos (by decide +kernel)]; kernel_rfl) | (rw [if_neg (by decide +kernel)]; exact ⟨rfl, rfl⟩))
    (fun os started H enc _ => dequeMirrorLifted os started H enc)
#print axioms dequeMirror_holds

end Go.Proofs.Ytalhmlnmbgpleaa
