import Derived.Test.YtmpdclbiopalaaaXM
import Derived.Test.YtmpdclbiopalaaaRows
namespace Go.Proofs.Ytmpdclbiopalaaa
open Go.ChangeShapes Go.WideShapes Go.ChangeAt Go.RowKit Go.En

theorem graphLostOwn : ownKnob Try.prog.godebug = none := by kernel_rfl
theorem graphLostLaidOut : laidOutB Try.prog = true := by kernel_rfl
set_option maxRecDepth 100000 in
theorem graphLostLifted (os : Os) (started : os.Started) (H : Type) (enc : TypeId × Value → H) :
    ReturnsInHanded {} Try.checked os 6 .any (Rows.graphLostSpec.pre6 enc Try.prog Try.f6 Rows.graphLostRow.domain false) (Rows.graphLostSpec.post enc Try.prog Try.f6 false true false false) := by
  refine returnsInHanded_of_change_sized (C := Try.checked) graphLostOwn started (by kernel_rfl) Try.func6
    (ChangeSpec.witness6 (enc := enc) (C := Try.checked) false ⟨#[], #[.slice none 0 0, .slice none 0 0], []⟩ 8 (by kernel_rfl) (by kernel_rfl) (by kernel_rfl) (by kernel_rfl)) ?_
  intro W base args ds gs before hval0 hW _ _ _
  have hval : ∀ (j : Nat) t v, Try.f6.params[j]? = some t → args[j]? = some v → Value.okWide Try.prog W .any base t v := hval0
  clear hval0
  have hW' := hW
  obtain ⟨p, q, hA0, hV, rfl, hfz, hnd⟩ := hW
  have hA : DataW.TrodAll enc Try.prog W 0 (fun _ => true) true [34, 22] args.toList ds p := hA0
  obtain ⟨v0, v1, d0, d1, p0, p1, rfl, rfl, rfl, h0, h1⟩ := trodAll_two hA
  obtain ⟨x0, s0, w0⟩ := sl_open (E := EI1) (t := 34) (e := 2) (by kernel_rfl) (by kernel_rfl) (by decide) (el_i64 (by kernel_rfl)) (hval 0 34 v0 rfl rfl) h0
  obtain ⟨x1, s1, w1⟩ := sl_open (E := ECl) (t := 22) (e := 62) (by kernel_rfl) (by kernel_rfl) (by decide) (el_c40 (by kernel_rfl)) (hval 1 22 v1 rfl rfl) h1
  refine true_calls (tb := 4) graphLostLaidOut (by kernel_rfl) rfl rfl (by kernel_rfl) (fun ds hd => ?_) hW' ?_
  · match ds, hd with
    | [d0, d1], _ => rfl
  · exact (C_simulcastlaw40_GraphLost (L_GraphLost csK8 s0 w0 s1 w1 fun h' g => ⟨rfl, g⟩)).2

theorem graphLost_holds : Rows.GraphLostSaid :=
  OpenClaim.holds_of_wide 6 Try.f6 rfl rfl rfl rfl rfl rfl rfl ⟨rfl, rfl, rfl, rfl, rfl⟩ rfl rfl rfl rfl rfl (by kernel_rfl) Try.func6 (by kernel_rfl)
    (of_decide_eq_true (by kernel_rfl)) (by unfold Func.isWrapper; first | (rw [if_pos (by decide +kernel)]; kernel_rfl) | (rw [if_neg (by decide +kernel)]; exact ⟨rfl, rfl⟩))
    (fun os started H enc _ => graphLostLifted os started H enc)
#print axioms graphLost_holds

end Go.Proofs.Ytmpdclbiopalaaa
