import Derived.Test.YtalhmlnmbgpleaaXK
import Derived.Test.YtalhmlnmbgpleaaRows
namespace Go.Proofs.Ytalhmlnmbgpleaa
open Go.ChangeShapes Go.WideShapes Go.ChangeAt Go.RowKit Go.En

theorem counterSumsOwn : ownKnob Try.prog.godebug = none := by kernel_rfl
theorem counterSumsLaidOut : laidOutB Try.prog = true := by kernel_rfl
set_option maxRecDepth 100000 in
theorem counterSumsLifted (os : Os) (started : os.Started) (H : Type) (enc : TypeId × Value → H) :
    ReturnsInHanded {} Try.checked os 4 .any (Rows.counterSumsSpec.pre6 enc Try.prog Try.f4 Rows.counterSumsRow.domain false) (Rows.counterSumsSpec.post enc Try.prog Try.f4 false true false false) := by
  refine returnsInHanded_of_change_sized (C := Try.checked) counterSumsOwn started (by kernel_rfl) Try.func4
    (ChangeSpec.witness6 (enc := enc) (C := Try.checked) false ⟨#[], #[.agg #[.int IntKind.i64 0, .int IntKind.i64 0, .int IntKind.i64 0, .int IntKind.i64 0], .slice none 0 0], []⟩ 8 (by kernel_rfl) (by kernel_rfl) (by kernel_rfl) (by kernel_rfl)) ?_
  intro W base args ds gs before hval0 hW _ _ _
  have hval : ∀ (j : Nat) t v, Try.f4.params[j]? = some t → args[j]? = some v → Value.okWide Try.prog W .any base t v := hval0
  clear hval0
  have hW' := hW
  obtain ⟨p, q, hA0, hV, rfl, hfz, hnd⟩ := hW
  have hA : DataW.TrodAll enc Try.prog W 0 (fun _ => true) true [22, 23] args.toList ds p := hA0
  obtain ⟨v0, v1, d0, d1, p0, p1, rfl, rfl, rfl, h0, h1⟩ := trodAll_two hA
  obtain ⟨x0, rfl, w0⟩ := ag_open (E := EAr .i64 4) (t := 22) (by kernel_rfl) (el_arr (e := 2) (n := 4) (by kernel_rfl) (by kernel_rfl) (by kernel_rfl) (by kernel_rfl)) (hval 0 22 v0 rfl rfl) h0
  obtain ⟨x1, s1, w1⟩ := sl_open (E := EC4) (t := 23) (e := 31) (by kernel_rfl) (by kernel_rfl) (by decide) (el_c4 (by kernel_rfl)) (hval 1 23 v1 rfl rfl) h1
  refine true_calls (tb := 4) counterSumsLaidOut (by kernel_rfl) rfl rfl (by kernel_rfl) (fun ds hd => ?_) hW' ?_
  · match ds, hd with
    | [d0, d1], _ => rfl
  · exact (C_simulcastlaw32_CounterSums (L_CounterSums csC5 (fun i hi => wf_i64 (w0 i hi)) s1 w1 fun h' g => ⟨rfl, g⟩)).2

theorem counterSums_holds : Rows.CounterSumsSaid :=
  OpenClaim.holds_of_wide 4 Try.f4 rfl rfl rfl rfl rfl rfl rfl ⟨rfl, rfl, rfl, rfl, rfl⟩ rfl rfl rfl rfl rfl (by kernel_rfl) Try.func4 (by kernel_rfl)
    (of_decide_eq_true (by kernel_rfl)) (by unfold Func.isWrapper; first | (rw [if_pos (by decide +kernel)]; kernel_rfl) | (rw [if_neg (by decide +kernel)]; exact ⟨rfl, rfl⟩))
    (fun os started H enc _ => counterSumsLifted os started H enc)
#print axioms counterSums_holds

end Go.Proofs.Ytalhmlnmbgpleaa
