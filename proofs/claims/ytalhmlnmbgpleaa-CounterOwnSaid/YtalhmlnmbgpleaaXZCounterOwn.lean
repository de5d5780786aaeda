import Derived.Test.YtalhmlnmbgpleaaXK
import Derived.Test.YtalhmlnmbgpleaaRows
namespace Go.Proofs.Ytalhmlnmbgpleaa
open Go.ChangeShapes Go.WideShapes Go.ChangeAt Go.RowKit Go.En

theorem counterOwnOwn : ownKnob Try.prog.godebug = none := by kernel_rfl
theorem counterOwnLaidOut : laidOutB Try.prog = true := by kernel_rfl
set_option maxRecDepth 100000 in
theorem counterOwnLifted (os : Os) (started : os.Started) (H : Type) (enc : TypeId × Value → H) :
    ReturnsInHanded {} Try.checked os 6 .any (Rows.counterOwnSpec.pre6 enc Try.prog Try.f6 Rows.counterOwnRow.domain false) (Rows.counterOwnSpec.post enc Try.prog Try.f6 false true false false) := by
  refine returnsInHanded_of_change_sized (C := Try.checked) counterOwnOwn started (by kernel_rfl) Try.func6
    (ChangeSpec.witness6 (enc := enc) (C := Try.checked) false ⟨#[], #[.agg #[.int IntKind.i64 0, .int IntKind.i64 0, .int IntKind.i64 0, .int IntKind.i64 0], .agg #[.int IntKind.u8 0, .int IntKind.u8 0, .int IntKind.u8 0, .int IntKind.i64 0]], []⟩ 8 (by kernel_rfl) (by kernel_rfl) (by kernel_rfl) (by kernel_rfl)) ?_
  intro W base args ds gs before hval0 hW _ _ _
  have hval : ∀ (j : Nat) t v, Try.f6.params[j]? = some t → args[j]? = some v → Value.okWide Try.prog W .any base t v := hval0
  clear hval0
  have hW' := hW
  obtain ⟨p, q, hA0, hV, rfl, hfz, hnd⟩ := hW
  have hA : DataW.TrodAll enc Try.prog W 0 (fun _ => true) true [22, 31] args.toList ds p := hA0
  obtain ⟨v0, v1, d0, d1, p0, p1, rfl, rfl, rfl, h0, h1⟩ := trodAll_two hA
  obtain ⟨x0, rfl, w0⟩ := ag_open (E := EAr .i64 4) (t := 22) (by kernel_rfl) (el_arr (e := 2) (n := 4) (by kernel_rfl) (by kernel_rfl) (by kernel_rfl) (by kernel_rfl)) (hval 0 22 v0 rfl rfl) h0
  obtain ⟨x1, rfl, w1⟩ := ag_open (E := EC4) (t := 31) (by kernel_rfl) (el_c4 (by kernel_rfl)) (hval 1 31 v1 rfl rfl) h1
  refine true_calls (tb := 4) counterOwnLaidOut (by kernel_rfl) rfl rfl (by kernel_rfl) (fun ds hd => ?_) hW' ?_
  · match ds, hd with
    | [d0, d1], _ => rfl
  · exact (C_simulcastlaw32_CounterOwn (L_CounterOwn csC5 (fun i hi => wf_i64 (w0 i hi)) w1 fun h' g => ⟨rfl, g⟩)).2

theorem counterOwn_holds : Rows.CounterOwnSaid :=
  OpenClaim.holds_of_wide 6 Try.f6 rfl rfl rfl rfl rfl rfl rfl ⟨rfl, rfl, rfl, rfl, rfl⟩ rfl rfl rfl rfl rfl (by kernel_rfl) Try.func6 (by kernel_rfl)
    (of_decide_eq_true (by kernel_rfl)) (by unfold Func.isWrapper; first | (rw [if_pos (by decide +kernel)]; kernel_rfl) | (rw [if_neg (by decide +kernel)]; exact ⟨rfl, rfl⟩))
    (fun os started H enc _ => counterOwnLifted os started H enc)
#print axioms counterOwn_holds

end Go.Proofs.Ytalhmlnmbgpleaa
