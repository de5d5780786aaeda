import Derived.Test.YtalhmlnmbgpleaaXK
import Derived.Test.YtalhmlnmbgpleaaRows
namespace Go.Proofs.Ytalhmlnmbgpleaa
open Go.ChangeShapes Go.WideShapes Go.ChangeAt Go.RowKit Go.En

theorem counterMovesOwn : ownKnob Try.prog.godebug = none := by kernel_rfl
theorem counterMovesLaidOut : laidOutB Try.prog = true := by kernel_rfl
set_option maxRecDepth 100000 in
theorem counterMovesLifted (os : Os) (started : os.Started) (H : Type) (enc : TypeId × Value → H) :
    ReturnsInHanded {} Try.checked os 7 .any (Rows.counterMovesSpec.pre6 enc Try.prog Try.f7 Rows.counterMovesRow.domain false) (Rows.counterMovesSpec.post enc Try.prog Try.f7 false true false false) := by
  refine returnsInHanded_of_change_sized (C := Try.checked) counterMovesOwn started (by kernel_rfl) Try.func7
    (ChangeSpec.witness6 (enc := enc) (C := Try.checked) false ⟨#[], #[.agg #[.int IntKind.i64 0, .int IntKind.i64 0, .int IntKind.i64 0, .int IntKind.i64 0], .int IntKind.u8 0, .int IntKind.u8 0, .int IntKind.i64 0], []⟩ 8 (by kernel_rfl) (by kernel_rfl) (by kernel_rfl) (by kernel_rfl)) ?_
  intro W base args ds gs before hval0 hW _ _ _
  have hval : ∀ (j : Nat) t v, Try.f7.params[j]? = some t → args[j]? = some v → Value.okWide Try.prog W .any base t v := hval0
  clear hval0
  have hW' := hW
  obtain ⟨p, q, hA0, hV, rfl, hfz, hnd⟩ := hW
  have hA : DataW.TrodAll enc Try.prog W 0 (fun _ => true) true [22, 5, 5, 2] args.toList ds p := hA0
  obtain ⟨v0, v1, v2, v3, d0, d1, d2, d3, p0, p1, p2, p3, rfl, rfl, rfl, h0, h1, h2, h3⟩ := trodAll_four hA
  obtain ⟨x0, rfl, w0⟩ := ag_open (E := EAr .i64 4) (t := 22) (by kernel_rfl) (el_arr (e := 2) (n := 4) (by kernel_rfl) (by kernel_rfl) (by kernel_rfl) (by kernel_rfl)) (hval 0 22 v0 rfl rfl) h0
  obtain ⟨x1, rfl, rfl, rfl, w1⟩ := open_int (t := 5) (k := .u8) (by kernel_rfl) (hval 1 5 v1 rfl rfl) h1
  obtain ⟨x2, rfl, rfl, rfl, w2⟩ := open_int (t := 5) (k := .u8) (by kernel_rfl) (hval 2 5 v2 rfl rfl) h2
  obtain ⟨x3, rfl, rfl, rfl, w3⟩ := open_int (t := 2) (k := .i64) (by kernel_rfl) (hval 3 2 v3 rfl rfl) h3
  refine true_calls (tb := 4) counterMovesLaidOut (by kernel_rfl) rfl rfl (by kernel_rfl) (fun ds hd => ?_) hW' ?_
  · match ds, hd with
    | [d0, d1, d2, d3], _ => rfl
  · exact (C_simulcastlaw32_CounterMoves (L_CounterMoves csC5 (fun i hi => wf_i64 (w0 i hi)) (wf_u8 w1) (wf_u8 w2) (wf_i64 w3) fun h' g => ⟨rfl, g⟩)).2

theorem counterMoves_holds : Rows.CounterMovesSaid :=
  OpenClaim.holds_of_wide 7 Try.f7 rfl rfl rfl rfl rfl rfl rfl ⟨rfl, rfl, rfl, rfl, rfl⟩ rfl rfl rfl rfl rfl (by kernel_rfl) Try.func7 (by kernel_rfl)
    (of_decide_eq_true (by kernel_rfl)) (by unfold Func.isWrapper; first | (rw [if_pos (by decide +kernel)]; kernel_rfl) | (rw [if_neg (by decide +kernel)]; exact ⟨rfl, rfl⟩))
    (fun os started H enc _ => counterMovesLifted os started H enc)
#print axioms counterMoves_holds

end Go.Proofs.Ytalhmlnmbgpleaa
