import Derived.Test.YtmpdclbiopalaaaYR
import Derived.Test.YtmpdclbiopalaaaRows
namespace Go.Proofs.Ytmpdclbiopalaaa
open Go.ChangeShapes Go.WideShapes Go.ChangeAt Go.RowKit Go.En

theorem treeOrdersOwn : ownKnob Try.prog.godebug = none := by kernel_rfl
theorem treeOrdersLaidOut : laidOutB Try.prog = true := by kernel_rfl
set_option maxRecDepth 100000 in
theorem treeOrdersLifted (os : Os) (started : os.Started) (H : Type) (enc : TypeId × Value → H) :
    ReturnsInHanded {} Try.checked os 12 .any (Rows.treeOrdersSpec.pre6 enc Try.prog Try.f12 Rows.treeOrdersRow.domain false) (Rows.treeOrdersSpec.post enc Try.prog Try.f12 false true false false) := by
  refine returnsInHanded_of_change_sized (C := Try.checked) treeOrdersOwn started (by kernel_rfl) Try.func12
    (ChangeSpec.witness6 (enc := enc) (C := Try.checked) false ⟨#[], #[.slice none 0 0, .slice none 0 0, .int IntKind.i64 0], []⟩ 8 (by kernel_rfl) (by kernel_rfl) (by kernel_rfl) (by kernel_rfl)) ?_
  intro W base args ds gs before hval0 hW _ _ _
  have hval : ∀ (j : Nat) t v, Try.f12.params[j]? = some t → args[j]? = some v → Value.okWide Try.prog W .any base t v := hval0
  clear hval0
  have hW' := hW
  obtain ⟨p, q, hA0, hV, rfl, hfz, hnd⟩ := hW
  have hA : DataW.TrodAll enc Try.prog W 0 (fun _ => true) true [34, 105, 2] args.toList ds p := hA0
  obtain ⟨v0, v1, v2, d0, d1, d2, p0, p1, p2, rfl, rfl, rfl, h0, h1, h2⟩ := trodAll_three hA
  obtain ⟨x0, s0, w0⟩ := sl_open (E := EI1) (t := 34) (e := 2) (by kernel_rfl) (by kernel_rfl) (by decide) (el_i64 (by kernel_rfl)) (hval 0 34 v0 rfl rfl) h0
  obtain ⟨x1, s1, w1⟩ := sl_open (E := EU8) (t := 105) (e := 5) (by kernel_rfl) (by kernel_rfl) (by decide) (el_u8 (by kernel_rfl)) (hval 1 105 v1 rfl rfl) h1
  obtain ⟨x2, rfl, rfl, rfl, w2⟩ := open_int (t := 2) (k := .i64) (by kernel_rfl) (hval 2 2 v2 rfl rfl) h2
  refine true_calls (tb := 4) treeOrdersLaidOut (by kernel_rfl) rfl rfl (by kernel_rfl) (fun ds hd => ?_) hW' ?_
  · match ds, hd with
    | [d0, d1, d2], _ => rfl
  · exact (C_simulcastlaw37_TreeOrders (L_TreeOrders csX5 s0 w0 s1 w1 (wf_i64 w2) fun h' g => ⟨rfl, g⟩)).2

theorem treeOrders_holds : Rows.TreeOrdersSaid :=
  OpenClaim.holds_of_wide 12 Try.f12 rfl rfl rfl rfl rfl rfl rfl ⟨rfl, rfl, rfl, rfl, rfl⟩ rfl rfl rfl rfl rfl (by kernel_rfl) Try.func12 (by kernel_rfl)
    (of_decide_eq_true (by kernel_rfl)) (by unfold Func.isWrapper; first | (rw [if_pos (by decide +kernel)]; kernel_rfl) | (rw [if_neg (by decide +kernel)]; exact ⟨rfl, rfl⟩))
    (fun os started H enc _ => treeOrdersLifted os started H enc)
#print axioms treeOrders_holds

end Go.Proofs.Ytmpdclbiopalaaa
