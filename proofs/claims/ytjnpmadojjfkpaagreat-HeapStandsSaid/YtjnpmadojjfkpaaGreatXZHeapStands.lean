/-
  The law simulcast/simulcastlaw38.HeapStands, for every input: it returns true and leaves its arguments as they were. No condition.
-/
import Derived.Test.YtjnpmadojjfkpaaGreatZL
import Derived.Test.YtjnpmadojjfkpaaGreatRows
namespace Go.Proofs.YtjnpmadojjfkpaaGreat
open Go.ChangeShapes Go.WideShapes Go.ChangeAt Go.RowKit Go.En

theorem heapStandsOwn : ownKnob Tryz.prog.godebug = none := by kernel_rfl
theorem heapStandsLaidOut : laidOutB Tryz.prog = true := by kernel_rfl
set_option maxRecDepth 100000 in
theorem heapStandsLifted (os : Os) (started : os.Started) (H : Type) (enc : TypeId × Value → H) :
    ReturnsInHanded {} Tryz.checked os 5 .any (Rows.heapStandsSpec.pre6 enc Tryz.prog Tryz.f5 Rows.heapStandsRow.domain false) (Rows.heapStandsSpec.post enc Tryz.prog Tryz.f5 false true false false) := by
  refine returnsInHanded_of_change_sized (C := Tryz.checked) heapStandsOwn started (by kernel_rfl) Tryz.func5
    (ChangeSpec.witness6 (enc := enc) (C := Tryz.checked) false ⟨#[], #[.int IntKind.u8 0, .slice none 0 0], []⟩ 8 (by kernel_rfl) (by kernel_rfl) (by kernel_rfl) (by kernel_rfl)) ?_
  intro W base args ds gs before hval0 hW _ _ _
  have hval : ∀ (j : Nat) t v, Tryz.f5.params[j]? = some t → args[j]? = some v → Value.okWide Tryz.prog W .any base t v := hval0
  clear hval0
  have hW' := hW
  obtain ⟨p, q, hA0, hV, rfl, hfz, hnd⟩ := hW
  have hA : DataW.TrodAll enc Tryz.prog W 0 (fun _ => true) true [5, 22] args.toList ds p := hA0
  obtain ⟨v0, v1, d0, d1, p0, p1, rfl, rfl, rfl, h0, h1⟩ := trodAll_two hA
  obtain ⟨x0, rfl, rfl, rfl, w0⟩ := open_int (t := 5) (k := .u8) (by kernel_rfl) (hval 0 5 v0 rfl rfl) h0
  obtain ⟨x1, s1, w1⟩ := sl_open (E := EC8) (t := 22) (e := 74) (by kernel_rfl) (by kernel_rfl) (by decide) (el_c38 (by kernel_rfl)) (hval 1 22 v1 rfl rfl) h1
  refine true_calls (tb := 4) heapStandsLaidOut (by kernel_rfl) rfl rfl (by kernel_rfl) (fun ds hd => ?_) hW' ?_
  · match ds, hd with
    | [d0, d1], _ => rfl
  · exact (C_simulcastlaw38_HeapStands (L_HeapStands csVA (wf_u8 w0) s1 w1 fun h' g => ⟨rfl, g⟩)).2

theorem heapStands_holds : Rows.HeapStandsSaid :=
  OpenClaim.holds_of_wide 5 Tryz.f5 rfl rfl rfl rfl rfl rfl rfl ⟨rfl, rfl, rfl, rfl, rfl⟩ rfl rfl rfl rfl rfl (by kernel_rfl) Tryz.func5 (by kernel_rfl)
    (of_decide_eq_true (by kernel_rfl)) (by unfold Func.isWrapper; first | (rw [if_pos (by decide +kernel)]; kernel_rfl) | (rw [if_neg (by decide +kernel)]; exact ⟨rfl, rfl⟩))
    (fun os started H enc _ => heapStandsLifted os started H enc)
#print axioms heapStands_holds

end Go.Proofs.YtjnpmadojjfkpaaGreat
