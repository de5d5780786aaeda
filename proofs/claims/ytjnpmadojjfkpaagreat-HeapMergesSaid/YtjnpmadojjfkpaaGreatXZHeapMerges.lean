/-
  The law simulcast/simulcastlaw38.HeapMerges, for every input: it returns true and leaves its arguments as they were. No condition.
-/
import Derived.Test.YtjnpmadojjfkpaaGreatZN
import Derived.Test.YtjnpmadojjfkpaaGreatZJ
import Derived.Test.YtjnpmadojjfkpaaGreatRows
namespace Go.Proofs.YtjnpmadojjfkpaaGreat
open Go.ChangeShapes Go.WideShapes Go.ChangeAt Go.RowKit Go.En

theorem heapMergesOwn : ownKnob Tryz.prog.godebug = none := by kernel_rfl
theorem heapMergesLaidOut : laidOutB Tryz.prog = true := by kernel_rfl
set_option maxRecDepth 100000 in
theorem heapMergesLifted (os : Os) (started : os.Started) (H : Type) (enc : TypeId × Value → H) :
    ReturnsInHanded {} Tryz.checked os 9 .any (Rows.heapMergesSpec.pre6 enc Tryz.prog Tryz.f9 Rows.heapMergesRow.domain false) (Rows.heapMergesSpec.post enc Tryz.prog Tryz.f9 false true false false) := by
  refine returnsInHanded_of_change_sized (C := Tryz.checked) heapMergesOwn started (by kernel_rfl) Tryz.func9
    (ChangeSpec.witness6 (enc := enc) (C := Tryz.checked) false ⟨#[], #[.slice none 0 0, .int IntKind.u8 0], []⟩ 8 (by kernel_rfl) (by kernel_rfl) (by kernel_rfl) (by kernel_rfl)) ?_
  intro W base args ds gs before hval0 hW _ _ _
  have hval : ∀ (j : Nat) t v, Tryz.f9.params[j]? = some t → args[j]? = some v → Value.okWide Tryz.prog W .any base t v := hval0
  clear hval0
  have hW' := hW
  obtain ⟨p, q, hA0, hV, rfl, hfz, hnd⟩ := hW
  have hA : DataW.TrodAll enc Tryz.prog W 0 (fun _ => true) true [39, 5] args.toList ds p := hA0
  obtain ⟨v0, v1, d0, d1, p0, p1, rfl, rfl, rfl, h0, h1⟩ := trodAll_two hA
  obtain ⟨x0, s0, w0⟩ := sl_open (E := (EAr .i8 2)) (t := 39) (e := 52) (by kernel_rfl) (by kernel_rfl) (by decide) (el_arr (e := 51) (n := 2) (by kernel_rfl) (by kernel_rfl) (by kernel_rfl) (by kernel_rfl)) (hval 0 39 v0 rfl rfl) h0
  obtain ⟨x1, rfl, rfl, rfl, w1⟩ := open_int (t := 5) (k := .u8) (by kernel_rfl) (hval 1 5 v1 rfl rfl) h1
  refine true_calls (tb := 4) heapMergesLaidOut (by kernel_rfl) rfl rfl (by kernel_rfl) (fun ds hd => ?_) hW' ?_
  · match ds, hd with
    | [d0, d1], _ => rfl
  · exact (C_simulcastlaw38_HeapMerges (L_HeapMerges csV8 s0 w0 (wf_u8 w1) fun h' g => ⟨rfl, g⟩)).2

theorem heapMerges_holds : Rows.HeapMergesSaid :=
  OpenClaim.holds_of_wide 9 Tryz.f9 rfl rfl rfl rfl rfl rfl rfl ⟨rfl, rfl, rfl, rfl, rfl⟩ rfl rfl rfl rfl rfl (by kernel_rfl) Tryz.func9 (by kernel_rfl)
    (of_decide_eq_true (by kernel_rfl)) (by unfold Func.isWrapper; first | (rw [if_pos (by decide +kernel)]; kernel_rfl) | (rw [if_neg (by decide +kernel)]; exact ⟨rfl, rfl⟩))
    (fun os started H enc _ => heapMergesLifted os started H enc)
#print axioms heapMerges_holds

end Go.Proofs.YtjnpmadojjfkpaaGreat
