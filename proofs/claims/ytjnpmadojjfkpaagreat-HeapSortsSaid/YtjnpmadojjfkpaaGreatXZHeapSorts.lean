/-
  The law simulcast/simulcastlaw38.HeapSorts, for every input: it returns true and leaves its arguments as they were. No condition.
-/
import Derived.Test.YtjnpmadojjfkpaaGreatZM
import Derived.Test.YtjnpmadojjfkpaaGreatRows
namespace Go.Proofs.YtjnpmadojjfkpaaGreat
open Go.ChangeShapes Go.WideShapes Go.ChangeAt Go.RowKit Go.En

theorem heapSortsOwn : ownKnob Tryz.prog.godebug = none := by kernel_rfl
theorem heapSortsLaidOut : laidOutB Tryz.prog = true := by kernel_rfl
set_option maxRecDepth 100000 in
theorem heapSortsLifted (os : Os) (started : os.Started) (H : Type) (enc : TypeId × Value → H) :
    ReturnsInHanded {} Tryz.checked os 4 .any (Rows.heapSortsSpec.pre6 enc Tryz.prog Tryz.f4 Rows.heapSortsRow.domain false) (Rows.heapSortsSpec.post enc Tryz.prog Tryz.f4 false true false false) := by
  refine returnsInHanded_of_change_sized (C := Tryz.checked) heapSortsOwn started (by kernel_rfl) Tryz.func4
    (ChangeSpec.witness6 (enc := enc) (C := Tryz.checked) false ⟨#[], #[.int IntKind.u8 0, .slice none 0 0, .slice none 0 0], []⟩ 8 (by kernel_rfl) (by kernel_rfl) (by kernel_rfl) (by kernel_rfl)) ?_
  intro W base args ds gs before hval0 hW _ _ _
  have hval : ∀ (j : Nat) t v, Tryz.f4.params[j]? = some t → args[j]? = some v → Value.okWide Tryz.prog W .any base t v := hval0
  clear hval0
  have hW' := hW
  obtain ⟨p, q, hA0, hV, rfl, hfz, hnd⟩ := hW
  have hA : DataW.TrodAll enc Tryz.prog W 0 (fun _ => true) true [5, 22, 39] args.toList ds p := hA0
  obtain ⟨v0, v1, v2, d0, d1, d2, p0, p1, p2, rfl, rfl, rfl, h0, h1, h2⟩ := trodAll_three hA
  obtain ⟨x0, rfl, rfl, rfl, w0⟩ := open_int (t := 5) (k := .u8) (by kernel_rfl) (hval 0 5 v0 rfl rfl) h0
  obtain ⟨x1, s1, w1⟩ := sl_open (E := EC8) (t := 22) (e := 74) (by kernel_rfl) (by kernel_rfl) (by decide) (el_c38 (by kernel_rfl)) (hval 1 22 v1 rfl rfl) h1
  obtain ⟨x2, s2, w2⟩ := sl_open (E := (EAr .i8 2)) (t := 39) (e := 52) (by kernel_rfl) (by kernel_rfl) (by decide) (el_arr (e := 51) (n := 2) (by kernel_rfl) (by kernel_rfl) (by kernel_rfl) (by kernel_rfl)) (hval 2 39 v2 rfl rfl) h2
  refine true_calls (tb := 4) heapSortsLaidOut (by kernel_rfl) rfl rfl (by kernel_rfl) (fun ds hd => ?_) hW' ?_
  · match ds, hd with
    | [d0, d1, d2], _ => rfl
  · exact (C_simulcastlaw38_HeapSorts (L_HeapSorts csVS (wf_u8 w0) s1 w1 s2 w2 fun h' g => ⟨rfl, g⟩)).2

theorem heapSorts_holds : Rows.HeapSortsSaid :=
  OpenClaim.holds_of_wide 4 Tryz.f4 rfl rfl rfl rfl rfl rfl rfl ⟨rfl, rfl, rfl, rfl, rfl⟩ rfl rfl rfl rfl rfl (by kernel_rfl) Tryz.func4 (by kernel_rfl)
    (of_decide_eq_true (by kernel_rfl)) (by unfold Func.isWrapper; first | (rw [if_pos (by decide +kernel)]; kernel_rfl) | (rw [if_neg (by decide +kernel)]; exact ⟨rfl, rfl⟩))
    (fun os started H enc _ => heapSortsLifted os started H enc)
#print axioms heapSorts_holds

end Go.Proofs.YtjnpmadojjfkpaaGreat
