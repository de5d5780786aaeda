/-
  The law simulcast/simulcastlaw38.HeapBroken, for every input: it returns true and leaves its arguments as they were. No condition.
-/
import Derived.Test.YtjnpmadojjfkpaaGreatZQ
import Derived.Test.YtjnpmadojjfkpaaGreatRows
namespace Go.Proofs.YtjnpmadojjfkpaaGreat
open Go.ChangeShapes Go.WideShapes Go.ChangeAt Go.RowKit Go.En

theorem heapBrokenOwn : ownKnob Tryz.prog.godebug = none := by kernel_rfl
theorem heapBrokenLaidOut : laidOutB Tryz.prog = true := by kernel_rfl
set_option maxRecDepth 100000 in
theorem heapBrokenLifted (os : Os) (started : os.Started) (H : Type) (enc : TypeId × Value → H) :
    ReturnsInHanded {} Tryz.checked os 8 .any (Rows.heapBrokenSpec.pre6 enc Tryz.prog Tryz.f8 Rows.heapBrokenRow.domain false) (Rows.heapBrokenSpec.post enc Tryz.prog Tryz.f8 false true false false) := by
  refine returnsInHanded_of_change_sized (C := Tryz.checked) heapBrokenOwn started (by kernel_rfl) Tryz.func8
    (ChangeSpec.witness6 (enc := enc) (C := Tryz.checked) false ⟨#[], #[.slice none 0 0, .int IntKind.u8 0, .agg #[.int IntKind.u8 0, .int IntKind.u8 0, .int IntKind.i64 0, .int IntKind.i64 0]], []⟩ 8 (by kernel_rfl) (by kernel_rfl) (by kernel_rfl) (by kernel_rfl)) ?_
  intro W base args ds gs before hval0 hW _ _ _
  have hval : ∀ (j : Nat) t v, Tryz.f8.params[j]? = some t → args[j]? = some v → Value.okWide Tryz.prog W .any base t v := hval0
  clear hval0
  have hW' := hW
  obtain ⟨p, q, hA0, hV, rfl, hfz, hnd⟩ := hW
  have hA : DataW.TrodAll enc Tryz.prog W 0 (fun _ => true) true [33, 5, 74] args.toList ds p := hA0
  obtain ⟨v0, v1, v2, d0, d1, d2, p0, p1, p2, rfl, rfl, rfl, h0, h1, h2⟩ := trodAll_three hA
  obtain ⟨x0, s0, w0⟩ := sl_open (E := EI1) (t := 33) (e := 2) (by kernel_rfl) (by kernel_rfl) (by decide) (el_i64 (by kernel_rfl)) (hval 0 33 v0 rfl rfl) h0
  obtain ⟨x1, rfl, rfl, rfl, w1⟩ := open_int (t := 5) (k := .u8) (by kernel_rfl) (hval 1 5 v1 rfl rfl) h1
  obtain ⟨x2, rfl, w2⟩ := ag_open (E := EC8) (t := 74) (by kernel_rfl) (el_c38 (by kernel_rfl)) (hval 2 74 v2 rfl rfl) h2
  refine true_calls (tb := 4) heapBrokenLaidOut (by kernel_rfl) rfl rfl (by kernel_rfl) (fun ds hd => ?_) hW' ?_
  · match ds, hd with
    | [d0, d1, d2], _ => rfl
  · exact (C_simulcastlaw38_HeapBroken (L_HeapBroken csVX s0 w0 (wf_u8 w1) w2 fun h' g => ⟨rfl, g⟩)).2

theorem heapBroken_holds : Rows.HeapBrokenSaid :=
  OpenClaim.holds_of_wide 8 Tryz.f8 rfl rfl rfl rfl rfl rfl rfl ⟨rfl, rfl, rfl, rfl, rfl⟩ rfl rfl rfl rfl rfl (by kernel_rfl) Tryz.func8 (by kernel_rfl)
    (of_decide_eq_true (by kernel_rfl)) (by unfold Func.isWrapper; first | (rw [if_pos (by decide +kernel)]; kernel_rfl) | (rw [if_neg (by decide +kernel)]; exact ⟨rfl, rfl⟩))
    (fun os started H enc _ => heapBrokenLifted os started H enc)
#print axioms heapBroken_holds

end Go.Proofs.YtjnpmadojjfkpaaGreat
