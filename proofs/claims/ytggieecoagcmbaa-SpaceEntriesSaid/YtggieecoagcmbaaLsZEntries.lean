import Derived.Test.YtggieecoagcmbaaLsM
import Derived.Test.YtggieecoagcmbaaRows
namespace Go.Proofs.Ytggieecoagcmbaa
open Go.ChangeShapes Go.WideShapes Go.ChangeAt Go.RowKit Go.En

theorem spaceEntriesOwn : ownKnob Try.prog.godebug = none := by kernel_rfl
theorem spaceEntriesLaidOut : laidOutB Try.prog = true := by kernel_rfl
set_option maxRecDepth 100000 in
theorem spaceEntriesLifted (os : Os) (started : os.Started) (H : Type) (enc : TypeId × Value → H) :
    ReturnsInHanded {} Try.checked os 14 .any (Rows.spaceEntriesSpec.pre6 enc Try.prog Try.f14 Rows.spaceEntriesRow.domain false) (Rows.spaceEntriesSpec.post enc Try.prog Try.f14 false true false false) := by
  refine returnsInHanded_of_change_sized (C := Try.checked) spaceEntriesOwn started (by kernel_rfl) Try.func14
    (ChangeSpec.witness6 (enc := enc) (C := Try.checked) false ⟨#[], #[.agg #[.int IntKind.i64 0, .int IntKind.i64 0, .int IntKind.i64 0, .int IntKind.i64 0, .int IntKind.i64 0, .int IntKind.i64 0, .int IntKind.i64 0, .int IntKind.i64 0], .agg #[.int IntKind.u16 0, .int IntKind.u16 0, .int IntKind.u16 0, .int IntKind.u16 0, .int IntKind.u16 0, .int IntKind.u16 0, .int IntKind.u16 0, .int IntKind.u16 0], .slice none 0 0], []⟩ 8 (by kernel_rfl) (by kernel_rfl) (by kernel_rfl) (by kernel_rfl)) ?_
  intro W base args ds gs before hval0 hW _ _ _
  have hval : ∀ (j : Nat) t v, Try.f14.params[j]? = some t → args[j]? = some v → Value.okWide Try.prog W .any base t v := hval0
  clear hval0
  have hW' := hW
  obtain ⟨p, q, hA0, hV, rfl, hfz, hnd⟩ := hW
  have hA : DataW.TrodAll enc Try.prog W 0 (fun _ => true) true [89, 122, 75] args.toList ds p := hA0
  obtain ⟨v0, v1, v2, d0, d1, d2, p0, p1, p2, rfl, rfl, rfl, h0, h1, h2⟩ := trodAll_three hA
  obtain ⟨x0, rfl, w0⟩ := ag_open (E := EAr .i64 8) (t := 89) (by kernel_rfl) (el_arr (e := 2) (n := 8) (by kernel_rfl) (by kernel_rfl) (by kernel_rfl) (by kernel_rfl)) (hval 0 89 v0 rfl rfl) h0
  obtain ⟨x1, rfl, w1⟩ := ag_open (E := EAr .u16 8) (t := 122) (by kernel_rfl) (el_arr (e := 121) (n := 8) (by kernel_rfl) (by kernel_rfl) (by kernel_rfl) (by kernel_rfl)) (hval 1 122 v1 rfl rfl) h1
  obtain ⟨x2, s2, w2⟩ := sl_open (E := EAc) (t := 75) (e := 91) (by kernel_rfl) (by kernel_rfl) (by decide) (el_ac (by kernel_rfl)) (hval 2 75 v2 rfl rfl) h2
  refine true_calls (tb := 4) spaceEntriesLaidOut (by kernel_rfl) rfl rfl (by kernel_rfl) (fun ds hd => ?_) hW' ?_
  · match ds, hd with
    | [d0, d1, d2], _ => rfl
  · exact (C_simulcastlaw30_SpaceEntries (L_SpaceEntries csR7 (fun i hi => wf_i64 (w0 i hi)) (fun i hi => wf_u16 (w1 i hi)) s2 w2 fun h' g => ⟨rfl, g⟩)).2

theorem spaceEntries_holds : Rows.SpaceEntriesSaid :=
  OpenClaim.holds_of_wide 14 Try.f14 rfl rfl rfl rfl rfl rfl rfl ⟨rfl, rfl, rfl, rfl, rfl⟩ rfl rfl rfl rfl rfl (by kernel_rfl) Try.func14 (by kernel_rfl)
    (of_decide_eq_true (by kernel_rfl)) (by unfold Func.isWrapper; first | (rw [if_pos (by decide +kernel)]; kernel_rfl) | (rw [if_neg (by decide +kernel)]; exact ⟨rfl, rfl⟩))
    (fun os started H enc _ => spaceEntriesLifted os started H enc)
#print axioms spaceEntries_holds

end Go.Proofs.Ytggieecoagcmbaa
