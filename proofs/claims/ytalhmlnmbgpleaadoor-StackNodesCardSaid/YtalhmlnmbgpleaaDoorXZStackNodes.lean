/-
  The law simulcast/simulcastlaw33.StackNodes, for every input: it returns true and leaves its arguments as they were.
  Condition: the package variable that the row lists reads as the text of the program lays it (the card ties it).
-/
import Derived.Test.YtalhmlnmbgpleaaDoorYO
import Derived.Test.YtalhmlnmbgpleaaDoorCards
import Derived.Test.YtalhmlnmbgpleaaDoorTie
import Derived.LaidMore
import Derived.Lay
import Derived.OpenShut
import Derived.ProofKit
import Derived.SevenTiedAt
import Derived.Stop.Joined
namespace Go.Proofs.YtalhmlnmbgpleaaDoor
open Go.ChangeShapes Go.WideShapes Go.ChangeAt Go.RowKit Go.En

theorem stackNodesOwn : ownKnob Tryd.prog.godebug = none := by kernel_rfl
theorem stackNodesLaidOut : laidOutB Tryd.prog = true := by kernel_rfl
theorem stackNodesRoots {W : World} (h : laidMetH Tryd.prog Rows.stackNodesRow.laid W) : Rt (fun _ => False) W.heap := by
  rw [MakeChecks.laidMetH_plain _ _ _ (by kernel_rfl)] at h
  obtain ⟨ps, ⟨g, t, cs, fuel, p, q, hg, ht, hv, hd, _, _⟩, _, _⟩ := h
  obtain rfl := Option.some.inj ((show Tryd.prog.globalNamed "simulcast/simulcastlaw33.roots" = some 0 by kernel_rfl).symm.trans hg)
  obtain rfl := Option.some.inj ((show (Tryd.prog.globals[0]?).map (·.type) = some 48 by kernel_rfl).symm.trans ht)
  obtain ⟨xs, m, _, ex, _, hl, hel⟩ := DataW.trod_array (show Tryd.prog.underlying 48 = some (.array 2 27) by kernel_rfl) hd
  have cE : Tryd.prog.cellsOf 27 = 1 := by kernel_rfl
  have e3 : (xs.map (·.1)) = ([8, 16] : List Int).map fun n => .lit (.int .i64 n) := (DataW.agg.inj (Prod.mk.inj ex).1).symm
  have key : ∀ r u, ([8, 16] : List Int)[r]? = some u → W.cell? ⟨0, r, Option.none⟩ = some (.int .i64 u) := fun r u hu => by
    have hr : r < 2 := (List.getElem?_eq_some_iff.1 hu).1
    have hE := hel r hr
    rw [cE, Nat.mul_one, List.getElem?_eq_getElem (by omega)] at hE
    obtain ⟨z, e1, e2, _⟩ := DataW.trod_int (show Tryd.prog.underlying 27 = some (.int .i64) by kernel_rfl) hE
    have e4 : (xs.map (·.1))[r]? = (([8, 16] : List Int).map fun n => (DataW.lit (.int .i64 n) : DataW Unit))[r]? := by rw [e3]
    rw [List.getElem?_map, List.getElem?_map, List.getElem?_eq_getElem (by omega : r < xs.length), hu, e2] at e4
    have hz : z = u := by
      simpa only [Option.map_some, Option.some.injEq, DataW.lit.injEq, Lit.int.injEq, true_and] using e4
    rw [World.var?_cell hg hv r, ← hz]
    have : cs.toList[r]? = some (.int .i64 z) := by
      have h0 : ((cs.toList.drop r).take 1)[0]? = some (.int .i64 z) := by rw [e1]; rfl
      simpa using h0
    simpa using this
  refine ⟨fun j u hu => ?_, id⟩
  have hc : ∃ y, ([8, 16] : List Int)[j]? = some y ∧ u = .int .i64 y := by
    match j, hu with
    | 0, hu => exact ⟨_, rfl, (Option.some.inj hu).symm⟩
    | 1, hu => exact ⟨_, rfl, (Option.some.inj hu).symm⟩
    | j + 2, hu => simp [ER2] at hu
  obtain ⟨y, hy, rfl⟩ := hc
  have := key j y hy
  unfold cl
  unfold World.cell? at this
  dsimp only at this
  rw [Nat.zero_add]
  split at this
  · rename_i c e f hh
    rw [hh]
    simpa using this
  · cases this
set_option maxRecDepth 100000 in
theorem stackNodesLifted (os : Os) (started : os.Started) (H : Type) (enc : TypeId × Value → H) :
    ReturnsInHanded {} Tryd.checked os 8 .any (fun w args => (Rows.stackNodesSpec.pre enc Tryd.prog Tryd.f8 Rows.stackNodesRow.domain false w args ∧ laidMetH Tryd.prog Rows.stackNodesRow.laid w) ∧ sizedMet enc Tryd.prog Tryd.f8 (OpenSpec.ofChange Rows.stackNodesSpec) false w args) (Rows.stackNodesSpec.post enc Tryd.prog Tryd.f8 false true false false) := by
  refine returnsInHanded_of_change_and (C := Tryd.checked) (X := fun w _ => laidMetH Tryd.prog Rows.stackNodesRow.laid w) (fun _ _ _ hh h => h.of_heap hh) stackNodesOwn started (by kernel_rfl) Tryd.func8
    (ChangeSpec.witness_shaped (enc := enc) (C := Tryd.checked) (os := os) (X := fun w _ => laidMetH Tryd.prog Rows.stackNodesRow.laid w) false (World.laidAll Tryd.prog os Rows.stackNodesRow.laid) #[.int IntKind.u8 0, .slice none 0 0] 8 (World.laidAll_os _ _ _)
      (World.shaped_of_ZipB (by kernel_rfl) (by kernel_rfl)) (by kernel_rfl) (by kernel_rfl) (by kernel_rfl)
      (by rw [MakeChecks.laidMetH_plain _ _ _ (by kernel_rfl)]; exact laidMet_laidAll _ (by kernel_rfl) (by kernel_rfl))) ?_
  intro W base args ds gs before hval0 hW _ _ hL _
  have hRt := stackNodesRoots hL
  have hval : ∀ (j : Nat) t v, Tryd.f8.params[j]? = some t → args[j]? = some v → Value.okWide Tryd.prog W .any base t v := hval0
  clear hval0
  have hW' := hW
  obtain ⟨p, q, hA0, hV, rfl, hfz, hnd⟩ := hW
  have hA : DataW.TrodAll enc Tryd.prog W 0 (fun _ => true) true [5, 22] args.toList ds p := hA0
  obtain ⟨v0, v1, d0, d1, p0, p1, rfl, rfl, rfl, h0, h1⟩ := trodAll_two hA
  obtain ⟨x0, rfl, rfl, rfl, w0⟩ := open_int (t := 5) (k := .u8) (by kernel_rfl) (hval 0 5 v0 rfl rfl) h0
  obtain ⟨x1, s1, w1⟩ := sl_open (E := ECs) (t := 22) (e := 38) (by kernel_rfl) (by kernel_rfl) (by decide) (el_c33 (by kernel_rfl)) (hval 1 22 v1 rfl rfl) h1
  refine true_calls (tb := 4) stackNodesLaidOut (by kernel_rfl) rfl rfl (by kernel_rfl) (fun ds hd => ?_) hW' ?_
  · match ds, hd with
    | [d0, d1], _ => rfl
  · exact (C_simulcastlaw33_StackNodes (L_StackNodes csS12' (wf_u8 w0) s1 w1 hRt fun h' g => ⟨rfl, g⟩)).2

theorem stackNodes_holds : Rows.StackNodesSaid :=
  OpenClaim.holds_of_wide 8 Tryd.f8 rfl rfl rfl rfl rfl rfl rfl ⟨rfl, rfl, rfl, rfl, rfl⟩ rfl rfl rfl rfl rfl (by kernel_rfl) Tryd.func8 (by kernel_rfl)
    (of_decide_eq_true (by kernel_rfl)) (by unfold Func.isWrapper; first | (rw [if_pos (by decide +kernel)]; kernel_rfl) | (rw [if_neg (by decide +kernel)]; exact ⟨rfl, rfl⟩))
    (fun os started H enc _ => stackNodesLifted os started H enc)
theorem stackNodes_card : Rows.StackNodesCardSaid :=
  Claim7.holds_tied_plain_at .later [] [.data] true (true, "6399fc4fba38014227daddd26a124d79662459d4f2427c5601d71f9acb9cc2b0") false
    stackNodes_holds (fun _ h => by cases h) (by kernel_rfl) (fun _ h => by cases h) stackNodes_row_tie rfl ⟨rfl, rfl⟩ (by kernel_rfl) rfl
    (fun f fn hf hfn => by
      obtain rfl : f = 8 := Option.some.inj ((show Tryd.prog.funcNamed "simulcast/simulcastlaw33.StackNodes" = some 8 by kernel_rfl).symm.trans hf) |>.symm
      obtain rfl : fn = Tryd.f8 := (Option.some.inj (Tryd.func8.symm.trans hfn)).symm
      exact ⟨by kernel_rfl, fun j t ht => by
        rw [show Tryd.f8.params = #[5, 22] from rfl] at ht
        have hm : t ∈ [5, 22] := by simpa using Array.mem_of_getElem? ht
        have hall : ([5, 22].all fun u => !Tryd.prog.wantsStandIn u) = true := by kernel_rfl
        exact (show Tryd.prog.wantsStandIn t = false by simpa using List.all_eq_true.1 hall t hm)⟩)
    (by kernel_rfl)
#print axioms stackNodes_card

end Go.Proofs.YtalhmlnmbgpleaaDoor
