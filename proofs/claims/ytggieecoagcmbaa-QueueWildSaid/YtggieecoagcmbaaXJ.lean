/-
  Layers 30, 31: the contracts, joined over the program.
  Sorting, entries, and what a space tells: the contracts, joined over the program.
  Layer 34: the contracts, joined over the program.
  Layer 31: the contracts, joined over the program.
  Layers 31, 34: the contracts of the laws Wild and Plays, joined over the program.
-/
import Derived.Test.YtggieecoagcmbaaXD
import Derived.Test.YtggieecoagcmbaaXU
import Derived.Test.YtggieecoagcmbaaXC
import Derived.Test.YtggieecoagcmbaaXE
import Derived.Test.YtggieecoagcmbaaXF
import Derived.Test.YtggieecoagcmbaaXG
namespace Go.En
open Go.ChangeShapes Go.WideShapes Prog

theorem csA : CsA (Sys.of Go.Proofs.Try.prog) ids := ⟨fun a b => C_space_Space_Ended (K_Ended a b)⟩
theorem csB : CsB (Sys.of Go.Proofs.Try.prog) ids := { csA with
  reads := fun a b => C_space_Space_reads (K_reads csA a b)
  last := fun a b => C_space_Space_last (K_last a b) }
theorem csC : CsC (Sys.of Go.Proofs.Try.prog) ids := { csB with value := fun a b => C_space_Space_value (K_value csB a b) }
theorem csD : CsD (Sys.of Go.Proofs.Try.prog) ids := { csC with
  get := fun _ _ _ _ a hp => C_space_Space_Get (K_Get csC a hp)
  put := fun _ _ _ _ a hp => C_space_Space_Put (K_Put csC hp.1 hp.2.1 a hp.2.2)
  back := fun _ _ _ _ a hp => C_space_Space_Back (K_Back csA a hp)
  mark := fun _ _ _ _ a hp => C_space_Space_Mark (K_Mark a (hp _ _ a (.refl _ _)))
  need := fun a b => C_space_Space_Need (K_Need a b)
  new := fun a b c d => C_space_New (K_New a b c d) }
theorem csP : CsP (Sys.of Go.Proofs.Try.prog) ids := { csD with check := Pur.of fun h R c k => C_pool_Pool_Check (K_Check h R c k) }
theorem csQ : CsQ (Sys.of Go.Proofs.Try.prog) ids := { csP with node := fun ha => Pur.of fun h R c k => C_pool_Pool_Node (K_Node ha csP h R c k) }
theorem csR : CsR (Sys.of Go.Proofs.Try.prog) ids := { csQ with add := fun a b => Does.of fun h0 F σ R Q c hp k => C_pool_Pool_add (K_add csQ a b h0 F σ R Q c hp k) }
theorem csT : CsT (Sys.of Go.Proofs.Try.prog) ids := { csR with
  take := Does.of fun h0 F σ R Q c hp k => C_pool_Pool_Take (K_Take csR h0 F σ R Q c hp k)
  give := fun ha => Does.of fun h0 F σ R Q c hp k => C_pool_Pool_Give (K_Give ha csR h0 F σ R Q c hp k)
  left := Does.of fun h0 F σ R Q c hp k => C_pool_Pool_Left (K_Left csR h0 F σ R Q c hp k) }
theorem wf_u8 {z : Int} (h : (Lit.int .u8 z).wf = true) : 0 ≤ z ∧ z ≤ 255 := by
  have h1 : IntKind.u8.min = 0 := rfl
  have h2 : IntKind.u8.max = 255 := rfl
  simp only [Lit.wf, Bool.and_eq_true, decide_eq_true_eq] at h
  exact ⟨by omega, by omega⟩
end Go.En
namespace Go.En
open Go.ChangeShapes Go.WideShapes Prog Go.Sort

theorem csN : CsN (Sys.of Go.Proofs.Try.prog) ids := ⟨Pur.of fun h R c k => C_cmp_isNaN_api_Loc (K_isNaN h R c k)⟩
theorem csS0 : CsS0 (Sys.of Go.Proofs.Try.prog) ids := ⟨Pur.of fun h R c k => C_cmp_Less_api_Loc (K_Less csN h R c k)⟩
theorem csS1 : CsS1 (Sys.of Go.Proofs.Try.prog) ids := { csS0 with sift := fun a b c d k => C_slices_siftDownOrdered_api_Loc (K_sift csS0 a b c d k) }
theorem csB0 : CsB0 (Sys.of Go.Proofs.Try.prog) ids := ⟨fun a k => C_math_bits_Len64 (K_Len64 a k)⟩
theorem csB1 : CsB1 (Sys.of Go.Proofs.Try.prog) ids := { csB0 with len := fun a k => C_math_bits_Len (K_Len csB0 a k) }
theorem csS3 : CsS3 (Sys.of Go.Proofs.Try.prog) ids := { csS0 with order2 := fun a b c k => C_slices_order2Ordered_api_Loc (K_order2 csS0 a b c k) }
theorem csS4 : CsS4 (Sys.of Go.Proofs.Try.prog) ids := ⟨fun a b c d k => C_slices_medianOrdered_api_Loc (K_median csS3 a b c d k)⟩
theorem csS5 : CsS5 (Sys.of Go.Proofs.Try.prog) ids := { csS4 with medianAdj := fun a b c d k => C_slices_medianAdjacentOrdered_api_Loc (K_medianAdj csS4 a b c d k) }
theorem csS6 : CsS6 (Sys.of Go.Proofs.Try.prog) ids := ⟨fun a k => C_slices_nextPowerOfTwo (K_nextPow csB1 a k), fun a k => C_slices_xorshift_Next (K_xnext a k)⟩
theorem csS7 : CsS7 (Sys.of Go.Proofs.Try.prog) ids := { csS0 with
  insertion := fun a b c d k => C_slices_insertionSortOrdered_api_Loc (K_insertion csS0 a b c d k)
  heapS := fun a b c d k => C_slices_heapSortOrdered_api_Loc (K_heapSort csS1 a b c d k)
  reverse := fun a b c d k => C_slices_reverseRangeOrdered_api_Loc (K_reverse a b c d k)
  partIns := fun a b c d k => C_slices_partialInsertionSortOrdered_api_Loc (K_partIns csS0 a b c d k)
  part := fun a b c d e k => C_slices_partitionOrdered_api_Loc (K_partition csS0 a b c d e k)
  partEq := fun a b c d e k => C_slices_partitionEqualOrdered_api_Loc (K_partEq csS0 a b c d e k)
  choose := fun a b c d k => C_slices_choosePivotOrdered_api_Loc (K_choosePivot csS5 a b c d k)
  breakP := fun a b c d k => C_slices_breakPatternsOrdered_api_Loc (K_breakPatterns csS6 a b c d k)
  pdq1 := fun a => C_slices_pdqsortOrdered_api_Loc a }
theorem csS8 : CsS8 (Sys.of Go.Proofs.Try.prog) ids := ⟨csB1.len, fun {v d a b l F h0 h R} hab hb hN hl hw c k => C_slices_pdqsortOrdered_api_Loc (pdq_all csS7 (b - a + 1) (by omega) hab hb hN hl hw c k)⟩
theorem csG : CsG (Sys.of Go.Proofs.Try.prog) ids := { csC with
  sort := fun a b k => C_slices_Sort_api_Loc_api_Loc (K_Sort csS8 a b k)
  compact := fun a b k => C_slices_Compact_api_Loc_api_Loc (K_Compact a b k) }
theorem csE0 : CsE0 (Sys.of Go.Proofs.Try.prog) ids := ⟨Pur.of fun h R c k => C_word_Ref (K_Ref0 h R c k)⟩
theorem csE1 : CsE1 (Sys.of Go.Proofs.Try.prog) ids := ⟨Pur.of fun h R c k => C_word_Who (K_Who0 csE0 h R c k)⟩
theorem csE2 : CsE2 (Sys.of Go.Proofs.Try.prog) ids := ⟨fun hw => Pur.of fun h R c k => C_word_kind (K_kind0 csE1 hw h R c k)⟩
theorem csE3 : CsE3 (Sys.of Go.Proofs.Try.prog) ids := ⟨fun hw => Pur.of fun h R c k => C_word_Plain (K_Plain0 csE2 hw h R c k)⟩
theorem csE4 : CsE4 (Sys.of Go.Proofs.Try.prog) ids := ⟨fun a k => C_entry_Check_1 (K_Check1 a k)⟩
theorem csE5 : CsE5 (Sys.of Go.Proofs.Try.prog) ids := ⟨fun a b c k => C_slices_IndexFunc_api_Entry_api_Entry (K_IndexFunc csE4 a b c k)⟩
theorem csE6 : CsE6 (Sys.of Go.Proofs.Try.prog) ids := ⟨fun hx => Pur.of fun h R c k => C_entry_wrong (K_wrong csE3 hx h R c k), fun a b c k => C_slices_ContainsFunc_api_Entry_api_Entry (K_ContainsFunc csE5 a b c k)⟩
theorem csG1 : CsG1 (Sys.of Go.Proofs.Try.prog) ids := { csC with
  reads2 := fun a b k => C_space_Space_Reads (K_Reads csG a b k)
  check := fun a b c k => C_entry_Check (K_ECheck csE6 a b c k) }
theorem csH : CsH (Sys.of Go.Proofs.Try.prog) ids := { csD with
  reads2 := csG1.reads2
  writes := fun a b k => C_space_Space_Writes (K_Writes csG a b k)
  entries := fun a b c k => C_space_Space_Entries (K_Entries csG1 a b c k) }
end Go.En
namespace Go.En
open Go.ChangeShapes Go.WideShapes Prog

theorem csU : CsU (Sys.of Go.Proofs.Try.prog) ids := { csT with
  isNode := fun ha => Pur.of fun h R c k => C_queue_isNode (K_isNode ha csT h R c k)
  undo := fun a b c => D_queue_undo (K_undo csT a b c) }
theorem csV : CsV (Sys.of Go.Proofs.Try.prog) ids := { csU with
  qput := fun a b => Does.of fun h0 F σ R Q c hp k => C_queue_Put (K_qPut csU a b h0 F σ R Q c hp k)
  qtake := fun a => Does.of fun h0 F σ R Q c hp k => C_queue_Take (K_qTake csU a h0 F σ R Q c hp k)
  qfirst := fun a => Does.of fun h0 F σ R Q c hp k => C_queue_First (K_qFirst csU a h0 F σ R Q c hp k)
  qlen := fun a => Does.of fun h0 F σ R Q c hp k => C_queue_Len (K_qLen csU a h0 F σ R Q c hp k)
  nodes := fun k => C_queue_nodes (K_nodes k)
  nodes1 := fun k => C_queue_nodes_1 k }
theorem csW : CsW (Sys.of Go.Proofs.Try.prog) ids := { csV with walk := fun a c hp k => C_queue_Walk (K_qWalk csV a _ _ _ _ _ c hp k) }
theorem csX : CsX (Sys.of Go.Proofs.Try.prog) ids := { csW with known := fun a b k => C_simulcastlaw31_Words_Known (K_Known a b k) }
theorem csY : CsY (Sys.of Go.Proofs.Try.prog) ids := { csX with
  space0 := fun a b c k => C_simulcastlaw34_space0 (K_space0 csX a b c k)
  start := fun a k => C_simulcastlaw34_start (K_start34 a k)
  same := fun a b c k => C_simulcastref34_Same (K_Same34 a b c k)
  rput := fun a b c d => C_simulcastref34_Put (K_refPut34 a b c d)
  rtake := fun a b c d => C_simulcastref34_Take (K_refTake34 a b c d) }
theorem csZ : CsZ (Sys.of Go.Proofs.Try.prog) ids := { csY with
  awake := fun k => C_simulcastlaw34_awake (K_awake34 csY k)
  done := fun a b c d e f g i j => C_simulcastlaw34_done (K_done34 csY a b c d e f g i j)
  tells := fun a b c d e k => C_simulcastlaw34_tells (K_tells34 csY a b c d e k) }

/-- an act among the arguments -/
theorem el_act {H : Type} {enc : TypeId × Value → H} {P : Program} {W : World} {e : TypeId} (hs : shp P e [some .u8, some .i64] = true) :
    ∀ n cs y, DataW.trod enc P W 0 (fun _ => true) true n e cs = some y → ∃ x : Act34, cs = EAct.c x ∧ x.ok := by
  intro n cs y h
  obtain ⟨hlen, hf⟩ := el_shape hs n cs y h
  match cs, hlen with
  | [c0, c1], _ =>
    obtain ⟨z0, e0, w0⟩ := hf 0 _ rfl
    obtain ⟨z1, e1, w1⟩ := hf 1 _ rfl
    simp only [List.getElem?_cons_zero, List.getElem?_cons_succ, Option.some.injEq] at e0 e1
    exact ⟨⟨z0, z1⟩, by rw [e0, e1]; rfl, wf_u8 w0, wf_i64 w1⟩
end Go.En
namespace Go.En
open Go.ChangeShapes Go.WideShapes Prog

theorem csP1 : CsP1 (Sys.of Go.Proofs.Try.prog) ids := { csX with
  start31 := fun a k => C_simulcastlaw31_start (K_start31 a k)
  awake31 := fun k => C_simulcastlaw31_awake (K_awake31 csX k) }

/-- an act among the arguments -/
theorem el_act31 {H : Type} {enc : TypeId × Value → H} {P : Program} {W : World} {e : TypeId} (hs : shp P e [some .u8, some .u8] = true) :
    ∀ n cs y, DataW.trod enc P W 0 (fun _ => true) true n e cs = some y → ∃ x : Act31, cs = EAct31.c x ∧ x.ok := by
  intro n cs y h
  obtain ⟨hlen, hf⟩ := el_shape hs n cs y h
  match cs, hlen with
  | [c0, c1], _ =>
    obtain ⟨z0, e0, w0⟩ := hf 0 _ rfl
    obtain ⟨z1, e1, w1⟩ := hf 1 _ rfl
    simp only [List.getElem?_cons_zero, List.getElem?_cons_succ, Option.some.injEq] at e0 e1
    exact ⟨⟨z0, z1⟩, by rw [e0, e1]; rfl, wf_u8 w0, wf_u8 w1⟩
end Go.En
namespace Go.En
open Go.ChangeShapes Go.WideShapes Prog Go.Sort

theorem csP2 : CsP2 (Sys.of Go.Proofs.Try.prog) ids := { csP1, csH with
  wget := fun a b k => C_simulcastlaw31_Words_Get (K_WGet a b k)
  freeBad := fun a k => C_pool_Pool_Free (K_FreeBad csP a k)
  free := fun a b c d k => C_pool_Pool_Free (K_Free csQ a b c d k) }
theorem csP3 : CsP3 (Sys.of Go.Proofs.Try.prog) ids := { csP2 with
  rtake := fun a b c k1 k2 k3 => C_simulcastref31_Take (K_RTake31 a b c k1 k2 k3)
  rgive := fun a b k => C_simulcastref31_Give (K_RGive31 a b k)
  turned := fun a b k => C_simulcastref31_Turned (K_Turned31 a b k)
  same31 := fun a b c k => C_simulcastref31_Same (K_Same31 a b c k)
  behind := fun a b c d e k => C_simulcastlaw31_Words_Behind (K_Behind csP2 a b c d e k) }
theorem csZ1 : CsZ1 (Sys.of Go.Proofs.Try.prog) ids := { csZ, csH with }
theorem el_pl {H : Type} {enc : TypeId × Value → H} {P : Program} {W : World} {e : TypeId} (hs : shp P e [some .i64, some .i64, some .i64] = true) :
    ∀ n cs y, DataW.trod enc P W 0 (fun _ => true) true n e cs = some y → ∃ x : Pl, cs = EPl.c x ∧ (R64 x.root ∧ R64 x.frm ∧ R64 x.nodes) := by
  intro n cs y h
  obtain ⟨hlen, hf⟩ := el_shape hs n cs y h
  match cs, hlen with
  | [c0, c1, c2], _ =>
    obtain ⟨z0, e0, w0⟩ := hf 0 _ rfl
    obtain ⟨z1, e1, w1⟩ := hf 1 _ rfl
    obtain ⟨z2, e2, w2⟩ := hf 2 _ rfl
    simp only [List.getElem?_cons_zero, List.getElem?_cons_succ, Option.some.injEq] at e0 e1 e2
    exact ⟨⟨z0, z1, z2⟩, by rw [e0, e1, e2]; rfl, wf_i64 w0, wf_i64 w1, wf_i64 w2⟩
end Go.En
