/-
  Layers 30, 31: the contracts, joined over the program.
  Sorting, entries, and what a space tells: the contracts, joined over the program.
-/
import Derived.Test.YtjnpmadojjfkpaaGreatXD
import Derived.Test.YtjnpmadojjfkpaaGreatXU
import Derived.Test.YtjnpmadojjfkpaaGreatXC
import Derived.Test.YtjnpmadojjfkpaaGreatXE
namespace Go.En
open Go.ChangeShapes Go.WideShapes Prog

theorem csA : CsA (Sys.of Go.Proofs.Tryz.prog) ids := ⟨fun a b => C_space_Space_Ended (K_Ended a b)⟩
theorem csB : CsB (Sys.of Go.Proofs.Tryz.prog) ids := { csA with
  reads := fun a b => C_space_Space_reads (K_reads csA a b)
  last := fun a b => C_space_Space_last (K_last a b) }
theorem csC : CsC (Sys.of Go.Proofs.Tryz.prog) ids := { csB with value := fun a b => C_space_Space_value (K_value csB a b) }
theorem csD : CsD (Sys.of Go.Proofs.Tryz.prog) ids := { csC with
  get := fun _ _ _ _ a hp => C_space_Space_Get (K_Get csC a hp)
  put := fun _ _ _ _ a hp => C_space_Space_Put (K_Put csC hp.1 hp.2.1 a hp.2.2)
  back := fun _ _ _ _ a hp => C_space_Space_Back (K_Back csA a hp)
  mark := fun _ _ _ _ a hp => C_space_Space_Mark (K_Mark a (hp _ _ a (.refl _ _)))
  new := fun a b c d => C_space_New (K_New a b c d) }
theorem csP : CsP (Sys.of Go.Proofs.Tryz.prog) ids := { csD with check := Pur.of fun h R c k => C_pool_Pool_Check (K_Check h R c k) }
theorem csQ : CsQ (Sys.of Go.Proofs.Tryz.prog) ids := { csP with node := fun ha => Pur.of fun h R c k => C_pool_Pool_Node (K_Node ha csP h R c k) }
theorem csR : CsR (Sys.of Go.Proofs.Tryz.prog) ids := { csQ with add := fun a b => Does.of fun h0 F σ R Q c hp k => C_pool_Pool_add (K_add csQ a b h0 F σ R Q c hp k) }
theorem csT : CsT (Sys.of Go.Proofs.Tryz.prog) ids := { csR with
  left := Does.of fun h0 F σ R Q c hp k => C_pool_Pool_Left (K_Left csR h0 F σ R Q c hp k)
  take := Does.of fun h0 F σ R Q c hp k => C_pool_Pool_Take (K_Take csR h0 F σ R Q c hp k)
  give := fun ha => Does.of fun h0 F σ R Q c hp k => C_pool_Pool_Give (K_Give ha csR h0 F σ R Q c hp k) }
theorem wf_u8 {z : Int} (h : (Lit.int .u8 z).wf = true) : 0 ≤ z ∧ z ≤ 255 := by
  have h1 : IntKind.u8.min = 0 := rfl
  have h2 : IntKind.u8.max = 255 := rfl
  simp only [Lit.wf, Bool.and_eq_true, decide_eq_true_eq] at h
  exact ⟨by omega, by omega⟩
end Go.En
namespace Go.En
open Go.ChangeShapes Go.WideShapes Prog Go.Sort

theorem csN : CsN (Sys.of Go.Proofs.Tryz.prog) ids := ⟨Pur.of fun h R c k => C_cmp_isNaN_api_Loc (K_isNaN h R c k)⟩
theorem csS0 : CsS0 (Sys.of Go.Proofs.Tryz.prog) ids := ⟨Pur.of fun h R c k => C_cmp_Less_api_Loc (K_Less csN h R c k)⟩
theorem csS1 : CsS1 (Sys.of Go.Proofs.Tryz.prog) ids := { csS0 with sift := fun a b c d k => C_slices_siftDownOrdered_api_Loc (K_sift csS0 a b c d k) }
theorem csB0 : CsB0 (Sys.of Go.Proofs.Tryz.prog) ids := ⟨fun a k => C_math_bits_Len64 (K_Len64 a k)⟩
theorem csB1 : CsB1 (Sys.of Go.Proofs.Tryz.prog) ids := { csB0 with len := fun a k => C_math_bits_Len (K_Len csB0 a k) }
theorem csS3 : CsS3 (Sys.of Go.Proofs.Tryz.prog) ids := { csS0 with order2 := fun a b c k => C_slices_order2Ordered_api_Loc (K_order2 csS0 a b c k) }
theorem csS4 : CsS4 (Sys.of Go.Proofs.Tryz.prog) ids := ⟨fun a b c d k => C_slices_medianOrdered_api_Loc (K_median csS3 a b c d k)⟩
theorem csS5 : CsS5 (Sys.of Go.Proofs.Tryz.prog) ids := { csS4 with medianAdj := fun a b c d k => C_slices_medianAdjacentOrdered_api_Loc (K_medianAdj csS4 a b c d k) }
theorem csS6 : CsS6 (Sys.of Go.Proofs.Tryz.prog) ids := ⟨fun a k => C_slices_nextPowerOfTwo (K_nextPow csB1 a k), fun a k => C_slices_xorshift_Next (K_xnext a k)⟩
theorem csS7 : CsS7 (Sys.of Go.Proofs.Tryz.prog) ids := { csS0 with
  insertion := fun a b c d k => C_slices_insertionSortOrdered_api_Loc (K_insertion csS0 a b c d k)
  heapS := fun a b c d k => C_slices_heapSortOrdered_api_Loc (K_heapSort csS1 a b c d k)
  reverse := fun a b c d k => C_slices_reverseRangeOrdered_api_Loc (K_reverse a b c d k)
  partIns := fun a b c d k => C_slices_partialInsertionSortOrdered_api_Loc (K_partIns csS0 a b c d k)
  part := fun a b c d e k => C_slices_partitionOrdered_api_Loc (K_partition csS0 a b c d e k)
  partEq := fun a b c d e k => C_slices_partitionEqualOrdered_api_Loc (K_partEq csS0 a b c d e k)
  choose := fun a b c d k => C_slices_choosePivotOrdered_api_Loc (K_choosePivot csS5 a b c d k)
  breakP := fun a b c d k => C_slices_breakPatternsOrdered_api_Loc (K_breakPatterns csS6 a b c d k)
  pdq1 := fun a => C_slices_pdqsortOrdered_api_Loc a }
theorem csS8 : CsS8 (Sys.of Go.Proofs.Tryz.prog) ids := ⟨csB1.len, fun {v d a b l F h0 h R} hab hb hN hl hw c k => C_slices_pdqsortOrdered_api_Loc (pdq_all csS7 (b - a + 1) (by omega) hab hb hN hl hw c k)⟩
theorem csG : CsG (Sys.of Go.Proofs.Tryz.prog) ids := { csC with
  sort := fun a b k => C_slices_Sort_api_Loc_api_Loc (K_Sort csS8 a b k)
  compact := fun a b k => C_slices_Compact_api_Loc_api_Loc (K_Compact a b k) }
theorem csE0 : CsE0 (Sys.of Go.Proofs.Tryz.prog) ids := ⟨Pur.of fun h R c k => C_word_Ref (K_Ref0 h R c k)⟩
theorem csE1 : CsE1 (Sys.of Go.Proofs.Tryz.prog) ids := ⟨Pur.of fun h R c k => C_word_Who (K_Who0 csE0 h R c k)⟩
theorem csE2 : CsE2 (Sys.of Go.Proofs.Tryz.prog) ids := ⟨fun hw => Pur.of fun h R c k => C_word_kind (K_kind0 csE1 hw h R c k)⟩
theorem csE3 : CsE3 (Sys.of Go.Proofs.Tryz.prog) ids := ⟨fun hw => Pur.of fun h R c k => C_word_Plain (K_Plain0 csE2 hw h R c k)⟩
theorem csE4 : CsE4 (Sys.of Go.Proofs.Tryz.prog) ids := ⟨fun a k => C_entry_Check_1 (K_Check1 a k)⟩
theorem csE5 : CsE5 (Sys.of Go.Proofs.Tryz.prog) ids := ⟨fun a b c k => C_slices_IndexFunc_api_Entry_api_Entry (K_IndexFunc csE4 a b c k)⟩
theorem csE6 : CsE6 (Sys.of Go.Proofs.Tryz.prog) ids := ⟨fun hx => Pur.of fun h R c k => C_entry_wrong (K_wrong csE3 hx h R c k), fun a b c k => C_slices_ContainsFunc_api_Entry_api_Entry (K_ContainsFunc csE5 a b c k)⟩
theorem csG1 : CsG1 (Sys.of Go.Proofs.Tryz.prog) ids := { csC with
  reads2 := fun a b k => C_space_Space_Reads (K_Reads csG a b k)
  check := fun a b c k => C_entry_Check (K_ECheck csE6 a b c k) }
theorem csH : CsH (Sys.of Go.Proofs.Tryz.prog) ids := { csD with
  entries := fun a b c k => C_space_Space_Entries (K_Entries csG1 a b c k)
  reads2 := fun a b k => C_space_Space_Reads (K_Reads csG a b k)
  writes := fun a b k => C_space_Space_Writes (K_Writes csG a b k) }
end Go.En
