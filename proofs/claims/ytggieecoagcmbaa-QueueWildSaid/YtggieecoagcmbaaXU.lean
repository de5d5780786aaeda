/-
  The clean texts are what the engine reads off the program: by the kernel.
-/
import Derived.Test.YtggieecoagcmbaaXT
import Derived.Test.YtggieecoagcmbaaProg
import Derived.KernelRfl
namespace Go.En
set_option maxRecDepth 100000

/-- the numbers in this translation -/
def ids : Ids := { f_simulcastlaw31_PoolTurns := 3, f_simulcastlaw31_PoolOnce := 4, f_simulcastlaw34_QueuePlays := 5, f_simulcastlaw34_QueueOrders := 6, f_simulcastlaw34_QueueUndoes := 7, f_simulcastlaw34_QueueShares := 8, f_simulcastlaw30_SpaceAnew := 9, f_simulcastlaw30_SpaceBack := 10, f_simulcastlaw30_SpaceOrders := 11, f_simulcastlaw31_PoolWild := 12, f_simulcastlaw31_PoolPlays := 13, f_simulcastlaw30_SpaceEntries := 14, f_simulcastlaw34_QueueWild := 15, f_simulcastlaw31_start := 16, f_space_New := 17, f_simulcastlaw31_Words_Known := 18, f_pool_Pool_Take := 19, f_pool_Pool_Give := 20, f_pool_Pool_Left := 21, f_simulcastlaw31_awake := 22, f_space_Space_Mark := 23, f_pool_Pool_Node := 24, f_space_Space_Back := 25, f_simulcastlaw34_awake := 26, f_simulcastlaw34_start := 27, f_simulcastlaw34_space0 := 28, f_simulcastlaw34_done := 29, f_simulcastlaw34_tells := 30, f_queue_Put := 31, f_queue_Take := 32, f_simulcastref34_Same := 33, f_queue_Len := 34, f_simulcastref34_Put := 35, f_simulcastref34_Take := 36, f_queue_Walk := 37, f_simulcastlaw30_awake := 38, f_simulcastlaw30_program := 39, f_space_Space_Reads := 40, f_space_Space_Need := 41, f_space_Space_Entries := 42, f_simulcastref30_Alike := 43, f_simulcastlaw30_do := 44, f_space_Space_Ended := 45, f_simulcastref30_Same := 46, f_space_Space_Writes := 47, f_space_Space_Get := 48, f_space_Space_Put := 49, f_pool_Pool_Check := 50, f_pool_Pool_Free := 51, f_simulcastlaw31_Words_Get := 52, f_simulcastref31_Take := 53, f_simulcastref31_Give := 54, f_simulcastlaw31_Words_Behind := 55, f_simulcastref31_Same := 56, f_simulcastref31_Turned := 57, f_model_New := 58, f_model_Model_Swap := 59, f_model_Model_At := 60, f_pool_Pool_add := 61, f_queue_First := 62, f_queue_undo := 63, f_queue_isNode := 64, f_queue_nodes := 65, f_slices_Sort_api_Loc_api_Loc := 66, f_space_Space_value := 67, f_entry_Check := 68, f_simulcastref30_Get := 69, f_simulcastref30_Set := 70, f_simulcastref30_Back := 71, f_slices_Compact_api_Loc_api_Loc := 72, f_space_Space_reads := 73, f_slices_Clone_api_Word_api_Word := 74, f_model_Model_Holds := 75, f_model_Model_Words := 76, f_queue_nodes_1 := 77, f_slices_pdqsortOrdered_api_Loc := 78, f_math_bits_Len := 79, f_space_Space_last := 80, f_entry_wrong := 81, f_slices_ContainsFunc_api_Entry_api_Entry := 82, f_entry_Check_1 := 83, f_simulcastref30_touch := 84, f_simulcastref30_has := 85, f_slices_insertionSortOrdered_api_Loc := 86, f_slices_heapSortOrdered_api_Loc := 87, f_slices_breakPatternsOrdered_api_Loc := 88, f_slices_choosePivotOrdered_api_Loc := 89, f_slices_reverseRangeOrdered_api_Loc := 90, f_slices_partialInsertionSortOrdered_api_Loc := 91, f_cmp_Less_api_Loc := 92, f_slices_partitionEqualOrdered_api_Loc := 93, f_slices_partitionOrdered_api_Loc := 94, f_math_bits_Len32 := 95, f_math_bits_Len64 := 96, f_word_Plain := 97, f_slices_IndexFunc_api_Entry_api_Entry := 98, f_simulcastref30_find := 99, f_slices_siftDownOrdered_api_Loc := 100, f_slices_nextPowerOfTwo := 101, f_slices_xorshift_Next := 102, f_slices_medianAdjacentOrdered_api_Loc := 103, f_slices_medianOrdered_api_Loc := 104, f_cmp_isNaN_api_Loc := 105, f_word_kind := 106, f_slices_order2Ordered_api_Loc := 107, f_word_Who := 108, f_word_Ref := 109, t_int64 := 2, t_int := 3, t_api_Loc := 22, t_pool_Pool := 24, t_s_int64 := 25, t_simulcastlaw31_Words := 27, t_p_space_Space := 30, t_api_Errno := 35, t_simulcastlaw34_Act := 56, t_2_s_int64 := 65, t_16_int8 := 74, t_api_Word := 78, t_8_int64 := 89, t_simulcastlaw30_Act := 91, t_simulcastref30_Space := 95, t_api_Entry := 109, t_simulcastref31_State := 112, t_8_uint16 := 122, t_model_Model := 125, t_space_Space := 134, t_space_put := 152, t_simulcastref30_Put := 169, t_slices_xorshift := 183 }
theorem mixed : Go.Proofs.Try.prog.follows .mixedOrders = true := by kernel_rfl

def H_simulcastlaw31_PoolTurns : HT := (.s .z (.s .z (.s .z (.s .z (.s (.s .z (.b (.l [8, 9] [1, 5, 7, 103] (.s (.s .z (.c .z .z)) (.j [8] [1, 5, 7, 9, 103] (.b (.s .z (.s .z (.c .z .z)))) .z))))) (.s (.s .z (.b (.l [12] [1, 5, 7, 8, 103] (.s (.s .z (.c .z .z)) (.s (.b (.s (.o (oc [0, 1, 2, 3, 4, 5, 6, 7] .nil)) (.c (.s .z .z) .z))) .z))))) (.s (.s .z (.b (.l [13] [1, 5, 7, 8, 103] (.s (.s .z (.c .z .z)) (.s (.b (.s .z (.j [79] [1, 5, 7, 8, 13, 103] .z (.c (.s .z .z) .z)))) .z))))) (.j [4] [103] (.o (oc [0, 1, 3, 4, 5, 6, 7, 2, 8, 9, 10, 11, 12, 13, 14, 15, 16, 17, 18, 19, 20, 21, 22, 23] .nil)) .z))))))))
theorem E_simulcastlaw31_PoolTurns (nodes0 many1 : Value) (h : Hp) (R : Value → Hp → Prop) : F_simulcastlaw31_PoolTurns (Sys.of Go.Proofs.Try.prog) ids nodes0 many1 h R = denFn Go.Proofs.Try.prog Go.Proofs.Try.f3 H_simulcastlaw31_PoolTurns [nodes0, many1] h R := by kernel_rfl
theorem C_simulcastlaw31_PoolTurns {nodes0 many1 : Value} {h : Hp} {R : Value → Hp → Prop} (H : F_simulcastlaw31_PoolTurns (Sys.of Go.Proofs.Try.prog) ids nodes0 many1 h R) : (Sys.of Go.Proofs.Try.prog).C ids.f_simulcastlaw31_PoolTurns [nodes0, many1] h R :=
  cl_of_den Go.Proofs.Try.func3 (by kernel_rfl) mixed (E_simulcastlaw31_PoolTurns nodes0 many1 h R) H

def H_simulcastlaw31_PoolOnce : HT := (.s .z (.s (.s .z (.c (.s .z .z) .z)) (.s .z (.s .z (.s .z (.s .z (.s .z (.s .z (.s .z (.s .z (.s (.s .z (.b (.l [11, 12, 14, 15, 16] [1, 7, 9, 10, 13, 149] (.s (.s .z (.c .z .z)) (.s (.b (.j [14, 15] [1, 7, 9, 10, 11, 12, 13, 16, 149] (.s .z (.c (.o (oc [0, 2, 3, 1, 4, 5, 6] .nil)) .z)) (.j [11, 12] [1, 7, 9, 10, 13, 14, 15, 16, 149] (.s .z (.c (.s .z (.s .z (.s (.j [94] [1, 7, 9, 10, 11, 12, 13, 14, 15, 16, 17, 18, 149] .z (.c (.s .z .z) .z)) (.s .z (.c (.s .z (.s .z .z)) .z))))) (.s .z (.c (.s .z (.s .z (.s (.s .z (.c (.s .z .z) .z)) (.s .z .z)))) .z)))) (.s .z (.c (.s .z .z) .z))))) .z))))) (.s (.s .z (.c (.s .z (.j [6] [149] .z .z)) .z)) (.s .z .z)))))))))))))
theorem E_simulcastlaw31_PoolOnce (nodes0 l1 cut2 : Value) (h : Hp) (R : Value → Hp → Prop) : F_simulcastlaw31_PoolOnce (Sys.of Go.Proofs.Try.prog) ids nodes0 l1 cut2 h R = denFn Go.Proofs.Try.prog Go.Proofs.Try.f4 H_simulcastlaw31_PoolOnce [nodes0, l1, cut2] h R := by kernel_rfl
theorem C_simulcastlaw31_PoolOnce {nodes0 l1 cut2 : Value} {h : Hp} {R : Value → Hp → Prop} (H : F_simulcastlaw31_PoolOnce (Sys.of Go.Proofs.Try.prog) ids nodes0 l1 cut2 h R) : (Sys.of Go.Proofs.Try.prog).C ids.f_simulcastlaw31_PoolOnce [nodes0, l1, cut2] h R :=
  cl_of_den Go.Proofs.Try.func4 (by kernel_rfl) mixed (E_simulcastlaw31_PoolOnce nodes0 l1 cut2 h R) H

def H_simulcastlaw34_QueuePlays : HT := (.s .z (.s (.s .z (.c (.s .z .z) .z)) (.s .z (.s .z (.s .z (.s (.s .z (.b (.l [8, 9] [1, 5, 7, 57] (.s (.s .z (.c .z .z)) (.s (.b (.s (.o (oc [0, 1, 2, 3, 4, 5, 6, 7, 8, 9, 10, 11, 12] .nil)) (.s (.j [48] [1, 5, 7, 9, 10, 57] .z (.c (.s .z .z) .z)) .z))) .z))))) (.j [4] [57] .z .z)))))))
theorem E_simulcastlaw34_QueuePlays (nodes0 l1 : Value) (h : Hp) (R : Value → Hp → Prop) : F_simulcastlaw34_QueuePlays (Sys.of Go.Proofs.Try.prog) ids nodes0 l1 h R = denFn Go.Proofs.Try.prog Go.Proofs.Try.f5 H_simulcastlaw34_QueuePlays [nodes0, l1] h R := by kernel_rfl
theorem C_simulcastlaw34_QueuePlays {nodes0 l1 : Value} {h : Hp} {R : Value → Hp → Prop} (H : F_simulcastlaw34_QueuePlays (Sys.of Go.Proofs.Try.prog) ids nodes0 l1 h R) : (Sys.of Go.Proofs.Try.prog).C ids.f_simulcastlaw34_QueuePlays [nodes0, l1] h R :=
  cl_of_den Go.Proofs.Try.func5 (by kernel_rfl) mixed (E_simulcastlaw34_QueuePlays nodes0 l1 h R) H

def H_simulcastlaw34_QueueOrders : HT := (.s .z (.s (.s .z (.c (.s .z .z) .z)) (.s .z (.s .z (.s .z (.s (.s .z (.b (.l [8, 9, 10] [1, 5, 7, 114] (.s (.s .z (.c .z .z)) (.j [8, 9] [1, 5, 7, 10, 114] (.b (.s .z (.c (.s (.o (oc [0, 1, 2, 3, 4, 5, 6, 7, 8] .nil)) (.c .z .z)) (.s .z (.s .z (.c .z .z)))))) .z))))) (.s (.s .z (.b (.l [9, 13] [1, 5, 7, 8, 114] (.s (.s .z (.c .z .z)) (.s (.b (.s .z (.s (.s .z (.c (.j [4] [1, 5, 7, 8, 114] (.o (oc [0, 1, 2, 3, 4, 5, 6, 7, 8, 9, 10, 11, 12, 13, 15, 16, 14, 17, 18, 19, 20, 21, 22, 23, 24, 25, 26, 27] .nil)) .z) .z)) .z))) .z))))) (.s .z .z))))))))
theorem E_simulcastlaw34_QueueOrders (nodes0 l1 : Value) (h : Hp) (R : Value → Hp → Prop) : F_simulcastlaw34_QueueOrders (Sys.of Go.Proofs.Try.prog) ids nodes0 l1 h R = denFn Go.Proofs.Try.prog Go.Proofs.Try.f6 H_simulcastlaw34_QueueOrders [nodes0, l1] h R := by kernel_rfl
theorem C_simulcastlaw34_QueueOrders {nodes0 l1 : Value} {h : Hp} {R : Value → Hp → Prop} (H : F_simulcastlaw34_QueueOrders (Sys.of Go.Proofs.Try.prog) ids nodes0 l1 h R) : (Sys.of Go.Proofs.Try.prog).C ids.f_simulcastlaw34_QueueOrders [nodes0, l1] h R :=
  cl_of_den Go.Proofs.Try.func6 (by kernel_rfl) mixed (E_simulcastlaw34_QueueOrders nodes0 l1 h R) H

def H_simulcastlaw34_QueueUndoes : HT := (.s .z (.s (.j [22] [0, 1, 2, 78] .z (.c (.s .z .z) .z)) (.s .z (.s .z (.s .z (.s (.s .z (.b (.l [10, 11] [1, 2, 7, 9, 78] (.s (.s .z (.c .z .z)) (.s (.b (.o (oc [0, 1, 2, 3, 4, 5, 6, 7, 8, 9, 10, 11] .nil))) .z))))) (.s .z (.s .z (.s (.s .z (.b (.l [13, 14] [2, 7, 9, 10, 12, 78] (.s (.s .z (.c .z .z)) (.s (.b (.o (oc [0, 1, 2, 3, 4, 5, 6, 7, 8, 9, 10, 11] .nil))) .z))))) (.s .z (.j [6] [78] .z .z)))))))))))
theorem E_simulcastlaw34_QueueUndoes (nodes0 l1 more2 : Value) (h : Hp) (R : Value → Hp → Prop) : F_simulcastlaw34_QueueUndoes (Sys.of Go.Proofs.Try.prog) ids nodes0 l1 more2 h R = denFn Go.Proofs.Try.prog Go.Proofs.Try.f7 H_simulcastlaw34_QueueUndoes [nodes0, l1, more2] h R := by kernel_rfl
theorem C_simulcastlaw34_QueueUndoes {nodes0 l1 more2 : Value} {h : Hp} {R : Value → Hp → Prop} (H : F_simulcastlaw34_QueueUndoes (Sys.of Go.Proofs.Try.prog) ids nodes0 l1 more2 h R) : (Sys.of Go.Proofs.Try.prog).C ids.f_simulcastlaw34_QueueUndoes [nodes0, l1, more2] h R :=
  cl_of_den Go.Proofs.Try.func7 (by kernel_rfl) mixed (E_simulcastlaw34_QueueUndoes nodes0 l1 more2 h R) H

def H_simulcastlaw34_QueueShares : HT := (.s .z (.s (.s .z (.c (.s .z .z) .z)) (.s .z (.s .z (.s .z (.s (.s .z (.b (.l [11] [1, 2, 7, 9, 10, 161] (.s (.s .z (.c .z .z)) (.s (.b (.s .z (.s .z (.j [] [1, 2, 7, 9, 10, 11, 161] (.s .z (.c (.s (.o (oc [0, 1, 2, 3, 4, 5, 6, 7, 8, 9] .nil)) (.s (.o (oc [0, 1, 2, 3, 4, 5, 6, 7, 8, 9, 10, 11, 12, 13, 14, 15, 16, 17, 18, 19, 20, 21, 22, 23] .nil)) (.s (.s .z (.c (.s .z .z) .z)) .z))) (.s .z (.s .z (.s (.j [117] [1, 2, 7, 9, 10, 11, 12, 19, 161] .z (.c (.s .z .z) .z)) .z))))) (.s .z (.b (.l [22] [1, 2, 7, 9, 10, 11, 161] (.s (.s .z (.c .z .z)) (.s (.b (.s .z (.j [143] [1, 2, 7, 9, 10, 11, 22, 161] .z (.c (.s .z .z) .z)))) .z))))))))) .z))))) (.j [6] [161] (.o (oc [0, 1, 3, 4, 5, 6, 7, 8, 9, 10, 11, 12, 2, 13, 14, 15, 16, 17] .nil)) .z)))))))
theorem E_simulcastlaw34_QueueShares (nodes0 l1 turn2 : Value) (h : Hp) (R : Value → Hp → Prop) : F_simulcastlaw34_QueueShares (Sys.of Go.Proofs.Try.prog) ids nodes0 l1 turn2 h R = denFn Go.Proofs.Try.prog Go.Proofs.Try.f8 H_simulcastlaw34_QueueShares [nodes0, l1, turn2] h R := by kernel_rfl
theorem C_simulcastlaw34_QueueShares {nodes0 l1 turn2 : Value} {h : Hp} {R : Value → Hp → Prop} (H : F_simulcastlaw34_QueueShares (Sys.of Go.Proofs.Try.prog) ids nodes0 l1 turn2 h R) : (Sys.of Go.Proofs.Try.prog).C ids.f_simulcastlaw34_QueueShares [nodes0, l1, turn2] h R :=
  cl_of_den Go.Proofs.Try.func8 (by kernel_rfl) mixed (E_simulcastlaw34_QueueShares nodes0 l1 turn2 h R) H

def H_simulcastlaw30_SpaceAnew : HT := (.s .z (.s (.s .z (.c (.s .z .z) .z)) (.s (.s .z (.c (.s .z .z) .z)) (.s .z (.s (.s .z (.b (.l [7] [1, 2, 5, 6, 98] (.s (.s .z (.c .z .z)) (.s (.b .z) .z))))) (.s .z (.s .z (.s (.s .z (.b (.l [10] [1, 5, 6, 8, 9, 98] (.s (.s .z (.c .z .z)) (.s (.b (.s .z (.s .z (.s .z (.s (.s .z (.c (.s .z (.s .z (.j [4] [1, 5, 6, 8, 9, 98] .z .z))) .z)) (.s (.s .z (.s .z (.c (.s .z .z) .z))) .z)))))) .z))))) (.s .z .z)))))))))
theorem E_simulcastlaw30_SpaceAnew (vals0 acts1 : Value) (h : Hp) (R : Value → Hp → Prop) : F_simulcastlaw30_SpaceAnew (Sys.of Go.Proofs.Try.prog) ids vals0 acts1 h R = denFn Go.Proofs.Try.prog Go.Proofs.Try.f9 H_simulcastlaw30_SpaceAnew [vals0, acts1] h R := by kernel_rfl
theorem C_simulcastlaw30_SpaceAnew {vals0 acts1 : Value} {h : Hp} {R : Value → Hp → Prop} (H : F_simulcastlaw30_SpaceAnew (Sys.of Go.Proofs.Try.prog) ids vals0 acts1 h R) : (Sys.of Go.Proofs.Try.prog).C ids.f_simulcastlaw30_SpaceAnew [vals0, acts1] h R :=
  cl_of_den Go.Proofs.Try.func9 (by kernel_rfl) mixed (E_simulcastlaw30_SpaceAnew vals0 acts1 h R) H

def H_simulcastlaw30_SpaceBack : HT := (.s .z (.s (.s .z (.c (.s .z .z) .z)) (.s (.j [30] [1, 2, 3, 153] .z (.c (.s .z .z) .z)) (.s .z (.s (.s .z (.b (.l [8] [1, 2, 3, 7, 153] (.s (.s .z (.c .z .z)) (.s (.b .z) .z))))) (.s .z (.s (.s .z (.b (.l [11] [1, 2, 9, 10, 153] (.s (.s .z (.c .z .z)) (.s (.b (.s .z (.s .z (.s .z .z)))) .z))))) (.s .z (.s (.s .z (.b (.l [14] [2, 9, 10, 13, 153] (.s (.s .z (.c .z .z)) (.j [] [2, 9, 10, 13, 14, 153] (.b (.s .z (.s .z (.s .z (.c .z .z))))) .z))))) (.s .z (.s (.j [123] [9, 10, 153] .z (.c (.s .z .z) .z)) (.s (.s .z (.b (.l [16] [9, 10, 153] (.s (.s .z (.c .z .z)) (.s (.b (.s .z (.c (.s .z .z) .z))) .z))))) (.s .z (.s .z (.j [6] [153] .z .z)))))))))))))))
theorem E_simulcastlaw30_SpaceBack (vals0 ahead1 behind2 : Value) (h : Hp) (R : Value → Hp → Prop) : F_simulcastlaw30_SpaceBack (Sys.of Go.Proofs.Try.prog) ids vals0 ahead1 behind2 h R = denFn Go.Proofs.Try.prog Go.Proofs.Try.f10 H_simulcastlaw30_SpaceBack [vals0, ahead1, behind2] h R := by kernel_rfl
theorem C_simulcastlaw30_SpaceBack {vals0 ahead1 behind2 : Value} {h : Hp} {R : Value → Hp → Prop} (H : F_simulcastlaw30_SpaceBack (Sys.of Go.Proofs.Try.prog) ids vals0 ahead1 behind2 h R) : (Sys.of Go.Proofs.Try.prog).C ids.f_simulcastlaw30_SpaceBack [vals0, ahead1, behind2] h R :=
  cl_of_den Go.Proofs.Try.func10 (by kernel_rfl) mixed (E_simulcastlaw30_SpaceBack vals0 ahead1 behind2 h R) H

def H_simulcastlaw30_SpaceOrders : HT := (.s .z (.s (.s .z (.c (.s .z .z) .z)) (.s (.j [30] [1, 2, 3, 161] .z (.c (.s .z .z) .z)) (.s .z (.s (.s .z (.b (.l [8] [1, 2, 3, 7, 161] (.s (.s .z (.c .z .z)) (.s (.b .z) .z))))) (.s .z (.s (.s .z (.b (.l [11] [1, 2, 9, 10, 161] (.s (.s .z (.c .z .z)) (.s (.b .z) .z))))) (.s (.s .z (.b (.l [12] [1, 2, 9, 10, 161] (.s (.s .z (.c .z .z)) (.j [] [1, 2, 9, 10, 12, 161] (.b (.s .z (.s .z (.s .z (.s (.s .z (.b (.l [14, 15] [1, 2, 9, 10, 12, 13, 161] (.s (.s .z (.c .z .z)) (.j [14] [1, 2, 9, 10, 12, 13, 15, 161] (.b .z) .z))))) (.s .z (.c .z .z))))))) .z))))) (.s (.s .z (.b (.l [16] [1, 9, 10, 161] (.s (.s .z (.c .z .z)) (.s (.b .z) .z))))) (.s .z (.s .z (.j [6] [161] .z .z))))))))))))
theorem E_simulcastlaw30_SpaceOrders (vals0 reads1 puts2 : Value) (h : Hp) (R : Value → Hp → Prop) : F_simulcastlaw30_SpaceOrders (Sys.of Go.Proofs.Try.prog) ids vals0 reads1 puts2 h R = denFn Go.Proofs.Try.prog Go.Proofs.Try.f11 H_simulcastlaw30_SpaceOrders [vals0, reads1, puts2] h R := by kernel_rfl
theorem C_simulcastlaw30_SpaceOrders {vals0 reads1 puts2 : Value} {h : Hp} {R : Value → Hp → Prop} (H : F_simulcastlaw30_SpaceOrders (Sys.of Go.Proofs.Try.prog) ids vals0 reads1 puts2 h R) : (Sys.of Go.Proofs.Try.prog).C ids.f_simulcastlaw30_SpaceOrders [vals0, reads1, puts2] h R :=
  cl_of_den Go.Proofs.Try.func11 (by kernel_rfl) mixed (E_simulcastlaw30_SpaceOrders vals0 reads1 puts2 h R) H

def H_simulcastlaw31_PoolWild : HT := (.s .z (.s (.s .z (.c (.s .z .z) .z)) (.s .z (.s .z (.s .z (.s .z (.s (.s .z (.c (.s (.j [60] [3, 7, 179] .z (.c (.s .z .z) .z)) (.s .z (.j [6] [179] .z .z))) .z)) (.s (.s .z (.j [97] [2, 3, 7, 10, 11, 12, 179] .z (.c (.s .z .z) .z))) (.s (.s .z (.b (.l [17] [2, 3, 7, 10, 11, 12, 179] (.s (.j [105] [2, 3, 7, 10, 11, 12, 17, 179] .z (.c .z .z)) (.s (.b (.s (.o (oc [0, 1, 2, 3, 4, 5, 6, 7, 8, 9, 10, 11] .nil)) (.j [151] [2, 3, 7, 10, 11, 12, 17, 179] (.o (oc [0, 1, 2, 3, 4, 5, 6, 7, 8, 9, 10, 11, 12, 13, 14, 15, 16, 17, 18, 19, 20, 21, 22, 23, 24, 25, 26, 27, 28, 29, 30, 31, 32, 33] .nil)) (.c (.s .z .z) .z)))) .z))))) (.s .z (.s .z (.s .z (.j [6] [179] .z .z)))))))))))))
theorem E_simulcastlaw31_PoolWild (p0 v1 at2 : Value) (h : Hp) (R : Value → Hp → Prop) : F_simulcastlaw31_PoolWild (Sys.of Go.Proofs.Try.prog) ids p0 v1 at2 h R = denFn Go.Proofs.Try.prog Go.Proofs.Try.f12 H_simulcastlaw31_PoolWild [p0, v1, at2] h R := by kernel_rfl
theorem C_simulcastlaw31_PoolWild {p0 v1 at2 : Value} {h : Hp} {R : Value → Hp → Prop} (H : F_simulcastlaw31_PoolWild (Sys.of Go.Proofs.Try.prog) ids p0 v1 at2 h R) : (Sys.of Go.Proofs.Try.prog).C ids.f_simulcastlaw31_PoolWild [p0, v1, at2] h R :=
  cl_of_den Go.Proofs.Try.func12 (by kernel_rfl) mixed (E_simulcastlaw31_PoolWild p0 v1 at2 h R) H

def H_simulcastlaw31_PoolPlays : HT := (.s .z (.s (.s .z (.c (.s .z .z) .z)) (.s .z (.s .z (.s .z (.s (.s .z (.b (.l [8, 9] [1, 5, 6, 7, 198] (.s (.s .z (.c .z .z)) (.s (.b (.s .z (.s (.s (.o (oc [0, 1, 3, 4, 5, 6, 7, 8, 9, 10, 11, 2, 12] .nil)) (.c (.s .z .z) .z)) (.j [8] [1, 5, 6, 7, 9, 10, 198] (.s .z (.c (.s .z (.s .z (.s (.j [98] [1, 5, 6, 7, 8, 9, 10, 12, 13, 14, 198] .z (.c (.s .z .z) .z)) (.j [8] [1, 5, 6, 7, 9, 10, 13, 198] (.s .z (.c .z .z)) .z)))) (.s .z (.c (.s .z (.s (.s (.o (oc [0, 1, 2, 3, 4, 5, 6, 7, 8, 9] .nil)) (.c (.s .z .z) .z)) (.s (.o (oc [0, 1, 2, 3, 4, 5, 6] .nil)) (.o (oc [1, 2, 3, 5, 6, 7, 8, 0, 4, 9, 10] .nil))))) .z)))) (.s .z (.s .z (.s (.j [195] [1, 5, 6, 7, 8, 9, 16, 198] (.o (oc [0, 1, 2, 3, 4, 5, 6, 7, 8, 9, 10, 11, 12, 13, 14, 15, 17, 18, 16, 19, 20, 21, 22, 24, 25, 26, 23, 27, 28, 29, 30, 31, 32, 33, 34, 35, 36, 37, 38] .nil)) (.c (.s .z .z) .z)) .z))))))) .z))))) (.s .z .z)))))))
theorem E_simulcastlaw31_PoolPlays (nodes0 l1 : Value) (h : Hp) (R : Value → Hp → Prop) : F_simulcastlaw31_PoolPlays (Sys.of Go.Proofs.Try.prog) ids nodes0 l1 h R = denFn Go.Proofs.Try.prog Go.Proofs.Try.f13 H_simulcastlaw31_PoolPlays [nodes0, l1] h R := by kernel_rfl
theorem C_simulcastlaw31_PoolPlays {nodes0 l1 : Value} {h : Hp} {R : Value → Hp → Prop} (H : F_simulcastlaw31_PoolPlays (Sys.of Go.Proofs.Try.prog) ids nodes0 l1 h R) : (Sys.of Go.Proofs.Try.prog).C ids.f_simulcastlaw31_PoolPlays [nodes0, l1] h R :=
  cl_of_den Go.Proofs.Try.func13 (by kernel_rfl) mixed (E_simulcastlaw31_PoolPlays nodes0 l1 h R) H

def H_simulcastlaw30_SpaceEntries : HT := (.s .z (.s (.s .z (.c (.s .z .z) .z)) (.s (.s .z (.c (.s .z .z) .z)) (.s .z (.s .z (.s (.s .z (.b (.l [7, 9] [2, 3, 4, 8, 155] (.s (.s .z (.c .z .z)) (.s (.b (.s (.o (oc [0, 1, 2, 3, 4, 5, 6, 7, 8, 9] .nil)) (.s .z .z))) .z))))) (.s .z (.s (.s .z (.b (.l [12] [2, 4, 7, 11, 155] (.s (.s .z (.c .z .z)) (.s (.b (.s .z (.s .z .z))) .z))))) (.s .z (.s (.s .z (.c (.s .z .z) .z)) (.s .z (.s .z (.s (.s .z (.b (.l [18] [4, 7, 11, 14, 16, 17, 155] (.s (.s .z (.c .z .z)) (.s (.b .z) .z))))) (.s .z (.s .z (.j [21, 22] [4, 16, 17, 20, 155] (.s .z (.c .z .z)) (.s (.j [114] [4, 16, 17, 20, 155] .z (.c (.s .z .z) .z)) (.s (.s .z (.b (.l [23] [4, 16, 17, 20, 155] (.s (.s .z (.c .z .z)) (.s (.b (.s .z (.s .z (.s (.s .z (.b (.l [26, 27] [4, 16, 17, 20, 23, 24, 155] (.s (.s .z (.c .z .z)) (.j [26] [4, 16, 17, 20, 23, 24, 27, 155] (.b (.s .z (.c .z .z))) .z))))) (.j [154] [4, 16, 17, 20, 23, 155] (.o (oc [0, 1, 2, 3, 4, 5, 6, 7, 8, 9, 10, 11] .nil)) (.c (.s .z .z) .z)))))) .z))))) (.s .z .z)))))))))))))))))))
theorem E_simulcastlaw30_SpaceEntries (vals0 vers1 acts2 : Value) (h : Hp) (R : Value → Hp → Prop) : F_simulcastlaw30_SpaceEntries (Sys.of Go.Proofs.Try.prog) ids vals0 vers1 acts2 h R = denFn Go.Proofs.Try.prog Go.Proofs.Try.f14 H_simulcastlaw30_SpaceEntries [vals0, vers1, acts2] h R := by kernel_rfl
theorem C_simulcastlaw30_SpaceEntries {vals0 vers1 acts2 : Value} {h : Hp} {R : Value → Hp → Prop} (H : F_simulcastlaw30_SpaceEntries (Sys.of Go.Proofs.Try.prog) ids vals0 vers1 acts2 h R) : (Sys.of Go.Proofs.Try.prog).C ids.f_simulcastlaw30_SpaceEntries [vals0, vers1, acts2] h R :=
  cl_of_den Go.Proofs.Try.func14 (by kernel_rfl) mixed (E_simulcastlaw30_SpaceEntries vals0 vers1 acts2 h R) H

def H_simulcastlaw34_QueueWild : HT := (.s .z (.s (.s .z (.c (.s .z .z) .z)) (.s .z (.s .z (.s .z (.s .z (.s (.j [54] [5, 7, 9, 104] .z (.c (.s .z .z) .z)) (.s .z (.s .z (.j [14] [13, 104] (.s .z (.c .z .z)) (.s .z (.s (.s .z (.b (.l [17] [14, 15, 16, 104] (.s (.j [88] [14, 15, 16, 17, 104] .z (.c .z .z)) (.s (.b (.s (.o (oc [0, 1, 2, 3, 4, 5, 6, 7, 8, 9, 10, 11] .nil)) (.c (.s .z .z) .z))) .z))))) (.s .z .z)))))))))))))
theorem E_simulcastlaw34_QueueWild (nodes0 v1 a2 : Value) (h : Hp) (R : Value → Hp → Prop) : F_simulcastlaw34_QueueWild (Sys.of Go.Proofs.Try.prog) ids nodes0 v1 a2 h R = denFn Go.Proofs.Try.prog Go.Proofs.Try.f15 H_simulcastlaw34_QueueWild [nodes0, v1, a2] h R := by kernel_rfl
theorem C_simulcastlaw34_QueueWild {nodes0 v1 a2 : Value} {h : Hp} {R : Value → Hp → Prop} (H : F_simulcastlaw34_QueueWild (Sys.of Go.Proofs.Try.prog) ids nodes0 v1 a2 h R) : (Sys.of Go.Proofs.Try.prog).C ids.f_simulcastlaw34_QueueWild [nodes0, v1, a2] h R :=
  cl_of_den Go.Proofs.Try.func15 (by kernel_rfl) mixed (E_simulcastlaw34_QueueWild nodes0 v1 a2 h R) H

def H_simulcastlaw31_start : HT := (.s .z (.s .z (.j [] [2, 3, 16] (.o (oc [0, 1, 2, 3, 4] (.alt (oc [5, 6, 7, 8] .nil) (oc [7, 5, 6, 8] .nil)))) .z)))
theorem E_simulcastlaw31_start (nodes0 : Value) (h : Hp) (R : Value → Hp → Prop) : F_simulcastlaw31_start (Sys.of Go.Proofs.Try.prog) ids nodes0 h R = denFn Go.Proofs.Try.prog Go.Proofs.Try.f16 H_simulcastlaw31_start [nodes0] h R := by kernel_rfl
theorem C_simulcastlaw31_start {nodes0 : Value} {h : Hp} {R : Value → Hp → Prop} (H : F_simulcastlaw31_start (Sys.of Go.Proofs.Try.prog) ids nodes0 h R) : (Sys.of Go.Proofs.Try.prog).C ids.f_simulcastlaw31_start [nodes0] h R :=
  cl_of_den Go.Proofs.Try.func16 (by kernel_rfl) mixed (E_simulcastlaw31_start nodes0 h R) H

def H_space_New : HT := (.s .z (.s .z (.s (.s .z (.b (.l [] [3, 11, 27] (.s .z (.s (.c .z .z) (.b (.s .z (.s .z (.c (.o (oc [0, 1, 2, 3, 4, 5, 6] .nil)) .z))))))))) (.s .z .z))))
theorem E_space_New (known0 : Value) (h : Hp) (R : Value → Hp → Prop) : F_space_New (Sys.of Go.Proofs.Try.prog) ids known0 h R = denFn Go.Proofs.Try.prog Go.Proofs.Try.f17 H_space_New [known0] h R := by kernel_rfl
theorem C_space_New {known0 : Value} {h : Hp} {R : Value → Hp → Prop} (H : F_space_New (Sys.of Go.Proofs.Try.prog) ids known0 h R) : (Sys.of Go.Proofs.Try.prog).C ids.f_space_New [known0] h R :=
  cl_of_den Go.Proofs.Try.func17 (by kernel_rfl) mixed (E_space_New known0 h R) H

def H_simulcastlaw31_Words_Known : HT := (.s .z (.s .z (.s (.s .z (.b (.l [4] [1, 3, 22] (.s (.s .z (.c .z .z)) (.s (.b .z) .z))))) (.s .z .z))))
theorem E_simulcastlaw31_Words_Known (w0 : Value) (h : Hp) (R : Value → Hp → Prop) : F_simulcastlaw31_Words_Known (Sys.of Go.Proofs.Try.prog) ids w0 h R = denFn Go.Proofs.Try.prog Go.Proofs.Try.f18 H_simulcastlaw31_Words_Known [w0] h R := by kernel_rfl
theorem C_simulcastlaw31_Words_Known {w0 : Value} {h : Hp} {R : Value → Hp → Prop} (H : F_simulcastlaw31_Words_Known (Sys.of Go.Proofs.Try.prog) ids w0 h R) : (Sys.of Go.Proofs.Try.prog).C ids.f_simulcastlaw31_Words_Known [w0] h R :=
  cl_of_den Go.Proofs.Try.func18 (by kernel_rfl) mixed (E_simulcastlaw31_Words_Known w0 h R) H

def H_pool_Pool_Take : HT := (.s .z (.s (.s .z (.s .z (.c (.s .z .z) .z))) (.s (.s .z (.s .z (.c (.s .z (.s (.s .z (.s .z (.c (.s .z .z) .z))) (.s (.o (oc [0, 1, 2, 3, 4, 5, 6] .nil)) (.s .z (.s .z .z))))) .z))) (.s .z (.s (.j [55] [1, 2, 11, 68] .z (.c (.s .z .z) .z)) (.s .z (.s .z .z)))))))
theorem E_pool_Pool_Take (p0 s1 : Value) (h : Hp) (R : Value → Hp → Prop) : F_pool_Pool_Take (Sys.of Go.Proofs.Try.prog) ids p0 s1 h R = denFn Go.Proofs.Try.prog Go.Proofs.Try.f19 H_pool_Pool_Take [p0, s1] h R := by kernel_rfl
theorem C_pool_Pool_Take {p0 s1 : Value} {h : Hp} {R : Value → Hp → Prop} (H : F_pool_Pool_Take (Sys.of Go.Proofs.Try.prog) ids p0 s1 h R) : (Sys.of Go.Proofs.Try.prog).C ids.f_pool_Pool_Take [p0, s1] h R :=
  cl_of_den Go.Proofs.Try.func19 (by kernel_rfl) mixed (E_pool_Pool_Take p0 s1 h R) H

def H_pool_Pool_Give : HT := (.s .z (.s (.s .z (.s .z (.c (.s .z .z) .z))) (.s .z (.s .z (.s .z (.s .z .z))))))
theorem E_pool_Pool_Give (p0 s1 at2 : Value) (h : Hp) (R : Value → Hp → Prop) : F_pool_Pool_Give (Sys.of Go.Proofs.Try.prog) ids p0 s1 at2 h R = denFn Go.Proofs.Try.prog Go.Proofs.Try.f20 H_pool_Pool_Give [p0, s1, at2] h R := by kernel_rfl
theorem C_pool_Pool_Give {p0 s1 at2 : Value} {h : Hp} {R : Value → Hp → Prop} (H : F_pool_Pool_Give (Sys.of Go.Proofs.Try.prog) ids p0 s1 at2 h R) : (Sys.of Go.Proofs.Try.prog).C ids.f_pool_Pool_Give [p0, s1, at2] h R :=
  cl_of_den Go.Proofs.Try.func20 (by kernel_rfl) mixed (E_pool_Pool_Give p0 s1 at2 h R) H

def H_pool_Pool_Left : HT := (.s .z (.s (.s .z (.c (.s .z .z) .z)) (.s (.o (oc [0, 1, 2, 3, 5, 6, 8, 9, 10, 11, 4, 7, 12, 13, 14, 15] .nil)) .z)))
theorem E_pool_Pool_Left (p0 s1 : Value) (h : Hp) (R : Value → Hp → Prop) : F_pool_Pool_Left (Sys.of Go.Proofs.Try.prog) ids p0 s1 h R = denFn Go.Proofs.Try.prog Go.Proofs.Try.f21 H_pool_Pool_Left [p0, s1] h R := by kernel_rfl
theorem C_pool_Pool_Left {p0 s1 : Value} {h : Hp} {R : Value → Hp → Prop} (H : F_pool_Pool_Left (Sys.of Go.Proofs.Try.prog) ids p0 s1 h R) : (Sys.of Go.Proofs.Try.prog).C ids.f_pool_Pool_Left [p0, s1] h R :=
  cl_of_den Go.Proofs.Try.func21 (by kernel_rfl) mixed (E_pool_Pool_Left p0 s1 h R) H

def H_simulcastlaw31_awake : HT := (.s .z (.s .z (.s .z (.s .z (.s .z (.s .z (.s (.o (oc [0, 1, 3, 4, 2, 5, 6, 7] .nil)) (.s .z (.j [0] [82] .z .z)))))))))
theorem E_simulcastlaw31_awake (h : Hp) (R : Value → Hp → Prop) : F_simulcastlaw31_awake (Sys.of Go.Proofs.Try.prog) ids h R = denFn Go.Proofs.Try.prog Go.Proofs.Try.f22 H_simulcastlaw31_awake [] h R := by kernel_rfl
theorem C_simulcastlaw31_awake {h : Hp} {R : Value → Hp → Prop} (H : F_simulcastlaw31_awake (Sys.of Go.Proofs.Try.prog) ids h R) : (Sys.of Go.Proofs.Try.prog).C ids.f_simulcastlaw31_awake [] h R :=
  cl_of_den Go.Proofs.Try.func22 (by kernel_rfl) mixed (E_simulcastlaw31_awake h R) H

def H_space_Space_Mark : HT := (.s .z (.s (.s .z (.c (.s .z .z) .z)) (.s .z .z)))
theorem E_space_Space_Mark (s0 : Value) (h : Hp) (R : Value → Hp → Prop) : F_space_Space_Mark (Sys.of Go.Proofs.Try.prog) ids s0 h R = denFn Go.Proofs.Try.prog Go.Proofs.Try.f23 H_space_Space_Mark [s0] h R := by kernel_rfl
theorem C_space_Space_Mark {s0 : Value} {h : Hp} {R : Value → Hp → Prop} (H : F_space_Space_Mark (Sys.of Go.Proofs.Try.prog) ids s0 h R) : (Sys.of Go.Proofs.Try.prog).C ids.f_space_Space_Mark [s0] h R :=
  cl_of_den Go.Proofs.Try.func23 (by kernel_rfl) mixed (E_space_Space_Mark s0 h R) H

def H_pool_Pool_Node : HT := (.s .z (.s (.j [23] [1, 2, 34] .z (.c (.s .z .z) .z)) (.s .z (.s (.s .z (.c (.s .z .z) .z)) (.s .z .z)))))
theorem E_pool_Pool_Node (p0 at1 : Value) (h : Hp) (R : Value → Hp → Prop) : F_pool_Pool_Node (Sys.of Go.Proofs.Try.prog) ids p0 at1 h R = denFn Go.Proofs.Try.prog Go.Proofs.Try.f24 H_pool_Pool_Node [p0, at1] h R := by kernel_rfl
theorem C_pool_Pool_Node {p0 at1 : Value} {h : Hp} {R : Value → Hp → Prop} (H : F_pool_Pool_Node (Sys.of Go.Proofs.Try.prog) ids p0 at1 h R) : (Sys.of Go.Proofs.Try.prog).C ids.f_pool_Pool_Node [p0, at1] h R :=
  cl_of_den Go.Proofs.Try.func24 (by kernel_rfl) mixed (E_pool_Pool_Node p0 at1 h R) H

def H_space_Space_Back : HT := (.j [19] [0, 1, 30] .z (.c .z .z))
theorem E_space_Space_Back (s0 mark1 : Value) (h : Hp) (R : Value → Hp → Prop) : F_space_Space_Back (Sys.of Go.Proofs.Try.prog) ids s0 mark1 h R = denFn Go.Proofs.Try.prog Go.Proofs.Try.f25 H_space_Space_Back [s0, mark1] h R := by kernel_rfl
theorem C_space_Space_Back {s0 mark1 : Value} {h : Hp} {R : Value → Hp → Prop} (H : F_space_Space_Back (Sys.of Go.Proofs.Try.prog) ids s0 mark1 h R) : (Sys.of Go.Proofs.Try.prog).C ids.f_space_Space_Back [s0, mark1] h R :=
  cl_of_den Go.Proofs.Try.func25 (by kernel_rfl) mixed (E_space_Space_Back s0 mark1 h R) H

def H_simulcastlaw34_awake : HT := (.s .z (.s .z (.s .z (.s (.s .z (.b (.l [24] [1, 3, 22, 23, 101] (.s .z (.s (.c .z .z) (.s (.b (.s .z (.s .z (.c (.s .z .z) .z)))) .z)))))) (.s .z (.s .z (.s .z (.s .z (.s .z (.s .z (.j [0] [101] .z .z)))))))))))
theorem E_simulcastlaw34_awake (h : Hp) (R : Value → Hp → Prop) : F_simulcastlaw34_awake (Sys.of Go.Proofs.Try.prog) ids h R = denFn Go.Proofs.Try.prog Go.Proofs.Try.f26 H_simulcastlaw34_awake [] h R := by kernel_rfl
theorem C_simulcastlaw34_awake {h : Hp} {R : Value → Hp → Prop} (H : F_simulcastlaw34_awake (Sys.of Go.Proofs.Try.prog) ids h R) : (Sys.of Go.Proofs.Try.prog).C ids.f_simulcastlaw34_awake [] h R :=
  cl_of_den Go.Proofs.Try.func26 (by kernel_rfl) mixed (E_simulcastlaw34_awake h R) H

def H_simulcastlaw34_start : HT := (.s .z (.s .z (.j [] [2, 3, 16] (.o (oc [0, 1, 2, 3, 4] (.alt (oc [5, 6, 7, 8] .nil) (oc [7, 5, 6, 8] .nil)))) .z)))
theorem E_simulcastlaw34_start (nodes0 : Value) (h : Hp) (R : Value → Hp → Prop) : F_simulcastlaw34_start (Sys.of Go.Proofs.Try.prog) ids nodes0 h R = denFn Go.Proofs.Try.prog Go.Proofs.Try.f27 H_simulcastlaw34_start [nodes0] h R := by kernel_rfl
theorem C_simulcastlaw34_start {nodes0 : Value} {h : Hp} {R : Value → Hp → Prop} (H : F_simulcastlaw34_start (Sys.of Go.Proofs.Try.prog) ids nodes0 h R) : (Sys.of Go.Proofs.Try.prog).C ids.f_simulcastlaw34_start [nodes0] h R :=
  cl_of_den Go.Proofs.Try.func27 (by kernel_rfl) mixed (E_simulcastlaw34_start nodes0 h R) H

def H_simulcastlaw34_space0 : HT := (.s .z (.s .z .z))
theorem E_simulcastlaw34_space0 (w0 : Value) (h : Hp) (R : Value → Hp → Prop) : F_simulcastlaw34_space0 (Sys.of Go.Proofs.Try.prog) ids w0 h R = denFn Go.Proofs.Try.prog Go.Proofs.Try.f28 H_simulcastlaw34_space0 [w0] h R := by kernel_rfl
theorem C_simulcastlaw34_space0 {w0 : Value} {h : Hp} {R : Value → Hp → Prop} (H : F_simulcastlaw34_space0 (Sys.of Go.Proofs.Try.prog) ids w0 h R) : (Sys.of Go.Proofs.Try.prog).C ids.f_simulcastlaw34_space0 [w0] h R :=
  cl_of_den Go.Proofs.Try.func28 (by kernel_rfl) mixed (E_simulcastlaw34_space0 w0 h R) H

def H_simulcastlaw34_done : HT := (.s .z (.s (.s .z (.c (.s .z (.s .z (.s .z .z))) .z)) (.s .z (.s .z (.j [8, 9] [64] .z .z)))))
theorem E_simulcastlaw34_done (s0 p1 l2 a3 : Value) (h : Hp) (R : Value → Hp → Prop) : F_simulcastlaw34_done (Sys.of Go.Proofs.Try.prog) ids s0 p1 l2 a3 h R = denFn Go.Proofs.Try.prog Go.Proofs.Try.f29 H_simulcastlaw34_done [s0, p1, l2, a3] h R := by kernel_rfl
theorem C_simulcastlaw34_done {s0 p1 l2 a3 : Value} {h : Hp} {R : Value → Hp → Prop} (H : F_simulcastlaw34_done (Sys.of Go.Proofs.Try.prog) ids s0 p1 l2 a3 h R) : (Sys.of Go.Proofs.Try.prog).C ids.f_simulcastlaw34_done [s0, p1, l2, a3] h R :=
  cl_of_den Go.Proofs.Try.func29 (by kernel_rfl) mixed (E_simulcastlaw34_done s0 p1 l2 a3 h R) H

def H_simulcastlaw34_tells : HT := (.s .z (.s .z (.s .z (.s (.j [47] [2, 9, 10, 66] (.o (oc [0, 1, 2, 3, 4, 5, 6, 7, 8, 9, 11, 12, 10, 13, 14, 15, 16, 17, 19, 20, 21, 22, 23, 18, 24, 25] .nil)) (.c (.s .z .z) .z)) (.s (.s .z (.c (.j [6] [66] .z .z) .z)) (.j [6] [66] .z .z))))))
theorem E_simulcastlaw34_tells (s0 p1 l2 : Value) (h : Hp) (R : Value → Hp → Prop) : F_simulcastlaw34_tells (Sys.of Go.Proofs.Try.prog) ids s0 p1 l2 h R = denFn Go.Proofs.Try.prog Go.Proofs.Try.f30 H_simulcastlaw34_tells [s0, p1, l2] h R := by kernel_rfl
theorem C_simulcastlaw34_tells {s0 p1 l2 : Value} {h : Hp} {R : Value → Hp → Prop} (H : F_simulcastlaw34_tells (Sys.of Go.Proofs.Try.prog) ids s0 p1 l2 h R) : (Sys.of Go.Proofs.Try.prog).C ids.f_simulcastlaw34_tells [s0, p1, l2] h R :=
  cl_of_den Go.Proofs.Try.func30 (by kernel_rfl) mixed (E_simulcastlaw34_tells s0 p1 l2 h R) H

def H_queue_Put : HT := (.s .z (.s .z (.s .z (.s .z (.s (.s .z (.s .z (.c (.s .z .z) .z))) (.s .z (.j [] [0, 2, 3, 9, 10, 71] (.b (.s .z (.c .z (.s .z (.c (.s .z (.s .z .z)) .z))))) (.s .z (.s .z (.s .z (.s .z (.s .z .z))))))))))))
theorem E_queue_Put (s0 p1 root2 v3 : Value) (h : Hp) (R : Value → Hp → Prop) : F_queue_Put (Sys.of Go.Proofs.Try.prog) ids s0 p1 root2 v3 h R = denFn Go.Proofs.Try.prog Go.Proofs.Try.f31 H_queue_Put [s0, p1, root2, v3] h R := by kernel_rfl
theorem C_queue_Put {s0 p1 root2 v3 : Value} {h : Hp} {R : Value → Hp → Prop} (H : F_queue_Put (Sys.of Go.Proofs.Try.prog) ids s0 p1 root2 v3 h R) : (Sys.of Go.Proofs.Try.prog).C ids.f_queue_Put [s0, p1, root2, v3] h R :=
  cl_of_den Go.Proofs.Try.func31 (by kernel_rfl) mixed (E_queue_Put s0 p1 root2 v3 h R) H

def H_queue_Take : HT := (.s .z (.s .z (.s .z (.s .z (.s (.b (.s .z (.c (.s .z (.s (.o (oc [0, 1, 2] .nil)) .z)) (.s .z (.c (.s .z (.s (.o (oc [0, 1, 2] .nil)) .z)) .z))))) (.s .z (.s (.s .z (.s .z (.c (.s (.o (oc [0, 1, 2] .nil)) .z) .z))) (.s .z (.j [] [0, 2, 8, 10, 66] (.s .z (.c .z .z)) (.s .z (.s (.o (oc [0, 1, 2, 3] .nil)) .z)))))))))))
theorem E_queue_Take (s0 p1 root2 : Value) (h : Hp) (R : Value → Hp → Prop) : F_queue_Take (Sys.of Go.Proofs.Try.prog) ids s0 p1 root2 h R = denFn Go.Proofs.Try.prog Go.Proofs.Try.f32 H_queue_Take [s0, p1, root2] h R := by kernel_rfl
theorem C_queue_Take {s0 p1 root2 : Value} {h : Hp} {R : Value → Hp → Prop} (H : F_queue_Take (Sys.of Go.Proofs.Try.prog) ids s0 p1 root2 h R) : (Sys.of Go.Proofs.Try.prog).C ids.f_queue_Take [s0, p1, root2] h R :=
  cl_of_den Go.Proofs.Try.func32 (by kernel_rfl) mixed (E_queue_Take s0 p1 root2 h R) H

def H_simulcastref34_Same : HT := (.s .z (.s (.s .z (.c (.s .z .z) .z)) (.s (.s .z (.b (.l [5] [0, 1, 26] (.s (.s .z (.c .z .z)) (.s (.b (.s (.o (oc [0, 1, 2, 3, 4, 5, 6, 7, 8] .nil)) (.c (.s .z .z) .z))) .z))))) (.s .z .z))))
theorem E_simulcastref34_Same (a0 b1 : Value) (h : Hp) (R : Value → Hp → Prop) : F_simulcastref34_Same (Sys.of Go.Proofs.Try.prog) ids a0 b1 h R = denFn Go.Proofs.Try.prog Go.Proofs.Try.f33 H_simulcastref34_Same [a0, b1] h R := by kernel_rfl
theorem C_simulcastref34_Same {a0 b1 : Value} {h : Hp} {R : Value → Hp → Prop} (H : F_simulcastref34_Same (Sys.of Go.Proofs.Try.prog) ids a0 b1 h R) : (Sys.of Go.Proofs.Try.prog).C ids.f_simulcastref34_Same [a0, b1] h R :=
  cl_of_den Go.Proofs.Try.func33 (by kernel_rfl) mixed (E_simulcastref34_Same a0 b1 h R) H

def H_queue_Len : HT := (.s .z (.s .z .z))
theorem E_queue_Len (s0 root1 : Value) (h : Hp) (R : Value → Hp → Prop) : F_queue_Len (Sys.of Go.Proofs.Try.prog) ids s0 root1 h R = denFn Go.Proofs.Try.prog Go.Proofs.Try.f34 H_queue_Len [s0, root1] h R := by kernel_rfl
theorem C_queue_Len {s0 root1 : Value} {h : Hp} {R : Value → Hp → Prop} (H : F_queue_Len (Sys.of Go.Proofs.Try.prog) ids s0 root1 h R) : (Sys.of Go.Proofs.Try.prog).C ids.f_queue_Len [s0, root1] h R :=
  cl_of_den Go.Proofs.Try.func34 (by kernel_rfl) mixed (E_queue_Len s0 root1 h R) H

def H_simulcastref34_Put : HT := (.s .z (.s (.s .z (.c (.s .z .z) .z)) (.s .z .z)))
theorem E_simulcastref34_Put (l0 v1 left2 : Value) (h : Hp) (R : Value → Hp → Prop) : F_simulcastref34_Put (Sys.of Go.Proofs.Try.prog) ids l0 v1 left2 h R = denFn Go.Proofs.Try.prog Go.Proofs.Try.f35 H_simulcastref34_Put [l0, v1, left2] h R := by kernel_rfl
theorem C_simulcastref34_Put {l0 v1 left2 : Value} {h : Hp} {R : Value → Hp → Prop} (H : F_simulcastref34_Put (Sys.of Go.Proofs.Try.prog) ids l0 v1 left2 h R) : (Sys.of Go.Proofs.Try.prog).C ids.f_simulcastref34_Put [l0, v1, left2] h R :=
  cl_of_den Go.Proofs.Try.func35 (by kernel_rfl) mixed (E_simulcastref34_Put l0 v1 left2 h R) H

def H_simulcastref34_Take : HT := (.s .z (.s (.s .z (.c (.s .z .z) .z)) (.s (.o (oc [1, 2, 4, 5, 6, 0, 3, 7, 8, 9] .nil)) .z)))
theorem E_simulcastref34_Take (l0 : Value) (h : Hp) (R : Value → Hp → Prop) : F_simulcastref34_Take (Sys.of Go.Proofs.Try.prog) ids l0 h R = denFn Go.Proofs.Try.prog Go.Proofs.Try.f36 H_simulcastref34_Take [l0] h R := by kernel_rfl
theorem C_simulcastref34_Take {l0 : Value} {h : Hp} {R : Value → Hp → Prop} (H : F_simulcastref34_Take (Sys.of Go.Proofs.Try.prog) ids l0 h R) : (Sys.of Go.Proofs.Try.prog).C ids.f_simulcastref34_Take [l0] h R :=
  cl_of_den Go.Proofs.Try.func36 (by kernel_rfl) mixed (E_simulcastref34_Take l0 h R) H

def H_queue_Walk : HT := (.s .z (.s .z (.s (.s .z (.b (.r .z (.b (.s (.j [24] [3, 6, 7, 8, 9, 33] .z (.c (.s .z .z) .z)) (.o (oc [0, 1, 2, 3, 4, 5, 6, 7] .nil))))))) (.s .z .z))))
theorem E_queue_Walk (s0 p1 root2 : Value) (h : Hp) (R : Value → Hp → Prop) : F_queue_Walk (Sys.of Go.Proofs.Try.prog) ids s0 p1 root2 h R = denFn Go.Proofs.Try.prog Go.Proofs.Try.f37 H_queue_Walk [s0, p1, root2] h R := by kernel_rfl
theorem C_queue_Walk {s0 p1 root2 : Value} {h : Hp} {R : Value → Hp → Prop} (H : F_queue_Walk (Sys.of Go.Proofs.Try.prog) ids s0 p1 root2 h R) : (Sys.of Go.Proofs.Try.prog).C ids.f_queue_Walk [s0, p1, root2] h R :=
  cl_of_den Go.Proofs.Try.func37 (by kernel_rfl) mixed (E_queue_Walk s0 p1 root2 h R) H

def H_simulcastlaw30_awake : HT := (.s .z (.s .z (.s .z (.s .z (.s .z (.s .z (.s .z (.s .z (.s .z (.s .z (.j [0] [80] .z .z)))))))))))
theorem E_simulcastlaw30_awake (h : Hp) (R : Value → Hp → Prop) : F_simulcastlaw30_awake (Sys.of Go.Proofs.Try.prog) ids h R = denFn Go.Proofs.Try.prog Go.Proofs.Try.f38 H_simulcastlaw30_awake [] h R := by kernel_rfl
theorem C_simulcastlaw30_awake {h : Hp} {R : Value → Hp → Prop} (H : F_simulcastlaw30_awake (Sys.of Go.Proofs.Try.prog) ids h R) : (Sys.of Go.Proofs.Try.prog).C ids.f_simulcastlaw30_awake [] h R :=
  cl_of_den Go.Proofs.Try.func38 (by kernel_rfl) mixed (E_simulcastlaw30_awake h R) H

def H_simulcastlaw30_program : HT := (.s .z (.s .z (.s (.s .z (.b (.l [5, 6] [0, 1, 52] (.s (.j [16] [0, 1, 5, 6, 52] .z (.c .z .z)) (.j [5] [0, 1, 6, 52] (.b (.s .z (.s .z (.c .z .z)))) .z))))) (.s .z .z))))
theorem E_simulcastlaw30_program (s0 acts1 : Value) (h : Hp) (R : Value → Hp → Prop) : F_simulcastlaw30_program (Sys.of Go.Proofs.Try.prog) ids s0 acts1 h R = denFn Go.Proofs.Try.prog Go.Proofs.Try.f39 H_simulcastlaw30_program [s0, acts1] h R := by kernel_rfl
theorem C_simulcastlaw30_program {s0 acts1 : Value} {h : Hp} {R : Value → Hp → Prop} (H : F_simulcastlaw30_program (Sys.of Go.Proofs.Try.prog) ids s0 acts1 h R) : (Sys.of Go.Proofs.Try.prog).C ids.f_simulcastlaw30_program [s0, acts1] h R :=
  cl_of_den Go.Proofs.Try.func39 (by kernel_rfl) mixed (E_simulcastlaw30_program s0 acts1 h R) H

def H_space_Space_Reads : HT := (.s .z (.s .z (.s (.s .z (.c (.s .z .z) .z)) (.s (.s .z (.b (.l [3] [12, 24] (.s .z (.s (.c .z .z) (.b (.s .z .z))))))) (.s .z (.s .z .z))))))
theorem E_space_Space_Reads (s0 : Value) (h : Hp) (R : Value → Hp → Prop) : F_space_Space_Reads (Sys.of Go.Proofs.Try.prog) ids s0 h R = denFn Go.Proofs.Try.prog Go.Proofs.Try.f40 H_space_Space_Reads [s0] h R := by kernel_rfl
theorem C_space_Space_Reads {s0 : Value} {h : Hp} {R : Value → Hp → Prop} (H : F_space_Space_Reads (Sys.of Go.Proofs.Try.prog) ids s0 h R) : (Sys.of Go.Proofs.Try.prog).C ids.f_space_Space_Reads [s0] h R :=
  cl_of_den Go.Proofs.Try.func40 (by kernel_rfl) mixed (E_space_Space_Reads s0 h R) H

def H_space_Space_Need : HT := (.s .z (.s (.j [12] [0, 17] .z (.c (.s .z .z) .z)) (.s .z .z)))
theorem E_space_Space_Need (s0 : Value) (h : Hp) (R : Value → Hp → Prop) : F_space_Space_Need (Sys.of Go.Proofs.Try.prog) ids s0 h R = denFn Go.Proofs.Try.prog Go.Proofs.Try.f41 H_space_Space_Need [s0] h R := by kernel_rfl
theorem C_space_Space_Need {s0 : Value} {h : Hp} {R : Value → Hp → Prop} (H : F_space_Space_Need (Sys.of Go.Proofs.Try.prog) ids s0 h R) : (Sys.of Go.Proofs.Try.prog).C ids.f_space_Space_Need [s0] h R :=
  cl_of_den Go.Proofs.Try.func41 (by kernel_rfl) mixed (E_space_Space_Need s0 h R) H

def H_space_Space_Entries : HT := (.s .z (.s (.s .z (.c (.s .z .z) .z)) (.s .z (.s (.s .z (.b (.l [4, 15] [0, 13, 14, 48] (.s .z (.s (.c .z .z) (.s (.b (.s .z (.s .z .z))) .z)))))) (.s (.s .z (.c (.s .z .z) .z)) (.s (.s .z (.s .z (.c (.s .z .z) .z))) (.s .z .z)))))))
theorem E_space_Space_Entries (s0 : Value) (h : Hp) (R : Value → Hp → Prop) : F_space_Space_Entries (Sys.of Go.Proofs.Try.prog) ids s0 h R = denFn Go.Proofs.Try.prog Go.Proofs.Try.f42 H_space_Space_Entries [s0] h R := by kernel_rfl
theorem C_space_Space_Entries {s0 : Value} {h : Hp} {R : Value → Hp → Prop} (H : F_space_Space_Entries (Sys.of Go.Proofs.Try.prog) ids s0 h R) : (Sys.of Go.Proofs.Try.prog).C ids.f_space_Space_Entries [s0] h R :=
  cl_of_den Go.Proofs.Try.func42 (by kernel_rfl) mixed (E_space_Space_Entries s0 h R) H

def H_simulcastref30_Alike : HT := (.s .z (.s (.s .z (.c (.s .z .z) .z)) (.s (.s .z (.b (.l [5] [0, 1, 26] (.s (.s .z (.c .z .z)) (.s (.b (.s (.o (oc [0, 1, 2, 3, 4, 5, 6, 7, 8] .nil)) (.c (.s .z .z) .z))) .z))))) (.s .z .z))))
theorem E_simulcastref30_Alike (a0 b1 : Value) (h : Hp) (R : Value → Hp → Prop) : F_simulcastref30_Alike (Sys.of Go.Proofs.Try.prog) ids a0 b1 h R = denFn Go.Proofs.Try.prog Go.Proofs.Try.f43 H_simulcastref30_Alike [a0, b1] h R := by kernel_rfl
theorem C_simulcastref30_Alike {a0 b1 : Value} {h : Hp} {R : Value → Hp → Prop} (H : F_simulcastref30_Alike (Sys.of Go.Proofs.Try.prog) ids a0 b1 h R) : (Sys.of Go.Proofs.Try.prog).C ids.f_simulcastref30_Alike [a0, b1] h R :=
  cl_of_den Go.Proofs.Try.func43 (by kernel_rfl) mixed (E_simulcastref30_Alike a0 b1 h R) H

def H_simulcastlaw30_do : HT := (.s .z (.s (.s .z (.b (.j [14] [0, 4, 5, 6, 13, 79] (.s .z (.c .z .z)) (.c (.s .z (.s .z (.s (.s .z (.c (.s .z .z) .z)) (.s .z (.s .z .z))))) (.s .z (.c (.s .z (.s .z .z)) .z)))))) (.s .z (.s .z .z))))
theorem E_simulcastlaw30_do (s0 x1 a2 : Value) (h : Hp) (R : Value → Hp → Prop) : F_simulcastlaw30_do (Sys.of Go.Proofs.Try.prog) ids s0 x1 a2 h R = denFn Go.Proofs.Try.prog Go.Proofs.Try.f44 H_simulcastlaw30_do [s0, x1, a2] h R := by kernel_rfl
theorem C_simulcastlaw30_do {s0 x1 a2 : Value} {h : Hp} {R : Value → Hp → Prop} (H : F_simulcastlaw30_do (Sys.of Go.Proofs.Try.prog) ids s0 x1 a2 h R) : (Sys.of Go.Proofs.Try.prog).C ids.f_simulcastlaw30_do [s0, x1, a2] h R :=
  cl_of_den Go.Proofs.Try.func44 (by kernel_rfl) mixed (E_simulcastlaw30_do s0 x1 a2 h R) H

def H_space_Space_Ended : HT := (.s .z (.j [2] [11] .z .z))
theorem E_space_Space_Ended (s0 : Value) (h : Hp) (R : Value → Hp → Prop) : F_space_Space_Ended (Sys.of Go.Proofs.Try.prog) ids s0 h R = denFn Go.Proofs.Try.prog Go.Proofs.Try.f45 H_space_Space_Ended [s0] h R := by kernel_rfl
theorem C_space_Space_Ended {s0 : Value} {h : Hp} {R : Value → Hp → Prop} (H : F_space_Space_Ended (Sys.of Go.Proofs.Try.prog) ids s0 h R) : (Sys.of Go.Proofs.Try.prog).C ids.f_space_Space_Ended [s0] h R :=
  cl_of_den Go.Proofs.Try.func45 (by kernel_rfl) mixed (E_space_Space_Ended s0 h R) H

def H_simulcastref30_Same : HT := (.s .z (.s (.s .z (.c (.s .z .z) .z)) (.s (.s .z (.b (.l [5] [0, 1, 26] (.s (.s .z (.c .z .z)) (.s (.b (.s (.o (oc [0, 1, 2, 3, 4, 5, 6, 7, 8] .nil)) (.c (.s .z .z) .z))) .z))))) (.s .z .z))))
theorem E_simulcastref30_Same (a0 b1 : Value) (h : Hp) (R : Value → Hp → Prop) : F_simulcastref30_Same (Sys.of Go.Proofs.Try.prog) ids a0 b1 h R = denFn Go.Proofs.Try.prog Go.Proofs.Try.f46 H_simulcastref30_Same [a0, b1] h R := by kernel_rfl
theorem C_simulcastref30_Same {a0 b1 : Value} {h : Hp} {R : Value → Hp → Prop} (H : F_simulcastref30_Same (Sys.of Go.Proofs.Try.prog) ids a0 b1 h R) : (Sys.of Go.Proofs.Try.prog).C ids.f_simulcastref30_Same [a0, b1] h R :=
  cl_of_den Go.Proofs.Try.func46 (by kernel_rfl) mixed (E_simulcastref30_Same a0 b1 h R) H

def H_space_Space_Writes : HT := (.s .z (.s .z (.s (.s .z (.c (.s .z .z) .z)) (.s (.s .z (.b (.l [3, 14] [12, 13, 28] (.s .z (.s (.c .z .z) (.s (.b (.s .z .z)) .z)))))) (.s .z (.s .z .z))))))
theorem E_space_Space_Writes (s0 : Value) (h : Hp) (R : Value → Hp → Prop) : F_space_Space_Writes (Sys.of Go.Proofs.Try.prog) ids s0 h R = denFn Go.Proofs.Try.prog Go.Proofs.Try.f47 H_space_Space_Writes [s0] h R := by kernel_rfl
theorem C_space_Space_Writes {s0 : Value} {h : Hp} {R : Value → Hp → Prop} (H : F_space_Space_Writes (Sys.of Go.Proofs.Try.prog) ids s0 h R) : (Sys.of Go.Proofs.Try.prog).C ids.f_space_Space_Writes [s0] h R :=
  cl_of_den Go.Proofs.Try.func47 (by kernel_rfl) mixed (E_space_Space_Writes s0 h R) H

def H_space_Space_Get : HT := (.s .z (.s (.s .z (.c (.s .z .z) .z)) (.s .z (.s .z .z))))
theorem E_space_Space_Get (s0 at1 : Value) (h : Hp) (R : Value → Hp → Prop) : F_space_Space_Get (Sys.of Go.Proofs.Try.prog) ids s0 at1 h R = denFn Go.Proofs.Try.prog Go.Proofs.Try.f48 H_space_Space_Get [s0, at1] h R := by kernel_rfl
theorem C_space_Space_Get {s0 at1 : Value} {h : Hp} {R : Value → Hp → Prop} (H : F_space_Space_Get (Sys.of Go.Proofs.Try.prog) ids s0 at1 h R) : (Sys.of Go.Proofs.Try.prog).C ids.f_space_Space_Get [s0, at1] h R :=
  cl_of_den Go.Proofs.Try.func48 (by kernel_rfl) mixed (E_space_Space_Get s0 at1 h R) H

def H_space_Space_Put : HT := (.s .z (.c .z .z))
theorem E_space_Space_Put (s0 at1 v2 : Value) (h : Hp) (R : Value → Hp → Prop) : F_space_Space_Put (Sys.of Go.Proofs.Try.prog) ids s0 at1 v2 h R = denFn Go.Proofs.Try.prog Go.Proofs.Try.f49 H_space_Space_Put [s0, at1, v2] h R := by kernel_rfl
theorem C_space_Space_Put {s0 at1 v2 : Value} {h : Hp} {R : Value → Hp → Prop} (H : F_space_Space_Put (Sys.of Go.Proofs.Try.prog) ids s0 at1 v2 h R) : (Sys.of Go.Proofs.Try.prog).C ids.f_space_Space_Put [s0, at1, v2] h R :=
  cl_of_den Go.Proofs.Try.func49 (by kernel_rfl) mixed (E_space_Space_Put s0 at1 v2 h R) H

def H_pool_Pool_Check : HT := (.s .z (.s (.b (.j [3] [1, 58] .z (.c (.s .z .z) (.j [22] [1, 58] .z (.c (.s .z .z) (.j [35] [58] .z (.c (.s .z .z) .z))))))) (.s .z .z)))
theorem E_pool_Pool_Check (p0 : Value) (h : Hp) (R : Value → Hp → Prop) : F_pool_Pool_Check (Sys.of Go.Proofs.Try.prog) ids p0 h R = denFn Go.Proofs.Try.prog Go.Proofs.Try.f50 H_pool_Pool_Check [p0] h R := by kernel_rfl
theorem C_pool_Pool_Check {p0 : Value} {h : Hp} {R : Value → Hp → Prop} (H : F_pool_Pool_Check (Sys.of Go.Proofs.Try.prog) ids p0 h R) : (Sys.of Go.Proofs.Try.prog).C ids.f_pool_Pool_Check [p0] h R :=
  cl_of_den Go.Proofs.Try.func50 (by kernel_rfl) mixed (E_pool_Pool_Check p0 h R) H

def H_pool_Pool_Free : HT := (.s .z (.s (.s .z (.s .z (.c (.s .z .z) .z))) (.s .z (.s .z (.s .z (.s (.b (.l [7, 8] [1, 2, 47] (.b (.s .z (.s (.b (.s .z (.c .z (.j [29] [1, 2, 7, 8, 9, 47] .z (.c (.s .z .z) .z))))) (.s .z .z)))))) (.s .z .z)))))))
theorem E_pool_Pool_Free (p0 w1 : Value) (h : Hp) (R : Value → Hp → Prop) : F_pool_Pool_Free (Sys.of Go.Proofs.Try.prog) ids p0 w1 h R = denFn Go.Proofs.Try.prog Go.Proofs.Try.f51 H_pool_Pool_Free [p0, w1] h R := by kernel_rfl
theorem C_pool_Pool_Free {p0 w1 : Value} {h : Hp} {R : Value → Hp → Prop} (H : F_pool_Pool_Free (Sys.of Go.Proofs.Try.prog) ids p0 w1 h R) : (Sys.of Go.Proofs.Try.prog).C ids.f_pool_Pool_Free [p0, w1] h R :=
  cl_of_den Go.Proofs.Try.func51 (by kernel_rfl) mixed (E_pool_Pool_Free p0 w1 h R) H

def H_simulcastlaw31_Words_Get : HT := (.s .z (.s (.j [13] [1, 2, 19] .z (.c (.s .z .z) .z)) (.s .z .z)))
theorem E_simulcastlaw31_Words_Get (w0 at1 : Value) (h : Hp) (R : Value → Hp → Prop) : F_simulcastlaw31_Words_Get (Sys.of Go.Proofs.Try.prog) ids w0 at1 h R = denFn Go.Proofs.Try.prog Go.Proofs.Try.f52 H_simulcastlaw31_Words_Get [w0, at1] h R := by kernel_rfl
theorem C_simulcastlaw31_Words_Get {w0 at1 : Value} {h : Hp} {R : Value → Hp → Prop} (H : F_simulcastlaw31_Words_Get (Sys.of Go.Proofs.Try.prog) ids w0 at1 h R) : (Sys.of Go.Proofs.Try.prog).C ids.f_simulcastlaw31_Words_Get [w0, at1] h R :=
  cl_of_den Go.Proofs.Try.func52 (by kernel_rfl) mixed (E_simulcastlaw31_Words_Get w0 at1 h R) H

def H_simulcastref31_Take : HT := (.s .z (.s (.s .z (.c (.s .z (.s (.o (oc [1, 2, 3, 4, 5, 6, 7, 9, 10, 12, 0, 8, 11, 13, 14] .nil)) .z)) .z)) (.s (.s .z (.c (.s .z .z) .z)) (.s (.o (oc [0, 1, 2, 3, 4, 5, 6, 7, 8, 9] .nil)) .z))))
theorem E_simulcastref31_Take (s0 nodes1 : Value) (h : Hp) (R : Value → Hp → Prop) : F_simulcastref31_Take (Sys.of Go.Proofs.Try.prog) ids s0 nodes1 h R = denFn Go.Proofs.Try.prog Go.Proofs.Try.f53 H_simulcastref31_Take [s0, nodes1] h R := by kernel_rfl
theorem C_simulcastref31_Take {s0 nodes1 : Value} {h : Hp} {R : Value → Hp → Prop} (H : F_simulcastref31_Take (Sys.of Go.Proofs.Try.prog) ids s0 nodes1 h R) : (Sys.of Go.Proofs.Try.prog).C ids.f_simulcastref31_Take [s0, nodes1] h R :=
  cl_of_den Go.Proofs.Try.func53 (by kernel_rfl) mixed (E_simulcastref31_Take s0 nodes1 h R) H

def H_simulcastref31_Give : HT := (.s .z (.j [] [4, 15] (.o (oc [1, 2, 4, 7, 8] (.alt (oc [0] (.alt (oc [3, 5, 6, 9, 10] .nil) (oc [5, 3, 6, 9, 10] .nil))) (oc [5, 0, 3, 6, 9, 10] .nil)))) .z))
theorem E_simulcastref31_Give (s0 n1 : Value) (h : Hp) (R : Value → Hp → Prop) : F_simulcastref31_Give (Sys.of Go.Proofs.Try.prog) ids s0 n1 h R = denFn Go.Proofs.Try.prog Go.Proofs.Try.f54 H_simulcastref31_Give [s0, n1] h R := by kernel_rfl
theorem C_simulcastref31_Give {s0 n1 : Value} {h : Hp} {R : Value → Hp → Prop} (H : F_simulcastref31_Give (Sys.of Go.Proofs.Try.prog) ids s0 n1 h R) : (Sys.of Go.Proofs.Try.prog).C ids.f_simulcastref31_Give [s0, n1] h R :=
  cl_of_den Go.Proofs.Try.func54 (by kernel_rfl) mixed (E_simulcastref31_Give s0 n1 h R) H

def H_simulcastlaw31_Words_Behind : HT := (.s .z (.s .z (.s (.j [20] [2, 4, 6, 65] .z (.c (.s .z .z) .z)) (.s .z (.s (.s .z (.b (.l [9] [2, 4, 6, 8, 65] (.s (.s .z (.c .z .z)) (.s (.b (.s (.j [49] [2, 4, 6, 8, 9, 65] (.o (oc [0, 1, 2, 3, 4, 5, 6, 7, 8, 9, 10, 11, 12, 13, 14, 15, 16] .nil)) (.c (.s .z .z) .z)) (.o (oc [0, 1, 2, 3, 4, 5, 6, 7, 8, 9, 10, 11, 12, 13] .nil)))) .z))))) (.s .z .z))))))
theorem E_simulcastlaw31_Words_Behind (w0 s1 : Value) (h : Hp) (R : Value → Hp → Prop) : F_simulcastlaw31_Words_Behind (Sys.of Go.Proofs.Try.prog) ids w0 s1 h R = denFn Go.Proofs.Try.prog Go.Proofs.Try.f55 H_simulcastlaw31_Words_Behind [w0, s1] h R := by kernel_rfl
theorem C_simulcastlaw31_Words_Behind {w0 s1 : Value} {h : Hp} {R : Value → Hp → Prop} (H : F_simulcastlaw31_Words_Behind (Sys.of Go.Proofs.Try.prog) ids w0 s1 h R) : (Sys.of Go.Proofs.Try.prog).C ids.f_simulcastlaw31_Words_Behind [w0, s1] h R :=
  cl_of_den Go.Proofs.Try.func55 (by kernel_rfl) mixed (E_simulcastlaw31_Words_Behind w0 s1 h R) H

def H_simulcastref31_Same : HT := (.s .z (.s (.s .z (.c (.s .z .z) .z)) (.s (.s .z (.b (.l [5] [0, 1, 26] (.s (.s .z (.c .z .z)) (.s (.b (.s (.o (oc [0, 1, 2, 3, 4, 5, 6, 7, 8] .nil)) (.c (.s .z .z) .z))) .z))))) (.s .z .z))))
theorem E_simulcastref31_Same (a0 b1 : Value) (h : Hp) (R : Value → Hp → Prop) : F_simulcastref31_Same (Sys.of Go.Proofs.Try.prog) ids a0 b1 h R = denFn Go.Proofs.Try.prog Go.Proofs.Try.f56 H_simulcastref31_Same [a0, b1] h R := by kernel_rfl
theorem C_simulcastref31_Same {a0 b1 : Value} {h : Hp} {R : Value → Hp → Prop} (H : F_simulcastref31_Same (Sys.of Go.Proofs.Try.prog) ids a0 b1 h R) : (Sys.of Go.Proofs.Try.prog).C ids.f_simulcastref31_Same [a0, b1] h R :=
  cl_of_den Go.Proofs.Try.func56 (by kernel_rfl) mixed (E_simulcastref31_Same a0 b1 h R) H

def H_simulcastref31_Turned : HT := (.s .z (.s .z (.s (.s .z (.b (.l [3, 4] [0, 20] (.s (.s .z (.c .z .z)) (.s (.b .z) .z))))) (.s .z .z))))
theorem E_simulcastref31_Turned (l0 : Value) (h : Hp) (R : Value → Hp → Prop) : F_simulcastref31_Turned (Sys.of Go.Proofs.Try.prog) ids l0 h R = denFn Go.Proofs.Try.prog Go.Proofs.Try.f57 H_simulcastref31_Turned [l0] h R := by kernel_rfl
theorem C_simulcastref31_Turned {l0 : Value} {h : Hp} {R : Value → Hp → Prop} (H : F_simulcastref31_Turned (Sys.of Go.Proofs.Try.prog) ids l0 h R) : (Sys.of Go.Proofs.Try.prog).C ids.f_simulcastref31_Turned [l0] h R :=
  cl_of_den Go.Proofs.Try.func57 (by kernel_rfl) mixed (E_simulcastref31_Turned l0 h R) H

def H_model_New : HT := (.s .z (.s .z (.s (.s .z (.b (.l [9] [2, 3, 8, 19] (.s .z (.s (.c .z .z) (.s (.b (.s .z .z)) .z)))))) (.s .z .z))))
theorem E_model_New (w0 : Value) (h : Hp) (R : Value → Hp → Prop) : F_model_New (Sys.of Go.Proofs.Try.prog) ids w0 h R = denFn Go.Proofs.Try.prog Go.Proofs.Try.f58 H_model_New [w0] h R := by kernel_rfl
theorem C_model_New {w0 : Value} {h : Hp} {R : Value → Hp → Prop} (H : F_model_New (Sys.of Go.Proofs.Try.prog) ids w0 h R) : (Sys.of Go.Proofs.Try.prog).C ids.f_model_New [w0] h R :=
  cl_of_den Go.Proofs.Try.func58 (by kernel_rfl) mixed (E_model_New w0 h R) H

def H_model_Model_Swap : HT := (.s .z (.s (.s .z (.s .z (.c (.s .z .z) .z))) (.s (.s .z (.b (.l [23] [1, 2, 4, 21, 22, 67] (.s .z (.s (.c .z .z) (.s (.b (.s .z (.s .z (.s .z (.c (.s .z .z) .z))))) .z)))))) (.s (.s .z (.c (.s .z .z) .z)) (.s .z (.s (.s .z (.b (.l [47] [4, 12, 45, 46, 67] (.s .z (.s (.c .z .z) (.j [] [4, 12, 45, 46, 47, 67] (.b (.s .z (.s .z (.c .z .z)))) .z)))))) (.s .z .z)))))))
theorem E_model_Model_Swap (m0 l1 : Value) (h : Hp) (R : Value → Hp → Prop) : F_model_Model_Swap (Sys.of Go.Proofs.Try.prog) ids m0 l1 h R = denFn Go.Proofs.Try.prog Go.Proofs.Try.f59 H_model_Model_Swap [m0, l1] h R := by kernel_rfl
theorem C_model_Model_Swap {m0 l1 : Value} {h : Hp} {R : Value → Hp → Prop} (H : F_model_Model_Swap (Sys.of Go.Proofs.Try.prog) ids m0 l1 h R) : (Sys.of Go.Proofs.Try.prog).C ids.f_model_Model_Swap [m0, l1] h R :=
  cl_of_den Go.Proofs.Try.func59 (by kernel_rfl) mixed (E_model_Model_Swap m0 l1 h R) H

def H_model_Model_At : HT := (.s .z (.s (.j [14] [1, 2, 4, 21] .z (.c (.s .z .z) .z)) (.s .z .z)))
theorem E_model_Model_At (m0 at1 : Value) (h : Hp) (R : Value → Hp → Prop) : F_model_Model_At (Sys.of Go.Proofs.Try.prog) ids m0 at1 h R = denFn Go.Proofs.Try.prog Go.Proofs.Try.f60 H_model_Model_At [m0, at1] h R := by kernel_rfl
theorem C_model_Model_At {m0 at1 : Value} {h : Hp} {R : Value → Hp → Prop} (H : F_model_Model_At (Sys.of Go.Proofs.Try.prog) ids m0 at1 h R) : (Sys.of Go.Proofs.Try.prog).C ids.f_model_Model_At [m0, at1] h R :=
  cl_of_den Go.Proofs.Try.func60 (by kernel_rfl) mixed (E_model_Model_At m0 at1 h R) H

def H_pool_Pool_add : HT := (.s .z (.o (oc [0, 1, 2, 3, 4, 5, 6, 7, 8, 9, 11, 10, 12, 13] .nil)))
theorem E_pool_Pool_add (p0 s1 count2 n3 : Value) (h : Hp) (R : Value → Hp → Prop) : F_pool_Pool_add (Sys.of Go.Proofs.Try.prog) ids p0 s1 count2 n3 h R = denFn Go.Proofs.Try.prog Go.Proofs.Try.f61 H_pool_Pool_add [p0, s1, count2, n3] h R := by kernel_rfl
theorem C_pool_Pool_add {p0 s1 count2 n3 : Value} {h : Hp} {R : Value → Hp → Prop} (H : F_pool_Pool_add (Sys.of Go.Proofs.Try.prog) ids p0 s1 count2 n3 h R) : (Sys.of Go.Proofs.Try.prog).C ids.f_pool_Pool_add [p0, s1, count2, n3] h R :=
  cl_of_den Go.Proofs.Try.func61 (by kernel_rfl) mixed (E_pool_Pool_add p0 s1 count2 n3 h R) H

def H_queue_First : HT := (.s .z (.s .z (.s (.s .z (.c (.s .z .z) .z)) (.s .z .z))))
theorem E_queue_First (s0 root1 : Value) (h : Hp) (R : Value → Hp → Prop) : F_queue_First (Sys.of Go.Proofs.Try.prog) ids s0 root1 h R = denFn Go.Proofs.Try.prog Go.Proofs.Try.f62 H_queue_First [s0, root1] h R := by kernel_rfl
theorem C_queue_First {s0 root1 : Value} {h : Hp} {R : Value → Hp → Prop} (H : F_queue_First (Sys.of Go.Proofs.Try.prog) ids s0 root1 h R) : (Sys.of Go.Proofs.Try.prog).C ids.f_queue_First [s0, root1] h R :=
  cl_of_den Go.Proofs.Try.func62 (by kernel_rfl) mixed (E_queue_First s0 root1 h R) H

def H_queue_undo : HT := (.s .z (.c .z .z))
theorem E_queue_undo (s0 mark1 e2 : Value) (h : Hp) (R : Value → Hp → Prop) : F_queue_undo (Sys.of Go.Proofs.Try.prog) ids s0 mark1 e2 h R = denFn Go.Proofs.Try.prog Go.Proofs.Try.f63 H_queue_undo [s0, mark1, e2] h R := by kernel_rfl
theorem C_queue_undo {s0 mark1 e2 : Value} {h : Hp} {R : Value → Hp → Prop} (H : F_queue_undo (Sys.of Go.Proofs.Try.prog) ids s0 mark1 e2 h R) : (Sys.of Go.Proofs.Try.prog).C ids.f_queue_undo [s0, mark1, e2] h R :=
  cl_of_den Go.Proofs.Try.func63 (by kernel_rfl) mixed (E_queue_undo s0 mark1 e2 h R) H
theorem E0_queue_undo (s0 mark1 e2 : Value) (h : Hp) (R : Hp → Prop) : F_queue_undo (Sys.of Go.Proofs.Try.prog) ids s0 mark1 e2 h (fun _ h => R h) = denFn0 Go.Proofs.Try.prog Go.Proofs.Try.f63 H_queue_undo [s0, mark1, e2] h (fun _ h => R h) := by kernel_rfl
theorem D_queue_undo {s0 mark1 e2 : Value} {h : Hp} {R : Hp → Prop} (H : F_queue_undo (Sys.of Go.Proofs.Try.prog) ids s0 mark1 e2 h (fun _ h => R h)) : (Sys.of Go.Proofs.Try.prog).D ids.f_queue_undo [s0, mark1, e2] h R :=
  spd_of_denFn Go.Proofs.Try.func63 mixed (E0_queue_undo s0 mark1 e2 h R) H

def H_queue_isNode : HT := (.s .z (.s .z (.s .z .z)))
theorem E_queue_isNode (p0 n1 : Value) (h : Hp) (R : Value → Hp → Prop) : F_queue_isNode (Sys.of Go.Proofs.Try.prog) ids p0 n1 h R = denFn Go.Proofs.Try.prog Go.Proofs.Try.f64 H_queue_isNode [p0, n1] h R := by kernel_rfl
theorem C_queue_isNode {p0 n1 : Value} {h : Hp} {R : Value → Hp → Prop} (H : F_queue_isNode (Sys.of Go.Proofs.Try.prog) ids p0 n1 h R) : (Sys.of Go.Proofs.Try.prog).C ids.f_queue_isNode [p0, n1] h R :=
  cl_of_den Go.Proofs.Try.func64 (by kernel_rfl) mixed (E_queue_isNode p0 n1 h R) H

def H_queue_nodes : HT := (.s .z (.s .z .z))
theorem E_queue_nodes (s0 root1 : Value) (h : Hp) (R : Value → Hp → Prop) : F_queue_nodes (Sys.of Go.Proofs.Try.prog) ids s0 root1 h R = denFn Go.Proofs.Try.prog Go.Proofs.Try.f65 H_queue_nodes [s0, root1] h R := by kernel_rfl
theorem C_queue_nodes {s0 root1 : Value} {h : Hp} {R : Value → Hp → Prop} (H : F_queue_nodes (Sys.of Go.Proofs.Try.prog) ids s0 root1 h R) : (Sys.of Go.Proofs.Try.prog).C ids.f_queue_nodes [s0, root1] h R :=
  cl_of_den Go.Proofs.Try.func65 (by kernel_rfl) mixed (E_queue_nodes s0 root1 h R) H

def H_slices_Sort_api_Loc_api_Loc : HT := (.s .z .z)
theorem E_slices_Sort_api_Loc_api_Loc (x0 : Value) (h : Hp) (R : Value → Hp → Prop) : F_slices_Sort_api_Loc_api_Loc (Sys.of Go.Proofs.Try.prog) ids x0 h R = denFn Go.Proofs.Try.prog Go.Proofs.Try.f66 H_slices_Sort_api_Loc_api_Loc [x0] h R := by kernel_rfl
theorem C_slices_Sort_api_Loc_api_Loc {x0 : Value} {h : Hp} {R : Value → Hp → Prop} (H : F_slices_Sort_api_Loc_api_Loc (Sys.of Go.Proofs.Try.prog) ids x0 h R) : (Sys.of Go.Proofs.Try.prog).C ids.f_slices_Sort_api_Loc_api_Loc [x0] h R :=
  cl_of_den Go.Proofs.Try.func66 (by kernel_rfl) mixed (E_slices_Sort_api_Loc_api_Loc x0 h R) H

def H_space_Space_value : HT := (.s .z (.s (.s .z (.s .z (.c (.s .z .z) .z))) (.s .z .z)))
theorem E_space_Space_value (s0 at1 : Value) (h : Hp) (R : Value → Hp → Prop) : F_space_Space_value (Sys.of Go.Proofs.Try.prog) ids s0 at1 h R = denFn Go.Proofs.Try.prog Go.Proofs.Try.f67 H_space_Space_value [s0, at1] h R := by kernel_rfl
theorem C_space_Space_value {s0 at1 : Value} {h : Hp} {R : Value → Hp → Prop} (H : F_space_Space_value (Sys.of Go.Proofs.Try.prog) ids s0 at1 h R) : (Sys.of Go.Proofs.Try.prog).C ids.f_space_Space_value [s0, at1] h R :=
  cl_of_den Go.Proofs.Try.func67 (by kernel_rfl) mixed (E_space_Space_value s0 at1 h R) H

def H_entry_Check : HT := (.s .z (.s (.b (.s .z (.c (.s .z .z) (.s .z (.c (.s .z .z) .z))))) (.s (.s .z (.b (.l [16] [0, 14, 15, 32] (.s .z (.s (.c .z .z) (.s (.b (.s .z (.s (.s .z (.s .z (.c (.s .z .z) .z))) (.s .z (.c (.s .z .z) .z))))) .z)))))) (.s .z .z))))
theorem E_entry_Check (l0 : Value) (h : Hp) (R : Value → Hp → Prop) : F_entry_Check (Sys.of Go.Proofs.Try.prog) ids l0 h R = denFn Go.Proofs.Try.prog Go.Proofs.Try.f68 H_entry_Check [l0] h R := by kernel_rfl
theorem C_entry_Check {l0 : Value} {h : Hp} {R : Value → Hp → Prop} (H : F_entry_Check (Sys.of Go.Proofs.Try.prog) ids l0 h R) : (Sys.of Go.Proofs.Try.prog).C ids.f_entry_Check [l0] h R :=
  cl_of_den Go.Proofs.Try.func68 (by kernel_rfl) mixed (E_entry_Check l0 h R) H

def H_simulcastref30_Get : HT := (.s .z (.s .z (.s (.s .z (.c (.s .z .z) .z)) (.s (.o (oc [0, 1, 2, 3, 4, 5] .nil)) .z))))
theorem E_simulcastref30_Get (s0 at1 : Value) (h : Hp) (R : Value → Hp → Prop) : F_simulcastref30_Get (Sys.of Go.Proofs.Try.prog) ids s0 at1 h R = denFn Go.Proofs.Try.prog Go.Proofs.Try.f69 H_simulcastref30_Get [s0, at1] h R := by kernel_rfl
theorem C_simulcastref30_Get {s0 at1 : Value} {h : Hp} {R : Value → Hp → Prop} (H : F_simulcastref30_Get (Sys.of Go.Proofs.Try.prog) ids s0 at1 h R) : (Sys.of Go.Proofs.Try.prog).C ids.f_simulcastref30_Get [s0, at1] h R :=
  cl_of_den Go.Proofs.Try.func69 (by kernel_rfl) mixed (E_simulcastref30_Get s0 at1 h R) H

def H_simulcastref30_Set : HT := (.s .z (.s .z (.s (.s .z (.c (.s .z .z) .z)) (.s .z (.s .z .z)))))
theorem E_simulcastref30_Set (s0 at1 v2 : Value) (h : Hp) (R : Value → Hp → Prop) : F_simulcastref30_Set (Sys.of Go.Proofs.Try.prog) ids s0 at1 v2 h R = denFn Go.Proofs.Try.prog Go.Proofs.Try.f70 H_simulcastref30_Set [s0, at1, v2] h R := by kernel_rfl
theorem C_simulcastref30_Set {s0 at1 v2 : Value} {h : Hp} {R : Value → Hp → Prop} (H : F_simulcastref30_Set (Sys.of Go.Proofs.Try.prog) ids s0 at1 v2 h R) : (Sys.of Go.Proofs.Try.prog).C ids.f_simulcastref30_Set [s0, at1, v2] h R :=
  cl_of_den Go.Proofs.Try.func70 (by kernel_rfl) mixed (E_simulcastref30_Set s0 at1 v2 h R) H

def H_simulcastref30_Back : HT := (.s .z (.s (.j [17] [1, 2, 4, 27] .z (.c (.s .z .z) .z)) (.s .z (.s .z .z))))
theorem E_simulcastref30_Back (s0 mark1 : Value) (h : Hp) (R : Value → Hp → Prop) : F_simulcastref30_Back (Sys.of Go.Proofs.Try.prog) ids s0 mark1 h R = denFn Go.Proofs.Try.prog Go.Proofs.Try.f71 H_simulcastref30_Back [s0, mark1] h R := by kernel_rfl
theorem C_simulcastref30_Back {s0 mark1 : Value} {h : Hp} {R : Value → Hp → Prop} (H : F_simulcastref30_Back (Sys.of Go.Proofs.Try.prog) ids s0 mark1 h R) : (Sys.of Go.Proofs.Try.prog).C ids.f_simulcastref30_Back [s0, mark1] h R :=
  cl_of_den Go.Proofs.Try.func71 (by kernel_rfl) mixed (E_simulcastref30_Back s0 mark1 h R) H

def H_slices_Compact_api_Loc_api_Loc : HT := (.s .z (.s (.s .z (.c (.s .z .z) .z)) (.s (.s .z (.b (.l [3] [0, 61] (.s (.s .z (.c .z .z)) (.s (.b (.s (.o (oc [0, 1, 2, 3, 4, 5, 6, 7, 8, 9] .nil)) (.c (.s .z (.s (.s .z (.b (.l [3, 5] [0, 4, 61] (.s (.s .z (.c .z .z)) (.j [3] [0, 4, 5, 61] (.b (.s (.o (oc [0, 1, 2, 3, 4, 5, 6, 7, 8, 9] .nil)) (.c (.s .z .z) .z))) .z))))) (.s .z (.s .z .z)))) .z))) .z))))) (.s .z .z))))
theorem E_slices_Compact_api_Loc_api_Loc (s0 : Value) (h : Hp) (R : Value → Hp → Prop) : F_slices_Compact_api_Loc_api_Loc (Sys.of Go.Proofs.Try.prog) ids s0 h R = denFn Go.Proofs.Try.prog Go.Proofs.Try.f72 H_slices_Compact_api_Loc_api_Loc [s0] h R := by kernel_rfl
theorem C_slices_Compact_api_Loc_api_Loc {s0 : Value} {h : Hp} {R : Value → Hp → Prop} (H : F_slices_Compact_api_Loc_api_Loc (Sys.of Go.Proofs.Try.prog) ids s0 h R) : (Sys.of Go.Proofs.Try.prog).C ids.f_slices_Compact_api_Loc_api_Loc [s0] h R :=
  cl_of_den Go.Proofs.Try.func72 (by kernel_rfl) mixed (E_slices_Compact_api_Loc_api_Loc s0 h R) H

def H_space_Space_reads : HT := (.s .z (.s (.s .z (.c (.s .z .z) .z)) (.s (.s .z (.s .z (.c (.s .z (.s .z .z)) .z))) (.s .z (.s .z .z)))))
theorem E_space_Space_reads (s0 at1 : Value) (h : Hp) (R : Value → Hp → Prop) : F_space_Space_reads (Sys.of Go.Proofs.Try.prog) ids s0 at1 h R = denFn Go.Proofs.Try.prog Go.Proofs.Try.f73 H_space_Space_reads [s0, at1] h R := by kernel_rfl
theorem C_space_Space_reads {s0 at1 : Value} {h : Hp} {R : Value → Hp → Prop} (H : F_space_Space_reads (Sys.of Go.Proofs.Try.prog) ids s0 at1 h R) : (Sys.of Go.Proofs.Try.prog).C ids.f_space_Space_reads [s0, at1] h R :=
  cl_of_den Go.Proofs.Try.func73 (by kernel_rfl) mixed (E_space_Space_reads s0 at1 h R) H

def H_slices_Clone_api_Word_api_Word : HT := (.s .z (.s (.s .z (.c (.s .z .z) .z)) (.s .z .z)))
theorem E_slices_Clone_api_Word_api_Word (s0 : Value) (h : Hp) (R : Value → Hp → Prop) : F_slices_Clone_api_Word_api_Word (Sys.of Go.Proofs.Try.prog) ids s0 h R = denFn Go.Proofs.Try.prog Go.Proofs.Try.f74 H_slices_Clone_api_Word_api_Word [s0] h R := by kernel_rfl
theorem C_slices_Clone_api_Word_api_Word {s0 : Value} {h : Hp} {R : Value → Hp → Prop} (H : F_slices_Clone_api_Word_api_Word (Sys.of Go.Proofs.Try.prog) ids s0 h R) : (Sys.of Go.Proofs.Try.prog).C ids.f_slices_Clone_api_Word_api_Word [s0] h R :=
  cl_of_den Go.Proofs.Try.func74 (by kernel_rfl) mixed (E_slices_Clone_api_Word_api_Word s0 h R) H

def H_model_Model_Holds : HT := (.s .z (.s (.s .z (.b (.l [11] [2, 9, 10, 33] (.s .z (.s (.c .z .z) (.s (.b (.s .z (.s .z (.s .z (.j [31] [2, 9, 10, 11, 33] .z (.c (.s .z .z) .z)))))) .z)))))) (.s .z .z)))
theorem E_model_Model_Holds (m0 l1 : Value) (h : Hp) (R : Value → Hp → Prop) : F_model_Model_Holds (Sys.of Go.Proofs.Try.prog) ids m0 l1 h R = denFn Go.Proofs.Try.prog Go.Proofs.Try.f75 H_model_Model_Holds [m0, l1] h R := by kernel_rfl
theorem C_model_Model_Holds {m0 l1 : Value} {h : Hp} {R : Value → Hp → Prop} (H : F_model_Model_Holds (Sys.of Go.Proofs.Try.prog) ids m0 l1 h R) : (Sys.of Go.Proofs.Try.prog).C ids.f_model_Model_Holds [m0, l1] h R :=
  cl_of_den Go.Proofs.Try.func75 (by kernel_rfl) mixed (E_model_Model_Holds m0 l1 h R) H

def H_model_Model_Words : HT := (.s .z (.s .z .z))
theorem E_model_Model_Words (m0 : Value) (h : Hp) (R : Value → Hp → Prop) : F_model_Model_Words (Sys.of Go.Proofs.Try.prog) ids m0 h R = denFn Go.Proofs.Try.prog Go.Proofs.Try.f76 H_model_Model_Words [m0] h R := by kernel_rfl
theorem C_model_Model_Words {m0 : Value} {h : Hp} {R : Value → Hp → Prop} (H : F_model_Model_Words (Sys.of Go.Proofs.Try.prog) ids m0 h R) : (Sys.of Go.Proofs.Try.prog).C ids.f_model_Model_Words [m0] h R :=
  cl_of_den Go.Proofs.Try.func76 (by kernel_rfl) mixed (E_model_Model_Words m0 h R) H

def H_queue_nodes_1 : HT := (.s .z (.b (.l [4] [0, 1, 20] (.s (.j [15] [0, 1, 4, 20] .z (.c .z .z)) (.b .z)))))
theorem E_queue_nodes_1 (yield0 v1 v2 : Value) (h : Hp) (R : Value → Hp → Prop) : F_queue_nodes_1 (Sys.of Go.Proofs.Try.prog) ids yield0 v1 v2 h R = denFn Go.Proofs.Try.prog Go.Proofs.Try.f77 H_queue_nodes_1 [yield0, v1, v2] h R := by kernel_rfl
theorem C_queue_nodes_1 {yield0 v1 v2 : Value} {h : Hp} {R : Value → Hp → Prop} (H : F_queue_nodes_1 (Sys.of Go.Proofs.Try.prog) ids yield0 v1 v2 h R) : (Sys.of Go.Proofs.Try.prog).C ids.f_queue_nodes_1 [yield0, v1, v2] h R :=
  cl_of_den Go.Proofs.Try.func77 (by kernel_rfl) mixed (E_queue_nodes_1 yield0 v1 v2 h R) H

def H_slices_pdqsortOrdered_api_Loc : HT := (.s .z (.s .z (.b (.l [1, 2, 3, 8, 9] [0, 134] (.b (.s .z (.s (.s .z (.c (.s .z .z) .z)) (.s (.s .z (.c (.s .z .z) .z)) (.j [3] [0, 1, 2, 8, 9, 10, 134] (.s .z (.c (.s .z .z) .z)) (.s .z (.j [11, 12] [0, 1, 2, 3, 8, 9, 10, 134] (.s .z (.c (.s .z (.s .z .z)) .z)) (.j [] [0, 1, 2, 3, 8, 9, 10, 11, 134] (.j [68] [0, 1, 2, 3, 8, 9, 10, 11, 134] .z (.c (.s .z (.c .z .z)) .z)) (.s (.j [87] [0, 1, 2, 3, 8, 9, 10, 11, 134] (.o (oc [0, 1, 2, 3, 4, 5, 6, 7, 8, 9, 10, 11, 12, 13, 14] .nil)) (.c (.s .z (.s .z .z)) .z)) (.s .z (.s .z (.s .z (.s .z (.s .z (.c (.s .z (.s .z .z)) (.s .z (.s .z .z)))))))))))))))))))))
theorem E_slices_pdqsortOrdered_api_Loc (data0 a1 b2 limit3 : Value) (h : Hp) (R : Value → Hp → Prop) : F_slices_pdqsortOrdered_api_Loc (Sys.of Go.Proofs.Try.prog) ids data0 a1 b2 limit3 h R = denFn Go.Proofs.Try.prog Go.Proofs.Try.f78 H_slices_pdqsortOrdered_api_Loc [data0, a1, b2, limit3] h R := by kernel_rfl
theorem C_slices_pdqsortOrdered_api_Loc {data0 a1 b2 limit3 : Value} {h : Hp} {R : Value → Hp → Prop} (H : F_slices_pdqsortOrdered_api_Loc (Sys.of Go.Proofs.Try.prog) ids data0 a1 b2 limit3 h R) : (Sys.of Go.Proofs.Try.prog).C ids.f_slices_pdqsortOrdered_api_Loc [data0, a1, b2, limit3] h R :=
  cl_of_den Go.Proofs.Try.func78 (by kernel_rfl) mixed (E_slices_pdqsortOrdered_api_Loc data0 a1 b2 limit3 h R) H

def H_math_bits_Len : HT := (.s .z (.s (.c (.s .z .z) .z) (.s .z .z)))
theorem E_math_bits_Len (x0 : Value) (h : Hp) (R : Value → Hp → Prop) : F_math_bits_Len (Sys.of Go.Proofs.Try.prog) ids x0 h R = denFn Go.Proofs.Try.prog Go.Proofs.Try.f79 H_math_bits_Len [x0] h R := by kernel_rfl
theorem C_math_bits_Len {x0 : Value} {h : Hp} {R : Value → Hp → Prop} (H : F_math_bits_Len (Sys.of Go.Proofs.Try.prog) ids x0 h R) : (Sys.of Go.Proofs.Try.prog).C ids.f_math_bits_Len [x0] h R :=
  cl_of_den Go.Proofs.Try.func79 (by kernel_rfl) mixed (E_math_bits_Len x0 h R) H

def H_space_Space_last : HT := (.s .z (.s (.s .z (.b (.l [5] [0, 1, 27] (.s (.s .z (.c .z .z)) (.s (.b (.s .z (.c (.s .z .z) .z))) .z))))) (.s .z .z)))
theorem E_space_Space_last (s0 at1 : Value) (h : Hp) (R : Value → Hp → Prop) : F_space_Space_last (Sys.of Go.Proofs.Try.prog) ids s0 at1 h R = denFn Go.Proofs.Try.prog Go.Proofs.Try.f80 H_space_Space_last [s0, at1] h R := by kernel_rfl
theorem C_space_Space_last {s0 at1 : Value} {h : Hp} {R : Value → Hp → Prop} (H : F_space_Space_last (Sys.of Go.Proofs.Try.prog) ids s0 at1 h R) : (Sys.of Go.Proofs.Try.prog).C ids.f_space_Space_last [s0, at1] h R :=
  cl_of_den Go.Proofs.Try.func80 (by kernel_rfl) mixed (E_space_Space_last s0 at1 h R) H

def H_entry_wrong : HT := (.s .z (.s (.b (.j [3] [1, 38] .z (.c (.s .z .z) (.s .z (.c (.s .z .z) (.j [17] [1, 38] .z (.c (.s .z .z) (.j [26] [38] .z (.c (.s .z .z) .z))))))))) (.s .z .z)))
theorem E_entry_wrong (x0 : Value) (h : Hp) (R : Value → Hp → Prop) : F_entry_wrong (Sys.of Go.Proofs.Try.prog) ids x0 h R = denFn Go.Proofs.Try.prog Go.Proofs.Try.f81 H_entry_wrong [x0] h R := by kernel_rfl
theorem C_entry_wrong {x0 : Value} {h : Hp} {R : Value → Hp → Prop} (H : F_entry_wrong (Sys.of Go.Proofs.Try.prog) ids x0 h R) : (Sys.of Go.Proofs.Try.prog).C ids.f_entry_wrong [x0] h R :=
  cl_of_den Go.Proofs.Try.func81 (by kernel_rfl) mixed (E_entry_wrong x0 h R) H

def H_slices_ContainsFunc_api_Entry_api_Entry : HT := (.s .z (.s .z .z))
theorem E_slices_ContainsFunc_api_Entry_api_Entry (s0 f1 : Value) (h : Hp) (R : Value → Hp → Prop) : F_slices_ContainsFunc_api_Entry_api_Entry (Sys.of Go.Proofs.Try.prog) ids s0 f1 h R = denFn Go.Proofs.Try.prog Go.Proofs.Try.f82 H_slices_ContainsFunc_api_Entry_api_Entry [s0, f1] h R := by kernel_rfl
theorem C_slices_ContainsFunc_api_Entry_api_Entry {s0 f1 : Value} {h : Hp} {R : Value → Hp → Prop} (H : F_slices_ContainsFunc_api_Entry_api_Entry (Sys.of Go.Proofs.Try.prog) ids s0 f1 h R) : (Sys.of Go.Proofs.Try.prog).C ids.f_slices_ContainsFunc_api_Entry_api_Entry [s0, f1] h R :=
  cl_of_den Go.Proofs.Try.func82 (by kernel_rfl) mixed (E_slices_ContainsFunc_api_Entry_api_Entry s0 f1 h R) H

def H_entry_Check_1 : HT := (.s .z (.s .z .z))
theorem E_entry_Check_1 (y0 v1 : Value) (h : Hp) (R : Value → Hp → Prop) : F_entry_Check_1 (Sys.of Go.Proofs.Try.prog) ids y0 v1 h R = denFn Go.Proofs.Try.prog Go.Proofs.Try.f83 H_entry_Check_1 [y0, v1] h R := by kernel_rfl
theorem C_entry_Check_1 {y0 v1 : Value} {h : Hp} {R : Value → Hp → Prop} (H : F_entry_Check_1 (Sys.of Go.Proofs.Try.prog) ids y0 v1 h R) : (Sys.of Go.Proofs.Try.prog).C ids.f_entry_Check_1 [y0, v1] h R :=
  cl_of_den Go.Proofs.Try.func83 (by kernel_rfl) mixed (E_entry_Check_1 y0 v1 h R) H

def H_simulcastref30_touch : HT := (.s .z (.s (.s .z (.c (.s .z .z) .z)) (.s .z (.s (.s .z (.c (.s .z (.s .z .z)) .z)) (.s .z (.s .z (.s (.s .z (.b (.l [7, 8, 9] [1, 2, 4, 72] (.s (.s .z (.c .z .z)) (.s (.b (.s (.s .z (.c (.s .z .z) .z)) (.j [7, 8] [1, 2, 4, 9, 72] (.j [50] [1, 2, 4, 7, 8, 9, 72] .z (.c (.s .z .z) .z)) .z))) .z))))) (.j [7] [2, 4, 72] (.s .z (.c .z .z)) (.s .z (.s .z .z))))))))))
theorem E_simulcastref30_touch (s0 at1 : Value) (h : Hp) (R : Value → Hp → Prop) : F_simulcastref30_touch (Sys.of Go.Proofs.Try.prog) ids s0 at1 h R = denFn Go.Proofs.Try.prog Go.Proofs.Try.f84 H_simulcastref30_touch [s0, at1] h R := by kernel_rfl
theorem C_simulcastref30_touch {s0 at1 : Value} {h : Hp} {R : Value → Hp → Prop} (H : F_simulcastref30_touch (Sys.of Go.Proofs.Try.prog) ids s0 at1 h R) : (Sys.of Go.Proofs.Try.prog).C ids.f_simulcastref30_touch [s0, at1] h R :=
  cl_of_den Go.Proofs.Try.func84 (by kernel_rfl) mixed (E_simulcastref30_touch s0 at1 h R) H

def H_simulcastref30_has : HT := (.s .z (.s .z (.s .z (.s (.s .z (.b (.l [7, 8] [1, 2, 39] (.s (.s .z (.c .z .z)) (.j [7] [1, 2, 8, 39] (.b (.s .z (.c .z .z))) .z))))) (.s .z .z)))))
theorem E_simulcastref30_has (s0 at1 : Value) (h : Hp) (R : Value → Hp → Prop) : F_simulcastref30_has (Sys.of Go.Proofs.Try.prog) ids s0 at1 h R = denFn Go.Proofs.Try.prog Go.Proofs.Try.f85 H_simulcastref30_has [s0, at1] h R := by kernel_rfl
theorem C_simulcastref30_has {s0 at1 : Value} {h : Hp} {R : Value → Hp → Prop} (H : F_simulcastref30_has (Sys.of Go.Proofs.Try.prog) ids s0 at1 h R) : (Sys.of Go.Proofs.Try.prog).C ids.f_simulcastref30_has [s0, at1] h R :=
  cl_of_den Go.Proofs.Try.func85 (by kernel_rfl) mixed (E_simulcastref30_has s0 at1 h R) H

def H_slices_insertionSortOrdered_api_Loc : HT := (.s .z (.b (.l [6] [0, 1, 2, 49] (.s (.s .z (.c .z .z)) (.s (.b (.s .z (.b (.l [7] [0, 1, 2, 6, 49] (.s (.j [30] [0, 1, 2, 6, 7, 49] (.o (oc [0, 1, 2, 3, 4, 5, 6, 7, 8, 9, 10, 11, 12, 13, 14] .nil)) (.c .z .z)) (.s (.b (.o (oc [0, 1, 2, 3, 4, 5, 6, 7, 8, 9, 10, 11, 12, 13, 14, 15, 16, 17] .nil))) .z)))))) .z)))))
theorem E_slices_insertionSortOrdered_api_Loc (data0 a1 b2 : Value) (h : Hp) (R : Value → Hp → Prop) : F_slices_insertionSortOrdered_api_Loc (Sys.of Go.Proofs.Try.prog) ids data0 a1 b2 h R = denFn Go.Proofs.Try.prog Go.Proofs.Try.f86 H_slices_insertionSortOrdered_api_Loc [data0, a1, b2] h R := by kernel_rfl
theorem C_slices_insertionSortOrdered_api_Loc {data0 a1 b2 : Value} {h : Hp} {R : Value → Hp → Prop} (H : F_slices_insertionSortOrdered_api_Loc (Sys.of Go.Proofs.Try.prog) ids data0 a1 b2 h R) : (Sys.of Go.Proofs.Try.prog).C ids.f_slices_insertionSortOrdered_api_Loc [data0, a1, b2] h R :=
  cl_of_den Go.Proofs.Try.func86 (by kernel_rfl) mixed (E_slices_insertionSortOrdered_api_Loc data0 a1 b2 h R) H

def H_slices_heapSortOrdered_api_Loc : HT := (.s .z (.s .z (.s .z (.s (.s .z (.b (.l [9] [0, 6, 7, 8, 56] (.s (.s .z (.c .z .z)) (.s (.b .z) .z))))) (.s .z (.b (.l [10] [0, 6, 7, 56] (.s (.s .z (.c .z .z)) (.s (.b (.s (.o (oc [0, 1, 2, 3, 4, 5, 6, 7, 8, 9, 10, 11, 12, 13, 14, 15, 16, 17, 18, 19] .nil)) .z)) .z)))))))))
theorem E_slices_heapSortOrdered_api_Loc (data0 a1 b2 : Value) (h : Hp) (R : Value → Hp → Prop) : F_slices_heapSortOrdered_api_Loc (Sys.of Go.Proofs.Try.prog) ids data0 a1 b2 h R = denFn Go.Proofs.Try.prog Go.Proofs.Try.f87 H_slices_heapSortOrdered_api_Loc [data0, a1, b2] h R := by kernel_rfl
theorem C_slices_heapSortOrdered_api_Loc {data0 a1 b2 : Value} {h : Hp} {R : Value → Hp → Prop} (H : F_slices_heapSortOrdered_api_Loc (Sys.of Go.Proofs.Try.prog) ids data0 a1 b2 h R) : (Sys.of Go.Proofs.Try.prog).C ids.f_slices_heapSortOrdered_api_Loc [data0, a1, b2] h R :=
  cl_of_den Go.Proofs.Try.func87 (by kernel_rfl) mixed (E_slices_heapSortOrdered_api_Loc data0 a1 b2 h R) H

def H_slices_breakPatternsOrdered_api_Loc : HT := (.s .z (.s .z (.c (.s .z (.s .z (.s .z (.b (.l [9] [0, 1, 6, 7, 8, 65] (.s (.s .z (.c .z .z)) (.s (.b (.s .z (.j [10] [0, 1, 6, 7, 8, 9, 65] (.s .z (.c .z .z)) (.o (oc [0, 1, 2, 3, 4, 5, 6, 7, 8, 9, 10, 11, 12, 13, 14, 15, 16, 17, 18, 19] .nil))))) .z))))))) .z)))
theorem E_slices_breakPatternsOrdered_api_Loc (data0 a1 b2 : Value) (h : Hp) (R : Value → Hp → Prop) : F_slices_breakPatternsOrdered_api_Loc (Sys.of Go.Proofs.Try.prog) ids data0 a1 b2 h R = denFn Go.Proofs.Try.prog Go.Proofs.Try.f88 H_slices_breakPatternsOrdered_api_Loc [data0, a1, b2] h R := by kernel_rfl
theorem C_slices_breakPatternsOrdered_api_Loc {data0 a1 b2 : Value} {h : Hp} {R : Value → Hp → Prop} (H : F_slices_breakPatternsOrdered_api_Loc (Sys.of Go.Proofs.Try.prog) ids data0 a1 b2 h R) : (Sys.of Go.Proofs.Try.prog).C ids.f_slices_breakPatternsOrdered_api_Loc [data0, a1, b2] h R :=
  cl_of_den Go.Proofs.Try.func88 (by kernel_rfl) mixed (E_slices_breakPatternsOrdered_api_Loc data0 a1 b2 h R) H

def H_slices_choosePivotOrdered_api_Loc : HT := (.s .z (.s .z (.s .z (.s .z (.s .z (.s .z (.j [11] [9, 57] (.s .z (.c (.j [10, 11, 12] [0, 9, 57] (.s .z (.c (.s .z (.s .z .z)) .z)) .z) .z)) (.s .z (.b (.s .z (.c (.s .z .z) (.s .z (.c (.s .z .z) (.s .z .z))))))))))))))
theorem E_slices_choosePivotOrdered_api_Loc (data0 a1 b2 : Value) (h : Hp) (R : Value → Hp → Prop) : F_slices_choosePivotOrdered_api_Loc (Sys.of Go.Proofs.Try.prog) ids data0 a1 b2 h R = denFn Go.Proofs.Try.prog Go.Proofs.Try.f89 H_slices_choosePivotOrdered_api_Loc [data0, a1, b2] h R := by kernel_rfl
theorem C_slices_choosePivotOrdered_api_Loc {data0 a1 b2 : Value} {h : Hp} {R : Value → Hp → Prop} (H : F_slices_choosePivotOrdered_api_Loc (Sys.of Go.Proofs.Try.prog) ids data0 a1 b2 h R) : (Sys.of Go.Proofs.Try.prog).C ids.f_slices_choosePivotOrdered_api_Loc [data0, a1, b2] h R :=
  cl_of_den Go.Proofs.Try.func89 (by kernel_rfl) mixed (E_slices_choosePivotOrdered_api_Loc data0 a1 b2 h R) H

def H_slices_reverseRangeOrdered_api_Loc : HT := (.s .z (.s .z (.b (.l [6, 7] [0, 32] (.s (.s .z (.c .z .z)) (.b (.s (.o (oc [0, 1, 2, 3, 4, 5, 6, 7, 8, 9, 10, 11, 12, 13, 14, 15] .nil)) (.s .z .z))))))))
theorem E_slices_reverseRangeOrdered_api_Loc (data0 a1 b2 : Value) (h : Hp) (R : Value → Hp → Prop) : F_slices_reverseRangeOrdered_api_Loc (Sys.of Go.Proofs.Try.prog) ids data0 a1 b2 h R = denFn Go.Proofs.Try.prog Go.Proofs.Try.f90 H_slices_reverseRangeOrdered_api_Loc [data0, a1, b2] h R := by kernel_rfl
theorem C_slices_reverseRangeOrdered_api_Loc {data0 a1 b2 : Value} {h : Hp} {R : Value → Hp → Prop} (H : F_slices_reverseRangeOrdered_api_Loc (Sys.of Go.Proofs.Try.prog) ids data0 a1 b2 h R) : (Sys.of Go.Proofs.Try.prog).C ids.f_slices_reverseRangeOrdered_api_Loc [data0, a1, b2] h R :=
  cl_of_den Go.Proofs.Try.func90 (by kernel_rfl) mixed (E_slices_reverseRangeOrdered_api_Loc data0 a1 b2 h R) H

def H_slices_partialInsertionSortOrdered_api_Loc : HT := (.s .z (.s .z (.s (.s .z (.b (.l [7, 8] [0, 1, 2, 133] (.s (.s .z (.c .z .z)) (.j [7] [0, 1, 2, 8, 133] (.b (.s (.b (.l [7] [0, 1, 2, 8, 133] (.s (.j [32] [0, 1, 2, 7, 8, 133] (.o (oc [0, 1, 2, 3, 4, 5, 6, 7, 8, 9, 10, 11, 12, 13, 14, 15] .nil)) (.c .z .z)) (.b .z)))) (.s (.s .z (.c (.s .z .z) .z)) (.s (.s .z (.c (.s .z .z) .z)) (.s (.o (oc [0, 1, 2, 3, 4, 5, 6, 7, 8, 9, 10, 11, 12, 13, 14, 15, 16, 17] .nil)) (.j [] [0, 1, 2, 7, 8, 133] (.s .z (.c (.s .z (.b (.l [9] [0, 1, 2, 7, 8, 133] (.s (.s .z (.c .z .z)) (.s (.b (.s (.s (.o (oc [0, 1, 2, 3, 4, 5, 6, 7, 8, 9, 10] .nil)) (.c .z .z)) (.o (oc [0, 1, 2, 3, 4, 5, 6, 7, 8, 9, 10, 11, 12, 13, 14, 15, 16, 17] .nil)))) .z))))) .z)) (.s .z (.c (.s .z (.b (.l [10] [0, 1, 2, 7, 8, 133] (.s (.s .z (.c .z .z)) (.s (.b (.s (.s (.o (oc [0, 1, 2, 3, 4, 5, 6, 7, 8, 9, 10] .nil)) (.c .z .z)) (.o (oc [0, 1, 2, 3, 4, 5, 6, 7, 8, 9, 10, 11, 12, 13, 14, 15, 16, 17] .nil)))) .z))))) .z)))))))) .z))))) (.s .z .z))))
theorem E_slices_partialInsertionSortOrdered_api_Loc (data0 a1 b2 : Value) (h : Hp) (R : Value → Hp → Prop) : F_slices_partialInsertionSortOrdered_api_Loc (Sys.of Go.Proofs.Try.prog) ids data0 a1 b2 h R = denFn Go.Proofs.Try.prog Go.Proofs.Try.f91 H_slices_partialInsertionSortOrdered_api_Loc [data0, a1, b2] h R := by kernel_rfl
theorem C_slices_partialInsertionSortOrdered_api_Loc {data0 a1 b2 : Value} {h : Hp} {R : Value → Hp → Prop} (H : F_slices_partialInsertionSortOrdered_api_Loc (Sys.of Go.Proofs.Try.prog) ids data0 a1 b2 h R) : (Sys.of Go.Proofs.Try.prog).C ids.f_slices_partialInsertionSortOrdered_api_Loc [data0, a1, b2] h R :=
  cl_of_den Go.Proofs.Try.func91 (by kernel_rfl) mixed (E_slices_partialInsertionSortOrdered_api_Loc data0 a1 b2 h R) H

def H_cmp_Less_api_Loc : HT := (.s .z (.j [4] [17] .z .z))
theorem E_cmp_Less_api_Loc (x0 y1 : Value) (h : Hp) (R : Value → Hp → Prop) : F_cmp_Less_api_Loc (Sys.of Go.Proofs.Try.prog) ids x0 y1 h R = denFn Go.Proofs.Try.prog Go.Proofs.Try.f92 H_cmp_Less_api_Loc [x0, y1] h R := by kernel_rfl
theorem C_cmp_Less_api_Loc {x0 y1 : Value} {h : Hp} {R : Value → Hp → Prop} (H : F_cmp_Less_api_Loc (Sys.of Go.Proofs.Try.prog) ids x0 y1 h R) : (Sys.of Go.Proofs.Try.prog).C ids.f_cmp_Less_api_Loc [x0, y1] h R :=
  cl_of_den Go.Proofs.Try.func92 (by kernel_rfl) mixed (E_cmp_Less_api_Loc x0 y1 h R) H

def H_slices_partitionEqualOrdered_api_Loc : HT := (.s .z (.s (.o (oc [0, 1, 2, 3, 4, 5, 6, 7, 8, 9, 10, 11, 12, 13, 14, 15] .nil)) (.s .z (.s (.b (.l [9, 10] [0, 1, 84] (.b (.s (.b (.l [9] [0, 1, 10, 84] (.s (.j [43] [0, 1, 9, 10, 84] (.o (oc [0, 1, 2, 3, 4, 5, 6, 7, 8, 9, 10, 11, 12, 13, 14] .nil)) (.c .z .z)) (.b .z)))) (.s (.b (.l [10] [0, 1, 9, 84] (.s (.j [59] [0, 1, 9, 10, 84] (.o (oc [0, 1, 2, 3, 4, 5, 6, 7, 8, 9, 10, 11, 12, 13] .nil)) (.c .z .z)) (.b .z)))) (.s (.s .z (.c .z .z)) (.s (.o (oc [0, 1, 2, 3, 4, 5, 6, 7, 8, 9, 10, 11, 12, 13, 14, 15] .nil)) (.s .z .z)))))))) (.s .z .z)))))
theorem E_slices_partitionEqualOrdered_api_Loc (data0 a1 b2 pivot3 : Value) (h : Hp) (R : Value → Hp → Prop) : F_slices_partitionEqualOrdered_api_Loc (Sys.of Go.Proofs.Try.prog) ids data0 a1 b2 pivot3 h R = denFn Go.Proofs.Try.prog Go.Proofs.Try.f93 H_slices_partitionEqualOrdered_api_Loc [data0, a1, b2, pivot3] h R := by kernel_rfl
theorem C_slices_partitionEqualOrdered_api_Loc {data0 a1 b2 pivot3 : Value} {h : Hp} {R : Value → Hp → Prop} (H : F_slices_partitionEqualOrdered_api_Loc (Sys.of Go.Proofs.Try.prog) ids data0 a1 b2 pivot3 h R) : (Sys.of Go.Proofs.Try.prog).C ids.f_slices_partitionEqualOrdered_api_Loc [data0, a1, b2, pivot3] h R :=
  cl_of_den Go.Proofs.Try.func93 (by kernel_rfl) mixed (E_slices_partitionEqualOrdered_api_Loc data0 a1 b2 pivot3 h R) H

def H_slices_partitionOrdered_api_Loc : HT := (.s .z (.s (.o (oc [0, 1, 2, 3, 4, 5, 6, 7, 8, 9, 10, 11, 12, 13, 14, 15] .nil)) (.s .z (.s (.b (.l [10] [0, 1, 11, 168] (.s (.j [43] [0, 1, 10, 11, 168] (.o (oc [0, 1, 2, 3, 4, 5, 6, 7, 8, 9, 10, 11, 12, 13] .nil)) (.c .z .z)) (.b .z)))) (.s (.b (.l [11] [0, 1, 10, 168] (.s (.j [60] [0, 1, 10, 11, 168] (.o (oc [0, 1, 2, 3, 4, 5, 6, 7, 8, 9, 10, 11, 12, 13, 14] .nil)) (.c .z .z)) (.b .z)))) (.s (.s .z (.c (.s (.o (oc [0, 1, 2, 3, 4, 5, 6, 7, 8, 9, 10, 11, 12, 13, 14, 15] .nil)) (.s .z .z)) .z)) (.s (.o (oc [0, 1, 2, 3, 4, 5, 6, 7, 8, 9, 10, 11, 12, 13, 14, 15] .nil)) (.s .z (.s .z (.s (.b (.l [10, 11] [0, 1, 168] (.b (.s (.b (.l [10] [0, 1, 11, 168] (.s (.j [112] [0, 1, 10, 11, 168] (.o (oc [0, 1, 2, 3, 4, 5, 6, 7, 8, 9, 10, 11, 12, 13] .nil)) (.c .z .z)) (.b .z)))) (.s (.b (.l [11] [0, 1, 10, 168] (.s (.j [129] [0, 1, 10, 11, 168] (.o (oc [0, 1, 2, 3, 4, 5, 6, 7, 8, 9, 10, 11, 12, 13, 14] .nil)) (.c .z .z)) (.b .z)))) (.s (.s .z (.c .z .z)) (.s (.o (oc [0, 1, 2, 3, 4, 5, 6, 7, 8, 9, 10, 11, 12, 13, 14, 15] .nil)) (.s .z .z)))))))) (.s (.o (oc [0, 1, 2, 3, 4, 5, 6, 7, 8, 9, 10, 11, 12, 13, 14, 15] .nil)) (.s .z .z))))))))))))
theorem E_slices_partitionOrdered_api_Loc (data0 a1 b2 pivot3 : Value) (h : Hp) (R : Value → Hp → Prop) : F_slices_partitionOrdered_api_Loc (Sys.of Go.Proofs.Try.prog) ids data0 a1 b2 pivot3 h R = denFn Go.Proofs.Try.prog Go.Proofs.Try.f94 H_slices_partitionOrdered_api_Loc [data0, a1, b2, pivot3] h R := by kernel_rfl
theorem C_slices_partitionOrdered_api_Loc {data0 a1 b2 pivot3 : Value} {h : Hp} {R : Value → Hp → Prop} (H : F_slices_partitionOrdered_api_Loc (Sys.of Go.Proofs.Try.prog) ids data0 a1 b2 pivot3 h R) : (Sys.of Go.Proofs.Try.prog).C ids.f_slices_partitionOrdered_api_Loc [data0, a1, b2, pivot3] h R :=
  cl_of_den Go.Proofs.Try.func94 (by kernel_rfl) mixed (E_slices_partitionOrdered_api_Loc data0 a1 b2 pivot3 h R) H

def H_math_bits_Len32 : HT := (.s .z (.j [0, 2] [19] (.s .z (.c (.s .z .z) .z)) (.j [0, 2] [19] (.s .z (.c (.s .z .z) .z)) (.s .z .z))))
theorem E_math_bits_Len32 (x0 : Value) (h : Hp) (R : Value → Hp → Prop) : F_math_bits_Len32 (Sys.of Go.Proofs.Try.prog) ids x0 h R = denFn Go.Proofs.Try.prog Go.Proofs.Try.f95 H_math_bits_Len32 [x0] h R := by kernel_rfl
theorem C_math_bits_Len32 {x0 : Value} {h : Hp} {R : Value → Hp → Prop} (H : F_math_bits_Len32 (Sys.of Go.Proofs.Try.prog) ids x0 h R) : (Sys.of Go.Proofs.Try.prog).C ids.f_math_bits_Len32 [x0] h R :=
  cl_of_den Go.Proofs.Try.func95 (by kernel_rfl) mixed (E_math_bits_Len32 x0 h R) H

def H_math_bits_Len64 : HT := (.s .z (.j [0, 2] [25] (.s .z (.c (.s .z .z) .z)) (.j [0, 2] [25] (.s .z (.c (.s .z .z) .z)) (.j [0, 2] [25] (.s .z (.c (.s .z .z) .z)) (.s .z .z)))))
theorem E_math_bits_Len64 (x0 : Value) (h : Hp) (R : Value → Hp → Prop) : F_math_bits_Len64 (Sys.of Go.Proofs.Try.prog) ids x0 h R = denFn Go.Proofs.Try.prog Go.Proofs.Try.f96 H_math_bits_Len64 [x0] h R := by kernel_rfl
theorem C_math_bits_Len64 {x0 : Value} {h : Hp} {R : Value → Hp → Prop} (H : F_math_bits_Len64 (Sys.of Go.Proofs.Try.prog) ids x0 h R) : (Sys.of Go.Proofs.Try.prog).C ids.f_math_bits_Len64 [x0] h R :=
  cl_of_den Go.Proofs.Try.func96 (by kernel_rfl) mixed (E_math_bits_Len64 x0 h R) H

def H_word_Plain : HT := (.s .z (.s .z .z))
theorem E_word_Plain (w0 : Value) (h : Hp) (R : Value → Hp → Prop) : F_word_Plain (Sys.of Go.Proofs.Try.prog) ids w0 h R = denFn Go.Proofs.Try.prog Go.Proofs.Try.f97 H_word_Plain [w0] h R := by kernel_rfl
theorem C_word_Plain {w0 : Value} {h : Hp} {R : Value → Hp → Prop} (H : F_word_Plain (Sys.of Go.Proofs.Try.prog) ids w0 h R) : (Sys.of Go.Proofs.Try.prog).C ids.f_word_Plain [w0] h R :=
  cl_of_den Go.Proofs.Try.func97 (by kernel_rfl) mixed (E_word_Plain w0 h R) H

def H_slices_IndexFunc_api_Entry_api_Entry : HT := (.s .z (.s (.s .z (.b (.l [8] [0, 1, 7, 19] (.s .z (.s (.c .z .z) (.s (.b (.s .z (.s .z (.c (.s .z .z) .z)))) .z)))))) (.s .z .z)))
theorem E_slices_IndexFunc_api_Entry_api_Entry (s0 f1 : Value) (h : Hp) (R : Value → Hp → Prop) : F_slices_IndexFunc_api_Entry_api_Entry (Sys.of Go.Proofs.Try.prog) ids s0 f1 h R = denFn Go.Proofs.Try.prog Go.Proofs.Try.f98 H_slices_IndexFunc_api_Entry_api_Entry [s0, f1] h R := by kernel_rfl
theorem C_slices_IndexFunc_api_Entry_api_Entry {s0 f1 : Value} {h : Hp} {R : Value → Hp → Prop} (H : F_slices_IndexFunc_api_Entry_api_Entry (Sys.of Go.Proofs.Try.prog) ids s0 f1 h R) : (Sys.of Go.Proofs.Try.prog).C ids.f_slices_IndexFunc_api_Entry_api_Entry [s0, f1] h R :=
  cl_of_den Go.Proofs.Try.func98 (by kernel_rfl) mixed (E_slices_IndexFunc_api_Entry_api_Entry s0 f1 h R) H

def H_simulcastref30_find : HT := (.s .z (.s (.s .z (.b (.l [6] [1, 2, 4, 39] (.s (.s .z (.c .z .z)) (.s (.b (.j [31] [1, 2, 4, 6, 39] .z (.c (.s .z .z) .z))) .z))))) (.s .z .z)))
theorem E_simulcastref30_find (s0 at1 : Value) (h : Hp) (R : Value → Hp → Prop) : F_simulcastref30_find (Sys.of Go.Proofs.Try.prog) ids s0 at1 h R = denFn Go.Proofs.Try.prog Go.Proofs.Try.f99 H_simulcastref30_find [s0, at1] h R := by kernel_rfl
theorem C_simulcastref30_find {s0 at1 : Value} {h : Hp} {R : Value → Hp → Prop} (H : F_simulcastref30_find (Sys.of Go.Proofs.Try.prog) ids s0 at1 h R) : (Sys.of Go.Proofs.Try.prog).C ids.f_simulcastref30_find [s0, at1] h R :=
  cl_of_den Go.Proofs.Try.func99 (by kernel_rfl) mixed (E_simulcastref30_find s0 at1 h R) H

def H_slices_siftDownOrdered_api_Loc : HT := (.s .z (.b (.l [8] [0, 2, 3, 76] (.b (.s .z (.s (.s .z (.c .z .z)) (.j [9] [0, 2, 3, 8, 76] (.j [36] [0, 2, 3, 8, 9, 76] (.o (oc [0, 1, 2, 3, 4, 5, 6, 7, 8, 9, 10, 11, 12, 13, 14, 15, 16, 17, 18, 19] .nil)) (.c .z .z)) (.s (.s (.o (oc [0, 1, 2, 3, 4, 5, 6, 7, 8, 9, 10, 11, 12, 13] .nil)) (.c .z .z)) (.s (.o (oc [0, 1, 2, 3, 4, 5, 6, 7, 8, 9, 10, 11, 12, 13, 14, 15, 16, 17, 18, 19, 20, 21, 22, 23] .nil)) .z)))))))))
theorem E_slices_siftDownOrdered_api_Loc (data0 lo1 hi2 first3 : Value) (h : Hp) (R : Value → Hp → Prop) : F_slices_siftDownOrdered_api_Loc (Sys.of Go.Proofs.Try.prog) ids data0 lo1 hi2 first3 h R = denFn Go.Proofs.Try.prog Go.Proofs.Try.f100 H_slices_siftDownOrdered_api_Loc [data0, lo1, hi2, first3] h R := by kernel_rfl
theorem C_slices_siftDownOrdered_api_Loc {data0 lo1 hi2 first3 : Value} {h : Hp} {R : Value → Hp → Prop} (H : F_slices_siftDownOrdered_api_Loc (Sys.of Go.Proofs.Try.prog) ids data0 lo1 hi2 first3 h R) : (Sys.of Go.Proofs.Try.prog).C ids.f_slices_siftDownOrdered_api_Loc [data0, lo1, hi2, first3] h R :=
  cl_of_den Go.Proofs.Try.func100 (by kernel_rfl) mixed (E_slices_siftDownOrdered_api_Loc data0 lo1 hi2 first3 h R) H

def H_slices_nextPowerOfTwo : HT := (.s .z (.s .z .z))
theorem E_slices_nextPowerOfTwo (length0 : Value) (h : Hp) (R : Value → Hp → Prop) : F_slices_nextPowerOfTwo (Sys.of Go.Proofs.Try.prog) ids length0 h R = denFn Go.Proofs.Try.prog Go.Proofs.Try.f101 H_slices_nextPowerOfTwo [length0] h R := by kernel_rfl
theorem C_slices_nextPowerOfTwo {length0 : Value} {h : Hp} {R : Value → Hp → Prop} (H : F_slices_nextPowerOfTwo (Sys.of Go.Proofs.Try.prog) ids length0 h R) : (Sys.of Go.Proofs.Try.prog).C ids.f_slices_nextPowerOfTwo [length0] h R :=
  cl_of_den Go.Proofs.Try.func101 (by kernel_rfl) mixed (E_slices_nextPowerOfTwo length0 h R) H

def H_slices_xorshift_Next : HT := (.s .z (.s (.o (oc [0, 1, 2, 3, 4, 5, 6, 7, 8, 9] .nil)) (.s (.o (oc [0, 1, 2, 3, 4, 5, 6, 7, 8, 9] .nil)) (.s (.o (oc [0, 1, 2, 3, 4, 5, 6, 7, 8, 9] .nil)) (.s .z .z)))))
theorem E_slices_xorshift_Next (r0 : Value) (h : Hp) (R : Value → Hp → Prop) : F_slices_xorshift_Next (Sys.of Go.Proofs.Try.prog) ids r0 h R = denFn Go.Proofs.Try.prog Go.Proofs.Try.f102 H_slices_xorshift_Next [r0] h R := by kernel_rfl
theorem C_slices_xorshift_Next {r0 : Value} {h : Hp} {R : Value → Hp → Prop} (H : F_slices_xorshift_Next (Sys.of Go.Proofs.Try.prog) ids r0 h R) : (Sys.of Go.Proofs.Try.prog).C ids.f_slices_xorshift_Next [r0] h R :=
  cl_of_den Go.Proofs.Try.func102 (by kernel_rfl) mixed (E_slices_xorshift_Next r0 h R) H

def H_slices_medianAdjacentOrdered_api_Loc : HT := (.s .z (.s .z .z))
theorem E_slices_medianAdjacentOrdered_api_Loc (data0 a1 swaps2 : Value) (h : Hp) (R : Value → Hp → Prop) : F_slices_medianAdjacentOrdered_api_Loc (Sys.of Go.Proofs.Try.prog) ids data0 a1 swaps2 h R = denFn Go.Proofs.Try.prog Go.Proofs.Try.f103 H_slices_medianAdjacentOrdered_api_Loc [data0, a1, swaps2] h R := by kernel_rfl
theorem C_slices_medianAdjacentOrdered_api_Loc {data0 a1 swaps2 : Value} {h : Hp} {R : Value → Hp → Prop} (H : F_slices_medianAdjacentOrdered_api_Loc (Sys.of Go.Proofs.Try.prog) ids data0 a1 swaps2 h R) : (Sys.of Go.Proofs.Try.prog).C ids.f_slices_medianAdjacentOrdered_api_Loc [data0, a1, swaps2] h R :=
  cl_of_den Go.Proofs.Try.func103 (by kernel_rfl) mixed (E_slices_medianAdjacentOrdered_api_Loc data0 a1 swaps2 h R) H

def H_slices_medianOrdered_api_Loc : HT := (.s .z (.s .z (.s .z (.s .z (.s .z .z)))))
theorem E_slices_medianOrdered_api_Loc (data0 a1 b2 c3 swaps4 : Value) (h : Hp) (R : Value → Hp → Prop) : F_slices_medianOrdered_api_Loc (Sys.of Go.Proofs.Try.prog) ids data0 a1 b2 c3 swaps4 h R = denFn Go.Proofs.Try.prog Go.Proofs.Try.f104 H_slices_medianOrdered_api_Loc [data0, a1, b2, c3, swaps4] h R := by kernel_rfl
theorem C_slices_medianOrdered_api_Loc {data0 a1 b2 c3 swaps4 : Value} {h : Hp} {R : Value → Hp → Prop} (H : F_slices_medianOrdered_api_Loc (Sys.of Go.Proofs.Try.prog) ids data0 a1 b2 c3 swaps4 h R) : (Sys.of Go.Proofs.Try.prog).C ids.f_slices_medianOrdered_api_Loc [data0, a1, b2, c3, swaps4] h R :=
  cl_of_den Go.Proofs.Try.func104 (by kernel_rfl) mixed (E_slices_medianOrdered_api_Loc data0 a1 b2 c3 swaps4 h R) H

def H_cmp_isNaN_api_Loc : HT := (.s .z (.s .z .z))
theorem E_cmp_isNaN_api_Loc (x0 : Value) (h : Hp) (R : Value → Hp → Prop) : F_cmp_isNaN_api_Loc (Sys.of Go.Proofs.Try.prog) ids x0 h R = denFn Go.Proofs.Try.prog Go.Proofs.Try.f105 H_cmp_isNaN_api_Loc [x0] h R := by kernel_rfl
theorem C_cmp_isNaN_api_Loc {x0 : Value} {h : Hp} {R : Value → Hp → Prop} (H : F_cmp_isNaN_api_Loc (Sys.of Go.Proofs.Try.prog) ids x0 h R) : (Sys.of Go.Proofs.Try.prog).C ids.f_cmp_isNaN_api_Loc [x0] h R :=
  cl_of_den Go.Proofs.Try.func105 (by kernel_rfl) mixed (E_cmp_isNaN_api_Loc x0 h R) H

def H_word_kind : HT := (.s .z (.s .z (.s (.b (.s .z (.c (.s .z .z) (.s .z (.c (.s .z .z) .z))))) (.s .z .z))))
theorem E_word_kind (w0 : Value) (h : Hp) (R : Value → Hp → Prop) : F_word_kind (Sys.of Go.Proofs.Try.prog) ids w0 h R = denFn Go.Proofs.Try.prog Go.Proofs.Try.f106 H_word_kind [w0] h R := by kernel_rfl
theorem C_word_kind {w0 : Value} {h : Hp} {R : Value → Hp → Prop} (H : F_word_kind (Sys.of Go.Proofs.Try.prog) ids w0 h R) : (Sys.of Go.Proofs.Try.prog).C ids.f_word_kind [w0] h R :=
  cl_of_den Go.Proofs.Try.func106 (by kernel_rfl) mixed (E_word_kind w0 h R) H

def H_slices_order2Ordered_api_Loc : HT := (.s .z (.s (.s (.o (oc [0, 1, 2, 3, 4, 5, 6, 7, 8] .nil)) (.c (.s .z (.s .z .z)) .z)) (.s .z .z)))
theorem E_slices_order2Ordered_api_Loc (data0 a1 b2 swaps3 : Value) (h : Hp) (R : Value → Hp → Prop) : F_slices_order2Ordered_api_Loc (Sys.of Go.Proofs.Try.prog) ids data0 a1 b2 swaps3 h R = denFn Go.Proofs.Try.prog Go.Proofs.Try.f107 H_slices_order2Ordered_api_Loc [data0, a1, b2, swaps3] h R := by kernel_rfl
theorem C_slices_order2Ordered_api_Loc {data0 a1 b2 swaps3 : Value} {h : Hp} {R : Value → Hp → Prop} (H : F_slices_order2Ordered_api_Loc (Sys.of Go.Proofs.Try.prog) ids data0 a1 b2 swaps3 h R) : (Sys.of Go.Proofs.Try.prog).C ids.f_slices_order2Ordered_api_Loc [data0, a1, b2, swaps3] h R :=
  cl_of_den Go.Proofs.Try.func107 (by kernel_rfl) mixed (E_slices_order2Ordered_api_Loc data0 a1 b2 swaps3 h R) H

def H_word_Who : HT := (.s .z (.s .z (.s (.s .z (.s .z (.c (.s .z .z) .z))) (.s .z .z))))
theorem E_word_Who (ref0 : Value) (h : Hp) (R : Value → Hp → Prop) : F_word_Who (Sys.of Go.Proofs.Try.prog) ids ref0 h R = denFn Go.Proofs.Try.prog Go.Proofs.Try.f108 H_word_Who [ref0] h R := by kernel_rfl
theorem C_word_Who {ref0 : Value} {h : Hp} {R : Value → Hp → Prop} (H : F_word_Who (Sys.of Go.Proofs.Try.prog) ids ref0 h R) : (Sys.of Go.Proofs.Try.prog).C ids.f_word_Who [ref0] h R :=
  cl_of_den Go.Proofs.Try.func108 (by kernel_rfl) mixed (E_word_Who ref0 h R) H

def H_word_Ref : HT := (.s .z (.s (.j [19] [0, 1, 26] .z (.c (.s .z .z) .z)) (.s .z .z)))
theorem E_word_Ref (who0 seq1 : Value) (h : Hp) (R : Value → Hp → Prop) : F_word_Ref (Sys.of Go.Proofs.Try.prog) ids who0 seq1 h R = denFn Go.Proofs.Try.prog Go.Proofs.Try.f109 H_word_Ref [who0, seq1] h R := by kernel_rfl
theorem C_word_Ref {who0 seq1 : Value} {h : Hp} {R : Value → Hp → Prop} (H : F_word_Ref (Sys.of Go.Proofs.Try.prog) ids who0 seq1 h R) : (Sys.of Go.Proofs.Try.prog).C ids.f_word_Ref [who0, seq1] h R :=
  cl_of_den Go.Proofs.Try.func109 (by kernel_rfl) mixed (E_word_Ref who0 seq1 h R) H

end Go.En
