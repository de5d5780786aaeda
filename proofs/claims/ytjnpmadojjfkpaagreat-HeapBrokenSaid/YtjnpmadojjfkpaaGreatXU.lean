/-
  The clean texts are what the engine reads off the program: by the kernel.
-/
import Derived.Test.YtjnpmadojjfkpaaGreatXT
import Derived.Test.YtjnpmadojjfkpaaGreatProg
import Derived.KernelRfl
namespace Go.En
set_option maxRecDepth 100000

/-- the numbers in this translation -/
def ids : Ids := { f_simulcastlaw38_HeapPlays := 3, f_simulcastlaw38_HeapSorts := 4, f_simulcastlaw38_HeapStands := 5, f_simulcastlaw38_HeapHandles := 6, f_simulcastlaw38_HeapFew := 7, f_simulcastlaw38_HeapBroken := 8, f_simulcastlaw38_HeapMerges := 9, f_simulcastlaw38_great := 10, f_simulcastlaw38_awake := 11, f_simulcastlaw38_played := 12, f_simulcastlaw33_World_Done := 13, f_simulcastlaw38_HeapSorts_1 := 14, f_heap_Heap_Walk := 15, f_simulcastlaw38_HeapSorts_2 := 16, f_heap_Heap_Push := 17, f_simulcastlaw38_HeapSorts_3 := 18, f_heap_Heap_Pop := 19, f_simulcastlaw38_odd := 20, f_simulcastlaw38_HeapStands_1 := 21, f_simulcastlaw38_state_row := 22, f_pool_Pool_Node := 23, f_simulcastref38_Find := 24, f_simulcastlaw38_HeapHandles_1 := 25, f_heap_Heap_Lower := 26, f_simulcastlaw38_HeapHandles_2 := 27, f_heap_Heap_Drop := 28, f_simulcastlaw33_Alike := 29, f_simulcastlaw38_step := 30, f_simulcastlaw33_Fresh := 31, f_simulcastlaw38_made := 32, f_simulcastlaw38_HeapBroken_1 := 33, f_simulcastlaw38_HeapBroken_2 := 34, f_heap_Heap_Min := 35, f_space_New := 36, f_heap_Heap_Len := 37, f_pool_Pool_Left := 38, f_space_Space_Ended := 39, f_simulcastlaw38_awake_1 := 40, f_slices_Equal_int64_int64 := 41, f_simulcastlaw38_is := 42, f_space_Space_Entries := 43, f_space_Space_Writes := 44, f_space_Space_Get := 45, f_heap_work_many := 46, f_heap_work_item := 47, f_slices_SortStableFunc_api_Loc_api_Loc := 48, f_heap_Heap_Walk_1 := 49, f_heap_work_key := 50, f_heap_ahead := 51, f_heap_work_get := 52, f_heap_work_none := 53, f_heap_work_end := 54, f_space_Space_Mark := 55, f_heap_work_root := 56, f_heap_work_take := 57, f_space_Space_Put := 58, f_heap_work_put := 59, f_heap_work_add := 60, f_heap_work_rise := 61, f_heap_work_remove := 62, f_pool_Pool_Check := 63, f_heap_work_find := 64, f_simulcastlaw38_step_1 := 65, f_simulcastref38_Without := 66, f_simulcastref38_Put := 67, f_simulcastref38_Nodes := 68, f_slices_Clone_int64_int64 := 69, f_simulcastlaw38_is_1 := 70, f_space_Space_Reads := 71, f_space_Space_value := 72, f_entry_Check := 73, f_slices_Sort_api_Loc_api_Loc := 74, f_slices_Compact_api_Loc_api_Loc := 75, f_space_Space_reads := 76, f_heap_work_row := 77, f_heap_work_node := 78, f_slices_stableCmpFunc_api_Loc := 79, f_space_Space_Back := 80, f_pool_Pool_Take := 81, f_heap_work_lay := 82, f_heap_work_sink := 83, f_heap_work_give := 84, f_simulcastref38_ahead := 85, f_space_Space_last := 86, f_entry_wrong := 87, f_slices_ContainsFunc_api_Entry_api_Entry := 88, f_entry_Check_1 := 89, f_slices_pdqsortOrdered_api_Loc := 90, f_math_bits_Len := 91, f_slices_insertionSortCmpFunc_api_Loc := 92, f_slices_symMergeCmpFunc_api_Loc := 93, f_pool_Pool_add := 94, f_pool_Pool_Give := 95, f_word_Plain := 96, f_slices_IndexFunc_api_Entry_api_Entry := 97, f_slices_insertionSortOrdered_api_Loc := 98, f_slices_heapSortOrdered_api_Loc := 99, f_slices_breakPatternsOrdered_api_Loc := 100, f_slices_choosePivotOrdered_api_Loc := 101, f_slices_reverseRangeOrdered_api_Loc := 102, f_slices_partialInsertionSortOrdered_api_Loc := 103, f_cmp_Less_api_Loc := 104, f_slices_partitionEqualOrdered_api_Loc := 105, f_slices_partitionOrdered_api_Loc := 106, f_math_bits_Len32 := 107, f_math_bits_Len64 := 108, f_slices_rotateCmpFunc_api_Loc := 109, f_word_kind := 110, f_slices_siftDownOrdered_api_Loc := 111, f_slices_nextPowerOfTwo := 112, f_slices_xorshift_Next := 113, f_slices_medianAdjacentOrdered_api_Loc := 114, f_slices_medianOrdered_api_Loc := 115, f_cmp_isNaN_api_Loc := 116, f_slices_swapRangeCmpFunc_api_Loc := 117, f_word_Who := 118, f_slices_order2Ordered_api_Loc := 119, f_word_Ref := 120, t_int64 := 2, t_int := 3, t_bool := 4, t_api_Loc := 27, t_pool_Pool := 29, t_heap_Heap := 31, t_s_int64 := 33, t_simulcastlaw38_state := 35, t_s_2_int64 := 41, t_api_Errno := 46, t_2_int64 := 50, t_2_int8 := 52, t_api_Word := 57, t_simulcastref38_Item := 68, t_simulcastlaw38_Call := 74, t_api_Entry := 89, t_p_heap_work := 94, t_heap_work := 96, t_heap_key := 101, t_space_Space := 129, t_space_put := 133, t_slices_xorshift := 171 }
theorem mixed : Go.Proofs.Tryz.prog.follows .mixedOrders = true := by kernel_rfl

def H_simulcastlaw38_HeapPlays : HT := (.s .z (.s (.s .z (.c (.s .z .z) .z)) (.s .z (.j [4] [20] .z .z))))
theorem E_simulcastlaw38_HeapPlays (n0 l1 : Value) (h : Hp) (R : Value → Hp → Prop) : F_simulcastlaw38_HeapPlays (Sys.of Go.Proofs.Tryz.prog) ids n0 l1 h R = denFn Go.Proofs.Tryz.prog Go.Proofs.Tryz.f3 H_simulcastlaw38_HeapPlays [n0, l1] h R := by kernel_rfl
theorem C_simulcastlaw38_HeapPlays {n0 l1 : Value} {h : Hp} {R : Value → Hp → Prop} (H : F_simulcastlaw38_HeapPlays (Sys.of Go.Proofs.Tryz.prog) ids n0 l1 h R) : (Sys.of Go.Proofs.Tryz.prog).C ids.f_simulcastlaw38_HeapPlays [n0, l1] h R :=
  cl_of_den Go.Proofs.Tryz.func3 (by kernel_rfl) mixed (E_simulcastlaw38_HeapPlays n0 l1 h R) H

def H_simulcastlaw38_HeapSorts : HT := (.s .z (.s (.j [37] [0, 1, 2, 195] .z (.c (.s .z .z) .z)) (.s .z (.s (.s .z (.c (.s .z .z) .z)) (.s .z (.s .z (.s .z (.s (.s .z (.b (.l [54] [1, 2, 7, 9, 52, 53, 195] (.s .z (.s (.c .z .z) (.s (.b (.s .z .z)) .z)))))) (.s .z (.s (.s .z (.b (.l [13, 68] [1, 7, 9, 66, 67, 195] (.s .z (.s (.c .z .z) (.j [13] [1, 7, 9, 66, 67, 68, 195] (.b (.s .z (.s .z (.s .z (.s .z (.s (.j [91] [1, 7, 9, 16, 17, 18, 66, 67, 68, 195] .z (.c (.s .z .z) .z)) (.s .z (.s .z (.c .z .z))))))))) .z)))))) (.s .z (.s (.s .z (.b (.l [13, 22] [1, 7, 9, 21, 195] (.s (.s .z (.c .z .z)) (.s (.b (.s .z (.s .z (.s .z (.s (.j [129] [1, 7, 9, 21, 22, 23, 24, 26, 195] .z (.c (.s .z .z) .z)) (.s (.j [163] [1, 7, 9, 21, 22, 23, 24, 26, 195] .z (.c (.s .z .z) .z)) (.s (.j [171] [1, 7, 9, 21, 22, 23, 24, 26, 195] .z (.c (.s .z .z) .z)) (.s .z .z)))))))) .z))))) (.s (.s .z (.b (.l [] [13, 181, 195] (.s .z (.s (.c .z .z) (.b (.s .z (.s .z (.c (.s .z .z) .z))))))))) (.j [6] [195] .z .z))))))))))))))
theorem E_simulcastlaw38_HeapSorts (n0 l1 more2 : Value) (h : Hp) (R : Value → Hp → Prop) : F_simulcastlaw38_HeapSorts (Sys.of Go.Proofs.Tryz.prog) ids n0 l1 more2 h R = denFn Go.Proofs.Tryz.prog Go.Proofs.Tryz.f4 H_simulcastlaw38_HeapSorts [n0, l1, more2] h R := by kernel_rfl
theorem C_simulcastlaw38_HeapSorts {n0 l1 more2 : Value} {h : Hp} {R : Value → Hp → Prop} (H : F_simulcastlaw38_HeapSorts (Sys.of Go.Proofs.Tryz.prog) ids n0 l1 more2 h R) : (Sys.of Go.Proofs.Tryz.prog).C ids.f_simulcastlaw38_HeapSorts [n0, l1, more2] h R :=
  cl_of_den Go.Proofs.Tryz.func4 (by kernel_rfl) mixed (E_simulcastlaw38_HeapSorts n0 l1 more2 h R) H

def H_simulcastlaw38_HeapStands : HT := (.s .z (.s (.s .z (.c (.s .z .z) .z)) (.s .z (.s (.s .z (.c (.s .z .z) .z)) (.s .z (.s .z (.s (.s .z (.b (.l [9] [5, 7, 8, 167] (.s (.s .z (.c .z .z)) (.s (.b (.s .z (.s (.s .z (.j [66] [5, 7, 8, 9, 11, 167] .z (.c (.s .z .z) .z))) (.s .z (.b (.l [14] [5, 7, 8, 9, 11, 167] (.s (.j [78] [5, 7, 8, 9, 11, 14, 167] .z (.c .z .z)) (.s (.b (.s .z (.j [105] [5, 7, 8, 9, 11, 14, 167] .z (.c (.s .z .z) .z)))) .z)))))))) .z))))) (.s (.s .z (.b (.l [106] [5, 8, 167] (.s .z (.s (.c .z .z) (.s (.b (.s .z (.s .z (.c (.s .z .z) .z)))) .z)))))) (.s (.s .z (.b (.l [125] [5, 123, 124, 167] (.s .z (.s (.c .z .z) (.s (.b (.s .z (.s .z (.j [164] [5, 123, 124, 125, 167] (.o (oc [0, 1, 2, 3, 4, 5, 6, 7, 8, 9, 10, 11, 12, 13, 14, 15, 16, 17, 18, 19, 20, 21, 22, 23, 24, 25, 26, 27, 28, 29, 30] .nil)) (.c (.s .z .z) .z))))) .z)))))) (.s .z .z))))))))))
theorem E_simulcastlaw38_HeapStands (n0 l1 : Value) (h : Hp) (R : Value → Hp → Prop) : F_simulcastlaw38_HeapStands (Sys.of Go.Proofs.Tryz.prog) ids n0 l1 h R = denFn Go.Proofs.Tryz.prog Go.Proofs.Tryz.f5 H_simulcastlaw38_HeapStands [n0, l1] h R := by kernel_rfl
theorem C_simulcastlaw38_HeapStands {n0 l1 : Value} {h : Hp} {R : Value → Hp → Prop} (H : F_simulcastlaw38_HeapStands (Sys.of Go.Proofs.Tryz.prog) ids n0 l1 h R) : (Sys.of Go.Proofs.Tryz.prog).C ids.f_simulcastlaw38_HeapStands [n0, l1] h R :=
  cl_of_den Go.Proofs.Tryz.func5 (by kernel_rfl) mixed (E_simulcastlaw38_HeapStands n0 l1 h R) H

def H_simulcastlaw38_HeapHandles : HT := (.s .z (.s (.s .z (.c (.s .z .z) .z)) (.s .z (.s (.s .z (.c (.s .z .z) .z)) (.s .z (.s (.s .z (.b (.l [9, 10] [5, 7, 107] (.s (.s .z (.c .z .z)) (.j [9] [5, 7, 10, 107] (.b (.o (oc [0, 1, 2, 3, 4, 5, 9, 6, 7, 8, 10, 11, 12] .nil))) .z))))) (.s .z (.s .z (.s .z (.s (.j [82] [7, 9, 11, 12, 13, 16, 107] .z (.c (.s .z .z) .z)) (.j [6] [107] .z .z)))))))))))
theorem E_simulcastlaw38_HeapHandles (n0 l1 x2 : Value) (h : Hp) (R : Value → Hp → Prop) : F_simulcastlaw38_HeapHandles (Sys.of Go.Proofs.Tryz.prog) ids n0 l1 x2 h R = denFn Go.Proofs.Tryz.prog Go.Proofs.Tryz.f6 H_simulcastlaw38_HeapHandles [n0, l1, x2] h R := by kernel_rfl
theorem C_simulcastlaw38_HeapHandles {n0 l1 x2 : Value} {h : Hp} {R : Value → Hp → Prop} (H : F_simulcastlaw38_HeapHandles (Sys.of Go.Proofs.Tryz.prog) ids n0 l1 x2 h R) : (Sys.of Go.Proofs.Tryz.prog).C ids.f_simulcastlaw38_HeapHandles [n0, l1, x2] h R :=
  cl_of_den Go.Proofs.Tryz.func6 (by kernel_rfl) mixed (E_simulcastlaw38_HeapHandles n0 l1 x2 h R) H

def H_simulcastlaw38_HeapFew : HT := (.s .z (.s (.s .z (.c (.s .z .z) .z)) (.s .z (.s .z (.s .z (.s (.j [38] [5, 7, 9, 78] .z (.c (.s .z .z) .z)) (.s .z (.s (.s .z (.b (.l [11, 12] [5, 7, 9, 78] (.s (.s .z (.c .z .z)) (.j [11] [5, 7, 9, 12, 78] (.b (.s (.o (oc [0, 1, 2, 3, 4, 5, 6, 7] .nil)) (.j [70] [5, 7, 9, 11, 12, 78] .z (.c .z .z)))) .z))))) (.j [6] [78] .z .z)))))))))
theorem E_simulcastlaw38_HeapFew (n0 l1 c2 : Value) (h : Hp) (R : Value → Hp → Prop) : F_simulcastlaw38_HeapFew (Sys.of Go.Proofs.Tryz.prog) ids n0 l1 c2 h R = denFn Go.Proofs.Tryz.prog Go.Proofs.Tryz.f7 H_simulcastlaw38_HeapFew [n0, l1, c2] h R := by kernel_rfl
theorem C_simulcastlaw38_HeapFew {n0 l1 c2 : Value} {h : Hp} {R : Value → Hp → Prop} (H : F_simulcastlaw38_HeapFew (Sys.of Go.Proofs.Tryz.prog) ids n0 l1 c2 h R) : (Sys.of Go.Proofs.Tryz.prog).C ids.f_simulcastlaw38_HeapFew [n0, l1, c2] h R :=
  cl_of_den Go.Proofs.Tryz.func7 (by kernel_rfl) mixed (E_simulcastlaw38_HeapFew n0 l1 c2 h R) H

def H_simulcastlaw38_HeapBroken : HT := (.s .z (.s (.s .z (.c (.s .z .z) .z)) (.s .z (.s (.s .z (.b (.l [28] [1, 5, 7, 26, 27, 94] (.s .z (.s (.c .z .z) (.s (.b (.s .z .z)) .z)))))) (.s .z (.s .z (.s .z (.s .z (.s .z (.j [6] [94] .z .z))))))))))
theorem E_simulcastlaw38_HeapBroken (vals0 n1 c2 : Value) (h : Hp) (R : Value → Hp → Prop) : F_simulcastlaw38_HeapBroken (Sys.of Go.Proofs.Tryz.prog) ids vals0 n1 c2 h R = denFn Go.Proofs.Tryz.prog Go.Proofs.Tryz.f8 H_simulcastlaw38_HeapBroken [vals0, n1, c2] h R := by kernel_rfl
theorem C_simulcastlaw38_HeapBroken {vals0 n1 c2 : Value} {h : Hp} {R : Value → Hp → Prop} (H : F_simulcastlaw38_HeapBroken (Sys.of Go.Proofs.Tryz.prog) ids vals0 n1 c2 h R) : (Sys.of Go.Proofs.Tryz.prog).C ids.f_simulcastlaw38_HeapBroken [vals0, n1, c2] h R :=
  cl_of_den Go.Proofs.Tryz.func8 (by kernel_rfl) mixed (E_simulcastlaw38_HeapBroken vals0 n1 c2 h R) H

def H_simulcastlaw38_HeapMerges : HT := (.s .z (.s (.s .z (.c (.s .z .z) .z)) (.s .z (.s .z (.s .z (.s .z (.s (.s .z (.b (.l [32] [0, 1, 5, 6, 7, 31, 137] (.s .z (.s (.c .z .z) (.s (.b (.s .z (.s .z (.s (.o (oc [0, 1, 2, 3, 4, 5, 6, 7, 8, 9, 10, 11, 12, 13, 14, 15, 16, 17, 18, 19] .nil)) (.s .z (.j [80] [0, 1, 5, 6, 7, 31, 32, 137] .z (.c (.s .z .z) .z))))))) .z)))))) (.s (.s .z (.b (.l [84] [5, 6, 7, 83, 137] (.s .z (.s (.c .z .z) (.s (.b (.s .z (.s .z (.j [110] [5, 6, 7, 83, 84, 137] .z (.c (.s .z .z) .z))))) .z)))))) (.j [4] [137] .z .z)))))))))
theorem E_simulcastlaw38_HeapMerges (items0 turn1 : Value) (h : Hp) (R : Value → Hp → Prop) : F_simulcastlaw38_HeapMerges (Sys.of Go.Proofs.Tryz.prog) ids items0 turn1 h R = denFn Go.Proofs.Tryz.prog Go.Proofs.Tryz.f9 H_simulcastlaw38_HeapMerges [items0, turn1] h R := by kernel_rfl
theorem C_simulcastlaw38_HeapMerges {items0 turn1 : Value} {h : Hp} {R : Value → Hp → Prop} (H : F_simulcastlaw38_HeapMerges (Sys.of Go.Proofs.Tryz.prog) ids items0 turn1 h R) : (Sys.of Go.Proofs.Tryz.prog).C ids.f_simulcastlaw38_HeapMerges [items0, turn1] h R :=
  cl_of_den Go.Proofs.Tryz.func9 (by kernel_rfl) mixed (E_simulcastlaw38_HeapMerges items0 turn1 h R) H

def H_simulcastlaw38_great : HT := (.s .z (.s .z .z))
theorem E_simulcastlaw38_great (l0 : Value) (h : Hp) (R : Value → Hp → Prop) : F_simulcastlaw38_great (Sys.of Go.Proofs.Tryz.prog) ids l0 h R = denFn Go.Proofs.Tryz.prog Go.Proofs.Tryz.f10 H_simulcastlaw38_great [l0] h R := by kernel_rfl
theorem C_simulcastlaw38_great {l0 : Value} {h : Hp} {R : Value → Hp → Prop} (H : F_simulcastlaw38_great (Sys.of Go.Proofs.Tryz.prog) ids l0 h R) : (Sys.of Go.Proofs.Tryz.prog).C ids.f_simulcastlaw38_great [l0] h R :=
  cl_of_den Go.Proofs.Tryz.func10 (by kernel_rfl) mixed (E_simulcastlaw38_great l0 h R) H

def H_simulcastlaw38_awake : HT := (.s .z (.s .z (.s (.s .z (.c (.s .z .z) .z)) (.s .z (.s (.s .z (.b (.l [18] [1, 3, 50] (.s .z (.s (.c .z .z) (.s (.b (.s .z (.s (.s .z (.c (.s .z .z) .z)) .z))) .z)))))) (.j [0] [50] .z .z))))))
theorem E_simulcastlaw38_awake (h : Hp) (R : Value → Hp → Prop) : F_simulcastlaw38_awake (Sys.of Go.Proofs.Tryz.prog) ids h R = denFn Go.Proofs.Tryz.prog Go.Proofs.Tryz.f11 H_simulcastlaw38_awake [] h R := by kernel_rfl
theorem C_simulcastlaw38_awake {h : Hp} {R : Value → Hp → Prop} (H : F_simulcastlaw38_awake (Sys.of Go.Proofs.Tryz.prog) ids h R) : (Sys.of Go.Proofs.Tryz.prog).C ids.f_simulcastlaw38_awake [] h R :=
  cl_of_den Go.Proofs.Tryz.func11 (by kernel_rfl) mixed (E_simulcastlaw38_awake h R) H

def H_simulcastlaw38_played : HT := (.s .z (.s .z (.s (.s .z (.b (.l [17] [4, 6, 15, 16, 38] (.s .z (.s (.c .z .z) (.s (.b (.s .z (.s .z (.s (.j [33] [4, 6, 9, 15, 16, 17, 38] .z (.c (.s .z .z) .z)) .z)))) .z)))))) (.s .z .z))))
theorem E_simulcastlaw38_played (n0 l1 : Value) (h : Hp) (R : Value → Hp → Prop) : F_simulcastlaw38_played (Sys.of Go.Proofs.Tryz.prog) ids n0 l1 h R = denFn Go.Proofs.Tryz.prog Go.Proofs.Tryz.f12 H_simulcastlaw38_played [n0, l1] h R := by kernel_rfl
theorem C_simulcastlaw38_played {n0 l1 : Value} {h : Hp} {R : Value → Hp → Prop} (H : F_simulcastlaw38_played (Sys.of Go.Proofs.Tryz.prog) ids n0 l1 h R) : (Sys.of Go.Proofs.Tryz.prog).C ids.f_simulcastlaw38_played [n0, l1] h R :=
  cl_of_den Go.Proofs.Tryz.func12 (by kernel_rfl) mixed (E_simulcastlaw38_played n0 l1 h R) H

def H_simulcastlaw33_World_Done : HT := (.s .z (.s .z (.s .z (.s .z (.s .z (.s (.s .z (.b (.l [] [0, 7, 8, 9, 10, 31, 112] (.s .z (.s (.c .z .z) (.b (.s .z .z))))))) (.s (.s .z (.b (.l [42] [0, 7, 8, 9, 10, 40, 41, 112] (.s .z (.s (.c .z .z) (.j [] [0, 7, 8, 9, 10, 40, 41, 42, 112] (.b (.s .z (.s (.s .z (.j [63] [0, 7, 8, 9, 10, 14, 40, 41, 42, 112] .z (.c (.s .z .z) .z))) (.s .z (.c .z .z))))) .z)))))) (.j [] [7, 8, 9, 10, 112] (.s .z (.c (.s .z (.b (.l [83] [0, 7, 8, 9, 10, 81, 82, 112] (.s .z (.s (.c .z .z) (.s (.b (.s .z (.o (oc [0, 1, 2, 3, 5, 6, 7, 8, 9, 4, 10, 11] .nil)))) .z)))))) .z)) (.j [4, 5, 6] [112] .z .z)))))))))
theorem E_simulcastlaw33_World_Done (w0 do1 : Value) (h : Hp) (R : Value → Hp → Prop) : F_simulcastlaw33_World_Done (Sys.of Go.Proofs.Tryz.prog) ids w0 do1 h R = denFn Go.Proofs.Tryz.prog Go.Proofs.Tryz.f13 H_simulcastlaw33_World_Done [w0, do1] h R := by kernel_rfl
theorem C_simulcastlaw33_World_Done {w0 do1 : Value} {h : Hp} {R : Value → Hp → Prop} (H : F_simulcastlaw33_World_Done (Sys.of Go.Proofs.Tryz.prog) ids w0 do1 h R) : (Sys.of Go.Proofs.Tryz.prog).C ids.f_simulcastlaw33_World_Done [w0, do1] h R :=
  cl_of_den Go.Proofs.Tryz.func13 (by kernel_rfl) mixed (E_simulcastlaw33_World_Done w0 do1 h R) H

def H_simulcastlaw38_HeapSorts_1 : HT := .z
theorem E_simulcastlaw38_HeapSorts_1 (s0 v1 v2 : Value) (h : Hp) (R : Value → Hp → Prop) : F_simulcastlaw38_HeapSorts_1 (Sys.of Go.Proofs.Tryz.prog) ids s0 v1 v2 h R = denFn Go.Proofs.Tryz.prog Go.Proofs.Tryz.f14 H_simulcastlaw38_HeapSorts_1 [s0, v1, v2] h R := by kernel_rfl
theorem C_simulcastlaw38_HeapSorts_1 {s0 v1 v2 : Value} {h : Hp} {R : Value → Hp → Prop} (H : F_simulcastlaw38_HeapSorts_1 (Sys.of Go.Proofs.Tryz.prog) ids s0 v1 v2 h R) : (Sys.of Go.Proofs.Tryz.prog).C ids.f_simulcastlaw38_HeapSorts_1 [s0, v1, v2] h R :=
  cl_of_den Go.Proofs.Tryz.func14 (by kernel_rfl) mixed (E_simulcastlaw38_HeapSorts_1 s0 v1 v2 h R) H

def H_heap_Heap_Walk : HT := (.s .z (.s .z (.s .z (.s (.s .z (.c (.s .z .z) .z)) (.s .z (.s (.s .z (.b (.l [9, 10] [6, 7, 68] (.s (.j [34] [6, 7, 9, 10, 68] .z (.c .z .z)) (.s (.b .z) .z))))) (.s (.s .z (.c (.s .z .z) .z)) (.s .z (.s .z (.s (.s .z (.b (.l [11, 52] [6, 50, 51, 68] (.s .z (.s (.c .z .z) (.s (.b (.s .z (.o (oc [0, 1, 2, 4, 5, 3, 6, 7, 8, 9, 10] .nil)))) .z)))))) (.s .z .z)))))))))))
theorem E_heap_Heap_Walk (x0 s1 : Value) (h : Hp) (R : Value → Hp → Prop) : F_heap_Heap_Walk (Sys.of Go.Proofs.Tryz.prog) ids x0 s1 h R = denFn Go.Proofs.Tryz.prog Go.Proofs.Tryz.f15 H_heap_Heap_Walk [x0, s1] h R := by kernel_rfl
theorem C_heap_Heap_Walk {x0 s1 : Value} {h : Hp} {R : Value → Hp → Prop} (H : F_heap_Heap_Walk (Sys.of Go.Proofs.Tryz.prog) ids x0 s1 h R) : (Sys.of Go.Proofs.Tryz.prog).C ids.f_heap_Heap_Walk [x0, s1] h R :=
  cl_of_den Go.Proofs.Tryz.func15 (by kernel_rfl) mixed (E_heap_Heap_Walk x0 s1 h R) H

def H_simulcastlaw38_HeapSorts_2 : HT := .z
theorem E_simulcastlaw38_HeapSorts_2 (s0 v1 v2 v3 v4 : Value) (h : Hp) (R : Value → Hp → Prop) : F_simulcastlaw38_HeapSorts_2 (Sys.of Go.Proofs.Tryz.prog) ids s0 v1 v2 v3 v4 h R = denFn Go.Proofs.Tryz.prog Go.Proofs.Tryz.f16 H_simulcastlaw38_HeapSorts_2 [s0, v1, v2, v3, v4] h R := by kernel_rfl
theorem C_simulcastlaw38_HeapSorts_2 {s0 v1 v2 v3 v4 : Value} {h : Hp} {R : Value → Hp → Prop} (H : F_simulcastlaw38_HeapSorts_2 (Sys.of Go.Proofs.Tryz.prog) ids s0 v1 v2 v3 v4 h R) : (Sys.of Go.Proofs.Tryz.prog).C ids.f_simulcastlaw38_HeapSorts_2 [s0, v1, v2, v3, v4] h R :=
  cl_of_den Go.Proofs.Tryz.func16 (by kernel_rfl) mixed (E_simulcastlaw38_HeapSorts_2 s0 v1 v2 v3 v4 h R) H

def H_heap_Heap_Push : HT := (.s .z (.s .z (.s .z (.s .z (.s .z (.s (.b (.s .z (.c (.s .z .z) (.s .z (.c (.s .z .z) (.s .z (.c (.s .z .z) .z))))))) (.s .z (.s (.s .z (.c (.s .z .z) .z)) (.j [] [2, 3, 8, 9, 10, 11, 13, 93] (.s .z (.c (.s .z (.s (.s .z (.c (.s .z .z) .z)) .z)) .z)) (.s .z (.s .z (.s .z (.s .z (.s .z (.s .z (.s .z .z))))))))))))))))
theorem E_heap_Heap_Push (x0 s1 priority2 v3 : Value) (h : Hp) (R : Value → Hp → Prop) : F_heap_Heap_Push (Sys.of Go.Proofs.Tryz.prog) ids x0 s1 priority2 v3 h R = denFn Go.Proofs.Tryz.prog Go.Proofs.Tryz.f17 H_heap_Heap_Push [x0, s1, priority2, v3] h R := by kernel_rfl
theorem C_heap_Heap_Push {x0 s1 priority2 v3 : Value} {h : Hp} {R : Value → Hp → Prop} (H : F_heap_Heap_Push (Sys.of Go.Proofs.Tryz.prog) ids x0 s1 priority2 v3 h R) : (Sys.of Go.Proofs.Tryz.prog).C ids.f_heap_Heap_Push [x0, s1, priority2, v3] h R :=
  cl_of_den Go.Proofs.Tryz.func17 (by kernel_rfl) mixed (E_heap_Heap_Push x0 s1 priority2 v3 h R) H

def H_simulcastlaw38_HeapSorts_3 : HT := .z
theorem E_simulcastlaw38_HeapSorts_3 (s0 v1 v2 v3 v4 : Value) (h : Hp) (R : Value → Hp → Prop) : F_simulcastlaw38_HeapSorts_3 (Sys.of Go.Proofs.Tryz.prog) ids s0 v1 v2 v3 v4 h R = denFn Go.Proofs.Tryz.prog Go.Proofs.Tryz.f18 H_simulcastlaw38_HeapSorts_3 [s0, v1, v2, v3, v4] h R := by kernel_rfl
theorem C_simulcastlaw38_HeapSorts_3 {s0 v1 v2 v3 v4 : Value} {h : Hp} {R : Value → Hp → Prop} (H : F_simulcastlaw38_HeapSorts_3 (Sys.of Go.Proofs.Tryz.prog) ids s0 v1 v2 v3 v4 h R) : (Sys.of Go.Proofs.Tryz.prog).C ids.f_simulcastlaw38_HeapSorts_3 [s0, v1, v2, v3, v4] h R :=
  cl_of_den Go.Proofs.Tryz.func18 (by kernel_rfl) mixed (E_simulcastlaw38_HeapSorts_3 s0 v1 v2 v3 v4 h R) H

def H_heap_Heap_Pop : HT := (.s .z (.s .z (.s .z (.s .z (.s (.b (.s .z (.c (.s .z .z) (.s .z (.c (.s .z .z) .z))))) (.s .z .z))))))
theorem E_heap_Heap_Pop (x0 s1 : Value) (h : Hp) (R : Value → Hp → Prop) : F_heap_Heap_Pop (Sys.of Go.Proofs.Tryz.prog) ids x0 s1 h R = denFn Go.Proofs.Tryz.prog Go.Proofs.Tryz.f19 H_heap_Heap_Pop [x0, s1] h R := by kernel_rfl
theorem C_heap_Heap_Pop {x0 s1 : Value} {h : Hp} {R : Value → Hp → Prop} (H : F_heap_Heap_Pop (Sys.of Go.Proofs.Tryz.prog) ids x0 s1 h R) : (Sys.of Go.Proofs.Tryz.prog).C ids.f_heap_Heap_Pop [x0, s1] h R :=
  cl_of_den Go.Proofs.Tryz.func19 (by kernel_rfl) mixed (E_heap_Heap_Pop x0 s1 h R) H

def H_simulcastlaw38_odd : HT := (.s .z (.s (.s .z (.b (.l [7] [5, 6, 15] (.s .z (.s (.c .z .z) (.s (.b (.s .z (.s .z (.c (.s .z .z) .z)))) .z)))))) (.s .z .z)))
theorem E_simulcastlaw38_odd (l0 : Value) (h : Hp) (R : Value → Hp → Prop) : F_simulcastlaw38_odd (Sys.of Go.Proofs.Tryz.prog) ids l0 h R = denFn Go.Proofs.Tryz.prog Go.Proofs.Tryz.f20 H_simulcastlaw38_odd [l0] h R := by kernel_rfl
theorem C_simulcastlaw38_odd {l0 : Value} {h : Hp} {R : Value → Hp → Prop} (H : F_simulcastlaw38_odd (Sys.of Go.Proofs.Tryz.prog) ids l0 h R) : (Sys.of Go.Proofs.Tryz.prog).C ids.f_simulcastlaw38_odd [l0] h R :=
  cl_of_den Go.Proofs.Tryz.func20 (by kernel_rfl) mixed (E_simulcastlaw38_odd l0 h R) H

def H_simulcastlaw38_HeapStands_1 : HT := (.s .z (.s (.o (oc [0, 1, 2, 3, 4, 5, 6, 7] .nil)) (.s (.o (oc [0, 1, 2, 3, 4, 5, 6, 7, 8, 9, 10, 11, 12, 13, 14] .nil)) .z)))
theorem E_simulcastlaw38_HeapStands_1 (i0 v1 : Value) (h : Hp) (R : Value → Hp → Prop) : F_simulcastlaw38_HeapStands_1 (Sys.of Go.Proofs.Tryz.prog) ids i0 v1 h R = denFn Go.Proofs.Tryz.prog Go.Proofs.Tryz.f21 H_simulcastlaw38_HeapStands_1 [i0, v1] h R := by kernel_rfl
theorem C_simulcastlaw38_HeapStands_1 {i0 v1 : Value} {h : Hp} {R : Value → Hp → Prop} (H : F_simulcastlaw38_HeapStands_1 (Sys.of Go.Proofs.Tryz.prog) ids i0 v1 h R) : (Sys.of Go.Proofs.Tryz.prog).C ids.f_simulcastlaw38_HeapStands_1 [i0, v1] h R :=
  cl_of_den Go.Proofs.Tryz.func21 (by kernel_rfl) mixed (E_simulcastlaw38_HeapStands_1 i0 v1 h R) H

def H_simulcastlaw38_state_row : HT := (.s .z (.s .z .z))
theorem E_simulcastlaw38_state_row (x0 i1 : Value) (h : Hp) (R : Value → Hp → Prop) : F_simulcastlaw38_state_row (Sys.of Go.Proofs.Tryz.prog) ids x0 i1 h R = denFn Go.Proofs.Tryz.prog Go.Proofs.Tryz.f22 H_simulcastlaw38_state_row [x0, i1] h R := by kernel_rfl
theorem C_simulcastlaw38_state_row {x0 i1 : Value} {h : Hp} {R : Value → Hp → Prop} (H : F_simulcastlaw38_state_row (Sys.of Go.Proofs.Tryz.prog) ids x0 i1 h R) : (Sys.of Go.Proofs.Tryz.prog).C ids.f_simulcastlaw38_state_row [x0, i1] h R :=
  cl_of_den Go.Proofs.Tryz.func22 (by kernel_rfl) mixed (E_simulcastlaw38_state_row x0 i1 h R) H

def H_pool_Pool_Node : HT := (.s .z (.s (.j [23] [1, 2, 34] .z (.c (.s .z .z) .z)) (.s .z (.s (.s .z (.c (.s .z .z) .z)) (.s .z .z)))))
theorem E_pool_Pool_Node (p0 at1 : Value) (h : Hp) (R : Value → Hp → Prop) : F_pool_Pool_Node (Sys.of Go.Proofs.Tryz.prog) ids p0 at1 h R = denFn Go.Proofs.Tryz.prog Go.Proofs.Tryz.f23 H_pool_Pool_Node [p0, at1] h R := by kernel_rfl
theorem C_pool_Pool_Node {p0 at1 : Value} {h : Hp} {R : Value → Hp → Prop} (H : F_pool_Pool_Node (Sys.of Go.Proofs.Tryz.prog) ids p0 at1 h R) : (Sys.of Go.Proofs.Tryz.prog).C ids.f_pool_Pool_Node [p0, at1] h R :=
  cl_of_den Go.Proofs.Tryz.func23 (by kernel_rfl) mixed (E_pool_Pool_Node p0 at1 h R) H

def H_simulcastref38_Find : HT := (.s .z (.s (.s .z (.b (.l [5] [0, 1, 20] (.s (.s .z (.c .z .z)) (.s (.b (.s .z (.c (.s .z .z) .z))) .z))))) (.s .z .z)))
theorem E_simulcastref38_Find (l0 by1 : Value) (h : Hp) (R : Value → Hp → Prop) : F_simulcastref38_Find (Sys.of Go.Proofs.Tryz.prog) ids l0 by1 h R = denFn Go.Proofs.Tryz.prog Go.Proofs.Tryz.f24 H_simulcastref38_Find [l0, by1] h R := by kernel_rfl
theorem C_simulcastref38_Find {l0 by1 : Value} {h : Hp} {R : Value → Hp → Prop} (H : F_simulcastref38_Find (Sys.of Go.Proofs.Tryz.prog) ids l0 by1 h R) : (Sys.of Go.Proofs.Tryz.prog).C ids.f_simulcastref38_Find [l0, by1] h R :=
  cl_of_den Go.Proofs.Tryz.func24 (by kernel_rfl) mixed (E_simulcastref38_Find l0 by1 h R) H

def H_simulcastlaw38_HeapHandles_1 : HT := .z
theorem E_simulcastlaw38_HeapHandles_1 (s0 v1 v2 v3 : Value) (h : Hp) (R : Value → Hp → Prop) : F_simulcastlaw38_HeapHandles_1 (Sys.of Go.Proofs.Tryz.prog) ids s0 v1 v2 v3 h R = denFn Go.Proofs.Tryz.prog Go.Proofs.Tryz.f25 H_simulcastlaw38_HeapHandles_1 [s0, v1, v2, v3] h R := by kernel_rfl
theorem C_simulcastlaw38_HeapHandles_1 {s0 v1 v2 v3 : Value} {h : Hp} {R : Value → Hp → Prop} (H : F_simulcastlaw38_HeapHandles_1 (Sys.of Go.Proofs.Tryz.prog) ids s0 v1 v2 v3 h R) : (Sys.of Go.Proofs.Tryz.prog).C ids.f_simulcastlaw38_HeapHandles_1 [s0, v1, v2, v3] h R :=
  cl_of_den Go.Proofs.Tryz.func25 (by kernel_rfl) mixed (E_simulcastlaw38_HeapHandles_1 s0 v1 v2 v3 h R) H

def H_heap_Heap_Lower : HT := (.s .z (.s .z (.s .z (.s .z (.s (.b (.s .z (.c (.s .z .z) (.s .z (.c (.s .z .z) .z))))) (.s .z (.s .z (.s .z .z))))))))
theorem E_heap_Heap_Lower (x0 s1 handle2 priority3 : Value) (h : Hp) (R : Value → Hp → Prop) : F_heap_Heap_Lower (Sys.of Go.Proofs.Tryz.prog) ids x0 s1 handle2 priority3 h R = denFn Go.Proofs.Tryz.prog Go.Proofs.Tryz.f26 H_heap_Heap_Lower [x0, s1, handle2, priority3] h R := by kernel_rfl
theorem C_heap_Heap_Lower {x0 s1 handle2 priority3 : Value} {h : Hp} {R : Value → Hp → Prop} (H : F_heap_Heap_Lower (Sys.of Go.Proofs.Tryz.prog) ids x0 s1 handle2 priority3 h R) : (Sys.of Go.Proofs.Tryz.prog).C ids.f_heap_Heap_Lower [x0, s1, handle2, priority3] h R :=
  cl_of_den Go.Proofs.Tryz.func26 (by kernel_rfl) mixed (E_heap_Heap_Lower x0 s1 handle2 priority3 h R) H

def H_simulcastlaw38_HeapHandles_2 : HT := .z
theorem E_simulcastlaw38_HeapHandles_2 (s0 v1 v2 v3 : Value) (h : Hp) (R : Value → Hp → Prop) : F_simulcastlaw38_HeapHandles_2 (Sys.of Go.Proofs.Tryz.prog) ids s0 v1 v2 v3 h R = denFn Go.Proofs.Tryz.prog Go.Proofs.Tryz.f27 H_simulcastlaw38_HeapHandles_2 [s0, v1, v2, v3] h R := by kernel_rfl
theorem C_simulcastlaw38_HeapHandles_2 {s0 v1 v2 v3 : Value} {h : Hp} {R : Value → Hp → Prop} (H : F_simulcastlaw38_HeapHandles_2 (Sys.of Go.Proofs.Tryz.prog) ids s0 v1 v2 v3 h R) : (Sys.of Go.Proofs.Tryz.prog).C ids.f_simulcastlaw38_HeapHandles_2 [s0, v1, v2, v3] h R :=
  cl_of_den Go.Proofs.Tryz.func27 (by kernel_rfl) mixed (E_simulcastlaw38_HeapHandles_2 s0 v1 v2 v3 h R) H

def H_heap_Heap_Drop : HT := (.s .z (.s .z (.s .z (.s .z (.s (.s .z (.c (.s (.o (oc [0, 1, 2] .nil)) .z) .z)) (.s .z (.s (.o (oc [0, 1, 2, 3] .nil)) .z)))))))
theorem E_heap_Heap_Drop (x0 s1 handle2 : Value) (h : Hp) (R : Value → Hp → Prop) : F_heap_Heap_Drop (Sys.of Go.Proofs.Tryz.prog) ids x0 s1 handle2 h R = denFn Go.Proofs.Tryz.prog Go.Proofs.Tryz.f28 H_heap_Heap_Drop [x0, s1, handle2] h R := by kernel_rfl
theorem C_heap_Heap_Drop {x0 s1 handle2 : Value} {h : Hp} {R : Value → Hp → Prop} (H : F_heap_Heap_Drop (Sys.of Go.Proofs.Tryz.prog) ids x0 s1 handle2 h R) : (Sys.of Go.Proofs.Tryz.prog).C ids.f_heap_Heap_Drop [x0, s1, handle2] h R :=
  cl_of_den Go.Proofs.Tryz.func28 (by kernel_rfl) mixed (E_heap_Heap_Drop x0 s1 handle2 h R) H

def H_simulcastlaw33_Alike : HT := (.s .z (.s (.s .z (.c (.s .z .z) .z)) (.s (.s .z (.b (.l [] [1, 13, 26] (.s .z (.s (.c .z .z) (.b (.s .z (.s .z (.c (.s .z .z) .z))))))))) (.s .z .z))))
theorem E_simulcastlaw33_Alike (a0 b1 : Value) (h : Hp) (R : Value → Hp → Prop) : F_simulcastlaw33_Alike (Sys.of Go.Proofs.Tryz.prog) ids a0 b1 h R = denFn Go.Proofs.Tryz.prog Go.Proofs.Tryz.f29 H_simulcastlaw33_Alike [a0, b1] h R := by kernel_rfl
theorem C_simulcastlaw33_Alike {a0 b1 : Value} {h : Hp} {R : Value → Hp → Prop} (H : F_simulcastlaw33_Alike (Sys.of Go.Proofs.Tryz.prog) ids a0 b1 h R) : (Sys.of Go.Proofs.Tryz.prog).C ids.f_simulcastlaw33_Alike [a0, b1] h R :=
  cl_of_den Go.Proofs.Tryz.func29 (by kernel_rfl) mixed (E_simulcastlaw33_Alike a0 b1 h R) H

def H_simulcastlaw38_step : HT := (.s .z (.s .z (.s .z (.j [] [2, 3, 4, 6, 7, 37] (.s .z (.c .z .z)) (.s .z (.s .z (.j [5] [4, 37] .z .z)))))))
theorem E_simulcastlaw38_step (x0 c1 : Value) (h : Hp) (R : Value → Hp → Prop) : F_simulcastlaw38_step (Sys.of Go.Proofs.Tryz.prog) ids x0 c1 h R = denFn Go.Proofs.Tryz.prog Go.Proofs.Tryz.f30 H_simulcastlaw38_step [x0, c1] h R := by kernel_rfl
theorem C_simulcastlaw38_step {x0 c1 : Value} {h : Hp} {R : Value → Hp → Prop} (H : F_simulcastlaw38_step (Sys.of Go.Proofs.Tryz.prog) ids x0 c1 h R) : (Sys.of Go.Proofs.Tryz.prog).C ids.f_simulcastlaw38_step [x0, c1] h R :=
  cl_of_den Go.Proofs.Tryz.func30 (by kernel_rfl) mixed (E_simulcastlaw38_step x0 c1 h R) H

def H_simulcastlaw33_Fresh : HT := (.s .z (.s .z (.s (.s .z (.b (.l [7] [3, 6, 15] (.s .z (.s (.c .z .z) (.s (.b (.s .z .z)) .z)))))) (.s .z .z))))
theorem E_simulcastlaw33_Fresh (n0 : Value) (h : Hp) (R : Value → Hp → Prop) : F_simulcastlaw33_Fresh (Sys.of Go.Proofs.Tryz.prog) ids n0 h R = denFn Go.Proofs.Tryz.prog Go.Proofs.Tryz.f31 H_simulcastlaw33_Fresh [n0] h R := by kernel_rfl
theorem C_simulcastlaw33_Fresh {n0 : Value} {h : Hp} {R : Value → Hp → Prop} (H : F_simulcastlaw33_Fresh (Sys.of Go.Proofs.Tryz.prog) ids n0 h R) : (Sys.of Go.Proofs.Tryz.prog).C ids.f_simulcastlaw33_Fresh [n0] h R :=
  cl_of_den Go.Proofs.Tryz.func31 (by kernel_rfl) mixed (E_simulcastlaw33_Fresh n0 h R) H

def H_simulcastlaw38_made : HT := (.s .z (.s .z .z))
theorem E_simulcastlaw38_made (n0 : Value) (h : Hp) (R : Value → Hp → Prop) : F_simulcastlaw38_made (Sys.of Go.Proofs.Tryz.prog) ids n0 h R = denFn Go.Proofs.Tryz.prog Go.Proofs.Tryz.f32 H_simulcastlaw38_made [n0] h R := by kernel_rfl
theorem C_simulcastlaw38_made {n0 : Value} {h : Hp} {R : Value → Hp → Prop} (H : F_simulcastlaw38_made (Sys.of Go.Proofs.Tryz.prog) ids n0 h R) : (Sys.of Go.Proofs.Tryz.prog).C ids.f_simulcastlaw38_made [n0] h R :=
  cl_of_den Go.Proofs.Tryz.func32 (by kernel_rfl) mixed (E_simulcastlaw38_made n0 h R) H

def H_simulcastlaw38_HeapBroken_1 : HT := (.s .z (.b (.s .z (.c .z (.s .z (.c .z (.s .z (.c .z .z))))))))
theorem E_simulcastlaw38_HeapBroken_1 (s0 v1 v2 v3 : Value) (h : Hp) (R : Value → Hp → Prop) : F_simulcastlaw38_HeapBroken_1 (Sys.of Go.Proofs.Tryz.prog) ids s0 v1 v2 v3 h R = denFn Go.Proofs.Tryz.prog Go.Proofs.Tryz.f33 H_simulcastlaw38_HeapBroken_1 [s0, v1, v2, v3] h R := by kernel_rfl
theorem C_simulcastlaw38_HeapBroken_1 {s0 v1 v2 v3 : Value} {h : Hp} {R : Value → Hp → Prop} (H : F_simulcastlaw38_HeapBroken_1 (Sys.of Go.Proofs.Tryz.prog) ids s0 v1 v2 v3 h R) : (Sys.of Go.Proofs.Tryz.prog).C ids.f_simulcastlaw38_HeapBroken_1 [s0, v1, v2, v3] h R :=
  cl_of_den Go.Proofs.Tryz.func33 (by kernel_rfl) mixed (E_simulcastlaw38_HeapBroken_1 s0 v1 v2 v3 h R) H

def H_simulcastlaw38_HeapBroken_2 : HT := (.s .z .z)
theorem E_simulcastlaw38_HeapBroken_2 (s0 v1 v2 v3 v4 : Value) (h : Hp) (R : Value → Hp → Prop) : F_simulcastlaw38_HeapBroken_2 (Sys.of Go.Proofs.Tryz.prog) ids s0 v1 v2 v3 v4 h R = denFn Go.Proofs.Tryz.prog Go.Proofs.Tryz.f34 H_simulcastlaw38_HeapBroken_2 [s0, v1, v2, v3, v4] h R := by kernel_rfl
theorem C_simulcastlaw38_HeapBroken_2 {s0 v1 v2 v3 v4 : Value} {h : Hp} {R : Value → Hp → Prop} (H : F_simulcastlaw38_HeapBroken_2 (Sys.of Go.Proofs.Tryz.prog) ids s0 v1 v2 v3 v4 h R) : (Sys.of Go.Proofs.Tryz.prog).C ids.f_simulcastlaw38_HeapBroken_2 [s0, v1, v2, v3, v4] h R :=
  cl_of_den Go.Proofs.Tryz.func34 (by kernel_rfl) mixed (E_simulcastlaw38_HeapBroken_2 s0 v1 v2 v3 v4 h R) H

def H_heap_Heap_Min : HT := (.s .z (.s .z (.s .z (.s (.s .z (.c (.s .z .z) .z)) (.s (.s .z (.c (.s .z .z) .z)) (.s .z (.s .z (.s (.s .z (.c (.s .z .z) .z)) (.s .z .z)))))))))
theorem E_heap_Heap_Min (x0 s1 : Value) (h : Hp) (R : Value → Hp → Prop) : F_heap_Heap_Min (Sys.of Go.Proofs.Tryz.prog) ids x0 s1 h R = denFn Go.Proofs.Tryz.prog Go.Proofs.Tryz.f35 H_heap_Heap_Min [x0, s1] h R := by kernel_rfl
theorem C_heap_Heap_Min {x0 s1 : Value} {h : Hp} {R : Value → Hp → Prop} (H : F_heap_Heap_Min (Sys.of Go.Proofs.Tryz.prog) ids x0 s1 h R) : (Sys.of Go.Proofs.Tryz.prog).C ids.f_heap_Heap_Min [x0, s1] h R :=
  cl_of_den Go.Proofs.Tryz.func35 (by kernel_rfl) mixed (E_heap_Heap_Min x0 s1 h R) H

def H_space_New : HT := (.s .z (.s .z (.s (.s .z (.b (.l [] [3, 11, 27] (.s .z (.s (.c .z .z) (.b (.s .z (.s .z (.c (.o (oc [0, 1, 2, 3, 4, 5, 6] .nil)) .z))))))))) (.s .z .z))))
theorem E_space_New (known0 : Value) (h : Hp) (R : Value → Hp → Prop) : F_space_New (Sys.of Go.Proofs.Tryz.prog) ids known0 h R = denFn Go.Proofs.Tryz.prog Go.Proofs.Tryz.f36 H_space_New [known0] h R := by kernel_rfl
theorem C_space_New {known0 : Value} {h : Hp} {R : Value → Hp → Prop} (H : F_space_New (Sys.of Go.Proofs.Tryz.prog) ids known0 h R) : (Sys.of Go.Proofs.Tryz.prog).C ids.f_space_New [known0] h R :=
  cl_of_den Go.Proofs.Tryz.func36 (by kernel_rfl) mixed (E_space_New known0 h R) H

def H_heap_Heap_Len : HT := (.s .z (.s .z .z))
theorem E_heap_Heap_Len (x0 s1 : Value) (h : Hp) (R : Value → Hp → Prop) : F_heap_Heap_Len (Sys.of Go.Proofs.Tryz.prog) ids x0 s1 h R = denFn Go.Proofs.Tryz.prog Go.Proofs.Tryz.f37 H_heap_Heap_Len [x0, s1] h R := by kernel_rfl
theorem C_heap_Heap_Len {x0 s1 : Value} {h : Hp} {R : Value → Hp → Prop} (H : F_heap_Heap_Len (Sys.of Go.Proofs.Tryz.prog) ids x0 s1 h R) : (Sys.of Go.Proofs.Tryz.prog).C ids.f_heap_Heap_Len [x0, s1] h R :=
  cl_of_den Go.Proofs.Tryz.func37 (by kernel_rfl) mixed (E_heap_Heap_Len x0 s1 h R) H

def H_pool_Pool_Left : HT := (.s .z (.s (.s .z (.c (.s .z .z) .z)) (.s (.o (oc [0, 1, 2, 3, 5, 6, 8, 9, 10, 11, 4, 7, 12, 13, 14, 15] .nil)) .z)))
theorem E_pool_Pool_Left (p0 s1 : Value) (h : Hp) (R : Value → Hp → Prop) : F_pool_Pool_Left (Sys.of Go.Proofs.Tryz.prog) ids p0 s1 h R = denFn Go.Proofs.Tryz.prog Go.Proofs.Tryz.f38 H_pool_Pool_Left [p0, s1] h R := by kernel_rfl
theorem C_pool_Pool_Left {p0 s1 : Value} {h : Hp} {R : Value → Hp → Prop} (H : F_pool_Pool_Left (Sys.of Go.Proofs.Tryz.prog) ids p0 s1 h R) : (Sys.of Go.Proofs.Tryz.prog).C ids.f_pool_Pool_Left [p0, s1] h R :=
  cl_of_den Go.Proofs.Tryz.func38 (by kernel_rfl) mixed (E_pool_Pool_Left p0 s1 h R) H

def H_space_Space_Ended : HT := (.s .z (.j [2] [11] .z .z))
theorem E_space_Space_Ended (s0 : Value) (h : Hp) (R : Value → Hp → Prop) : F_space_Space_Ended (Sys.of Go.Proofs.Tryz.prog) ids s0 h R = denFn Go.Proofs.Tryz.prog Go.Proofs.Tryz.f39 H_space_Space_Ended [s0] h R := by kernel_rfl
theorem C_space_Space_Ended {s0 : Value} {h : Hp} {R : Value → Hp → Prop} (H : F_space_Space_Ended (Sys.of Go.Proofs.Tryz.prog) ids s0 h R) : (Sys.of Go.Proofs.Tryz.prog).C ids.f_space_Space_Ended [s0] h R :=
  cl_of_den Go.Proofs.Tryz.func39 (by kernel_rfl) mixed (E_space_Space_Ended s0 h R) H

def H_simulcastlaw38_awake_1 : HT := (.s .z .z)
theorem E_simulcastlaw38_awake_1 (s0 v1 v2 : Value) (h : Hp) (R : Value → Hp → Prop) : F_simulcastlaw38_awake_1 (Sys.of Go.Proofs.Tryz.prog) ids s0 v1 v2 h R = denFn Go.Proofs.Tryz.prog Go.Proofs.Tryz.f40 H_simulcastlaw38_awake_1 [s0, v1, v2] h R := by kernel_rfl
theorem C_simulcastlaw38_awake_1 {s0 v1 v2 : Value} {h : Hp} {R : Value → Hp → Prop} (H : F_simulcastlaw38_awake_1 (Sys.of Go.Proofs.Tryz.prog) ids s0 v1 v2 h R) : (Sys.of Go.Proofs.Tryz.prog).C ids.f_simulcastlaw38_awake_1 [s0, v1, v2] h R :=
  cl_of_den Go.Proofs.Tryz.func40 (by kernel_rfl) mixed (E_simulcastlaw38_awake_1 s0 v1 v2 h R) H

def H_slices_Equal_int64_int64 : HT := (.s .z (.s (.s .z (.c (.s .z .z) .z)) (.s (.s .z (.b (.l [13] [0, 1, 12, 26] (.s .z (.s (.c .z .z) (.s (.b (.s .z (.s (.o (oc [0, 1, 2, 3, 4, 5, 6, 7, 8] .nil)) (.c (.s .z .z) .z)))) .z)))))) (.s .z .z))))
theorem E_slices_Equal_int64_int64 (s10 s21 : Value) (h : Hp) (R : Value → Hp → Prop) : F_slices_Equal_int64_int64 (Sys.of Go.Proofs.Tryz.prog) ids s10 s21 h R = denFn Go.Proofs.Tryz.prog Go.Proofs.Tryz.f41 H_slices_Equal_int64_int64 [s10, s21] h R := by kernel_rfl
theorem C_slices_Equal_int64_int64 {s10 s21 : Value} {h : Hp} {R : Value → Hp → Prop} (H : F_slices_Equal_int64_int64 (Sys.of Go.Proofs.Tryz.prog) ids s10 s21 h R) : (Sys.of Go.Proofs.Tryz.prog).C ids.f_slices_Equal_int64_int64 [s10, s21] h R :=
  cl_of_den Go.Proofs.Tryz.func41 (by kernel_rfl) mixed (E_slices_Equal_int64_int64 s10 s21 h R) H

def H_simulcastlaw38_is : HT := (.s .z (.s .z (.s .z (.j [2] [25] .z .z))))
theorem E_simulcastlaw38_is (x0 : Value) (h : Hp) (R : Value → Hp → Prop) : F_simulcastlaw38_is (Sys.of Go.Proofs.Tryz.prog) ids x0 h R = denFn Go.Proofs.Tryz.prog Go.Proofs.Tryz.f42 H_simulcastlaw38_is [x0] h R := by kernel_rfl
theorem C_simulcastlaw38_is {x0 : Value} {h : Hp} {R : Value → Hp → Prop} (H : F_simulcastlaw38_is (Sys.of Go.Proofs.Tryz.prog) ids x0 h R) : (Sys.of Go.Proofs.Tryz.prog).C ids.f_simulcastlaw38_is [x0] h R :=
  cl_of_den Go.Proofs.Tryz.func42 (by kernel_rfl) mixed (E_simulcastlaw38_is x0 h R) H

def H_space_Space_Entries : HT := (.s .z (.s (.s .z (.c (.s .z .z) .z)) (.s .z (.s (.s .z (.b (.l [4, 15] [0, 13, 14, 48] (.s .z (.s (.c .z .z) (.s (.b (.s .z (.s .z .z))) .z)))))) (.s (.s .z (.c (.s .z .z) .z)) (.s (.s .z (.s .z (.c (.s .z .z) .z))) (.s .z .z)))))))
theorem E_space_Space_Entries (s0 : Value) (h : Hp) (R : Value → Hp → Prop) : F_space_Space_Entries (Sys.of Go.Proofs.Tryz.prog) ids s0 h R = denFn Go.Proofs.Tryz.prog Go.Proofs.Tryz.f43 H_space_Space_Entries [s0] h R := by kernel_rfl
theorem C_space_Space_Entries {s0 : Value} {h : Hp} {R : Value → Hp → Prop} (H : F_space_Space_Entries (Sys.of Go.Proofs.Tryz.prog) ids s0 h R) : (Sys.of Go.Proofs.Tryz.prog).C ids.f_space_Space_Entries [s0] h R :=
  cl_of_den Go.Proofs.Tryz.func43 (by kernel_rfl) mixed (E_space_Space_Entries s0 h R) H

def H_space_Space_Writes : HT := (.s .z (.s .z (.s (.s .z (.c (.s .z .z) .z)) (.s (.s .z (.b (.l [3, 14] [12, 13, 28] (.s .z (.s (.c .z .z) (.s (.b (.s .z .z)) .z)))))) (.s .z (.s .z .z))))))
theorem E_space_Space_Writes (s0 : Value) (h : Hp) (R : Value → Hp → Prop) : F_space_Space_Writes (Sys.of Go.Proofs.Tryz.prog) ids s0 h R = denFn Go.Proofs.Tryz.prog Go.Proofs.Tryz.f44 H_space_Space_Writes [s0] h R := by kernel_rfl
theorem C_space_Space_Writes {s0 : Value} {h : Hp} {R : Value → Hp → Prop} (H : F_space_Space_Writes (Sys.of Go.Proofs.Tryz.prog) ids s0 h R) : (Sys.of Go.Proofs.Tryz.prog).C ids.f_space_Space_Writes [s0] h R :=
  cl_of_den Go.Proofs.Tryz.func44 (by kernel_rfl) mixed (E_space_Space_Writes s0 h R) H

def H_space_Space_Get : HT := (.s .z (.s (.s .z (.c (.s .z .z) .z)) (.s .z (.s .z .z))))
theorem E_space_Space_Get (s0 at1 : Value) (h : Hp) (R : Value → Hp → Prop) : F_space_Space_Get (Sys.of Go.Proofs.Tryz.prog) ids s0 at1 h R = denFn Go.Proofs.Tryz.prog Go.Proofs.Tryz.f45 H_space_Space_Get [s0, at1] h R := by kernel_rfl
theorem C_space_Space_Get {s0 at1 : Value} {h : Hp} {R : Value → Hp → Prop} (H : F_space_Space_Get (Sys.of Go.Proofs.Tryz.prog) ids s0 at1 h R) : (Sys.of Go.Proofs.Tryz.prog).C ids.f_space_Space_Get [s0, at1] h R :=
  cl_of_den Go.Proofs.Tryz.func45 (by kernel_rfl) mixed (E_space_Space_Get s0 at1 h R) H

def H_heap_work_many : HT := (.s .z (.s .z (.j [2, 3] [14] .z .z)))
theorem E_heap_work_many (w0 : Value) (h : Hp) (R : Value → Hp → Prop) : F_heap_work_many (Sys.of Go.Proofs.Tryz.prog) ids w0 h R = denFn Go.Proofs.Tryz.prog Go.Proofs.Tryz.f46 H_heap_work_many [w0] h R := by kernel_rfl
theorem C_heap_work_many {w0 : Value} {h : Hp} {R : Value → Hp → Prop} (H : F_heap_work_many (Sys.of Go.Proofs.Tryz.prog) ids w0 h R) : (Sys.of Go.Proofs.Tryz.prog).C ids.f_heap_work_many [w0] h R :=
  cl_of_den Go.Proofs.Tryz.func46 (by kernel_rfl) mixed (E_heap_work_many w0 h R) H

def H_heap_work_item : HT := (.s .z (.s .z (.s (.s .z (.c (.s .z .z) .z)) (.s .z .z))))
theorem E_heap_work_item (w0 at1 : Value) (h : Hp) (R : Value → Hp → Prop) : F_heap_work_item (Sys.of Go.Proofs.Tryz.prog) ids w0 at1 h R = denFn Go.Proofs.Tryz.prog Go.Proofs.Tryz.f47 H_heap_work_item [w0, at1] h R := by kernel_rfl
theorem C_heap_work_item {w0 at1 : Value} {h : Hp} {R : Value → Hp → Prop} (H : F_heap_work_item (Sys.of Go.Proofs.Tryz.prog) ids w0 at1 h R) : (Sys.of Go.Proofs.Tryz.prog).C ids.f_heap_work_item [w0, at1] h R :=
  cl_of_den Go.Proofs.Tryz.func47 (by kernel_rfl) mixed (E_heap_work_item w0 at1 h R) H

def H_slices_SortStableFunc_api_Loc_api_Loc : HT := .z
theorem E_slices_SortStableFunc_api_Loc_api_Loc (x0 cmp1 : Value) (h : Hp) (R : Value → Hp → Prop) : F_slices_SortStableFunc_api_Loc_api_Loc (Sys.of Go.Proofs.Tryz.prog) ids x0 cmp1 h R = denFn Go.Proofs.Tryz.prog Go.Proofs.Tryz.f48 H_slices_SortStableFunc_api_Loc_api_Loc [x0, cmp1] h R := by kernel_rfl
theorem C_slices_SortStableFunc_api_Loc_api_Loc {x0 cmp1 : Value} {h : Hp} {R : Value → Hp → Prop} (H : F_slices_SortStableFunc_api_Loc_api_Loc (Sys.of Go.Proofs.Tryz.prog) ids x0 cmp1 h R) : (Sys.of Go.Proofs.Tryz.prog).C ids.f_slices_SortStableFunc_api_Loc_api_Loc [x0, cmp1] h R :=
  cl_of_den Go.Proofs.Tryz.func48 (by kernel_rfl) mixed (E_slices_SortStableFunc_api_Loc_api_Loc x0 cmp1 h R) H

def H_heap_Heap_Walk_1 : HT := (.s .z (.s (.j [6, 7] [22] (.o (oc [0, 1, 3, 4] (.alt (oc [2] (.alt (oc [5] (.alt (oc [6, 7, 8, 9] .nil) (oc [7, 6, 8, 9] .nil))) (.alt (oc [6] (.alt (oc [5, 7, 8, 9] .nil) (oc [7, 5, 8, 9] .nil))) (oc [7] (.alt (oc [5, 6, 8, 9] .nil) (oc [6, 5, 8, 9] .nil)))))) (.alt (oc [6] (.alt (oc [2] (.alt (oc [5, 7, 8, 9] .nil) (oc [7, 5, 8, 9] .nil))) (oc [7, 2, 5, 8, 9] .nil))) (oc [7] (.alt (oc [2] (.alt (oc [5, 6, 8, 9] .nil) (oc [6, 5, 8, 9] .nil))) (oc [6, 2, 5, 8, 9] .nil))))))) (.b (.s .z (.c (.s .z .z) (.s .z (.c (.s .z .z) .z)))))) (.s .z .z)))
theorem E_heap_Heap_Walk_1 (a0 b1 v2 : Value) (h : Hp) (R : Value → Hp → Prop) : F_heap_Heap_Walk_1 (Sys.of Go.Proofs.Tryz.prog) ids a0 b1 v2 h R = denFn Go.Proofs.Tryz.prog Go.Proofs.Tryz.f49 H_heap_Heap_Walk_1 [a0, b1, v2] h R := by kernel_rfl
theorem C_heap_Heap_Walk_1 {a0 b1 v2 : Value} {h : Hp} {R : Value → Hp → Prop} (H : F_heap_Heap_Walk_1 (Sys.of Go.Proofs.Tryz.prog) ids a0 b1 v2 h R) : (Sys.of Go.Proofs.Tryz.prog).C ids.f_heap_Heap_Walk_1 [a0, b1, v2] h R :=
  cl_of_den Go.Proofs.Tryz.func49 (by kernel_rfl) mixed (E_heap_Heap_Walk_1 a0 b1 v2 h R) H

def H_heap_work_key : HT := (.s .z (.s .z .z))
theorem E_heap_work_key (w0 item1 : Value) (h : Hp) (R : Value → Hp → Prop) : F_heap_work_key (Sys.of Go.Proofs.Tryz.prog) ids w0 item1 h R = denFn Go.Proofs.Tryz.prog Go.Proofs.Tryz.f50 H_heap_work_key [w0, item1] h R := by kernel_rfl
theorem C_heap_work_key {w0 item1 : Value} {h : Hp} {R : Value → Hp → Prop} (H : F_heap_work_key (Sys.of Go.Proofs.Tryz.prog) ids w0 item1 h R) : (Sys.of Go.Proofs.Tryz.prog).C ids.f_heap_work_key [w0, item1] h R :=
  cl_of_den Go.Proofs.Tryz.func50 (by kernel_rfl) mixed (E_heap_work_key w0 item1 h R) H

def H_heap_ahead : HT := (.s .z (.j [4] [29] .z .z))
theorem E_heap_ahead (a0 b1 : Value) (h : Hp) (R : Value → Hp → Prop) : F_heap_ahead (Sys.of Go.Proofs.Tryz.prog) ids a0 b1 h R = denFn Go.Proofs.Tryz.prog Go.Proofs.Tryz.f51 H_heap_ahead [a0, b1] h R := by kernel_rfl
theorem C_heap_ahead {a0 b1 : Value} {h : Hp} {R : Value → Hp → Prop} (H : F_heap_ahead (Sys.of Go.Proofs.Tryz.prog) ids a0 b1 h R) : (Sys.of Go.Proofs.Tryz.prog).C ids.f_heap_ahead [a0, b1] h R :=
  cl_of_den Go.Proofs.Tryz.func51 (by kernel_rfl) mixed (E_heap_ahead a0 b1 h R) H

def H_heap_work_get : HT := (.s .z (.s (.s .z (.c (.s .z .z) .z)) (.s .z .z)))
theorem E_heap_work_get (w0 at1 cell2 : Value) (h : Hp) (R : Value → Hp → Prop) : F_heap_work_get (Sys.of Go.Proofs.Tryz.prog) ids w0 at1 cell2 h R = denFn Go.Proofs.Tryz.prog Go.Proofs.Tryz.f52 H_heap_work_get [w0, at1, cell2] h R := by kernel_rfl
theorem C_heap_work_get {w0 at1 cell2 : Value} {h : Hp} {R : Value → Hp → Prop} (H : F_heap_work_get (Sys.of Go.Proofs.Tryz.prog) ids w0 at1 cell2 h R) : (Sys.of Go.Proofs.Tryz.prog).C ids.f_heap_work_get [w0, at1, cell2] h R :=
  cl_of_den Go.Proofs.Tryz.func52 (by kernel_rfl) mixed (E_heap_work_get w0 at1 cell2 h R) H

def H_heap_work_none : HT := (.s .z (.c .z .z))
theorem E_heap_work_none (w0 v1 e2 : Value) (h : Hp) (R : Value → Hp → Prop) : F_heap_work_none (Sys.of Go.Proofs.Tryz.prog) ids w0 v1 e2 h R = denFn Go.Proofs.Tryz.prog Go.Proofs.Tryz.f53 H_heap_work_none [w0, v1, e2] h R := by kernel_rfl
theorem C_heap_work_none {w0 v1 e2 : Value} {h : Hp} {R : Value → Hp → Prop} (H : F_heap_work_none (Sys.of Go.Proofs.Tryz.prog) ids w0 v1 e2 h R) : (Sys.of Go.Proofs.Tryz.prog).C ids.f_heap_work_none [w0, v1, e2] h R :=
  cl_of_den Go.Proofs.Tryz.func53 (by kernel_rfl) mixed (E_heap_work_none w0 v1 e2 h R) H
theorem E0_heap_work_none (w0 v1 e2 : Value) (h : Hp) (R : Hp → Prop) : F_heap_work_none (Sys.of Go.Proofs.Tryz.prog) ids w0 v1 e2 h (fun _ h => R h) = denFn0 Go.Proofs.Tryz.prog Go.Proofs.Tryz.f53 H_heap_work_none [w0, v1, e2] h (fun _ h => R h) := by kernel_rfl
theorem D_heap_work_none {w0 v1 e2 : Value} {h : Hp} {R : Hp → Prop} (H : F_heap_work_none (Sys.of Go.Proofs.Tryz.prog) ids w0 v1 e2 h (fun _ h => R h)) : (Sys.of Go.Proofs.Tryz.prog).D ids.f_heap_work_none [w0, v1, e2] h R :=
  spd_of_denFn Go.Proofs.Tryz.func53 mixed (E0_heap_work_none w0 v1 e2 h R) H

def H_heap_work_end : HT := (.j [] [0, 1, 2, 28] (.j [15] [0, 1, 2, 28] .z (.c .z .z)) (.s .z (.c .z .z)))
theorem E_heap_work_end (w0 mark1 e2 : Value) (h : Hp) (R : Value → Hp → Prop) : F_heap_work_end (Sys.of Go.Proofs.Tryz.prog) ids w0 mark1 e2 h R = denFn Go.Proofs.Tryz.prog Go.Proofs.Tryz.f54 H_heap_work_end [w0, mark1, e2] h R := by kernel_rfl
theorem C_heap_work_end {w0 mark1 e2 : Value} {h : Hp} {R : Value → Hp → Prop} (H : F_heap_work_end (Sys.of Go.Proofs.Tryz.prog) ids w0 mark1 e2 h R) : (Sys.of Go.Proofs.Tryz.prog).C ids.f_heap_work_end [w0, mark1, e2] h R :=
  cl_of_den Go.Proofs.Tryz.func54 (by kernel_rfl) mixed (E_heap_work_end w0 mark1 e2 h R) H
theorem E0_heap_work_end (w0 mark1 e2 : Value) (h : Hp) (R : Hp → Prop) : F_heap_work_end (Sys.of Go.Proofs.Tryz.prog) ids w0 mark1 e2 h (fun _ h => R h) = denFn0 Go.Proofs.Tryz.prog Go.Proofs.Tryz.f54 H_heap_work_end [w0, mark1, e2] h (fun _ h => R h) := by kernel_rfl
theorem D_heap_work_end {w0 mark1 e2 : Value} {h : Hp} {R : Hp → Prop} (H : F_heap_work_end (Sys.of Go.Proofs.Tryz.prog) ids w0 mark1 e2 h (fun _ h => R h)) : (Sys.of Go.Proofs.Tryz.prog).D ids.f_heap_work_end [w0, mark1, e2] h R :=
  spd_of_denFn Go.Proofs.Tryz.func54 mixed (E0_heap_work_end w0 mark1 e2 h R) H

def H_space_Space_Mark : HT := (.s .z (.s (.s .z (.c (.s .z .z) .z)) (.s .z .z)))
theorem E_space_Space_Mark (s0 : Value) (h : Hp) (R : Value → Hp → Prop) : F_space_Space_Mark (Sys.of Go.Proofs.Tryz.prog) ids s0 h R = denFn Go.Proofs.Tryz.prog Go.Proofs.Tryz.f55 H_space_Space_Mark [s0] h R := by kernel_rfl
theorem C_space_Space_Mark {s0 : Value} {h : Hp} {R : Value → Hp → Prop} (H : F_space_Space_Mark (Sys.of Go.Proofs.Tryz.prog) ids s0 h R) : (Sys.of Go.Proofs.Tryz.prog).C ids.f_space_Space_Mark [s0] h R :=
  cl_of_den Go.Proofs.Tryz.func55 (by kernel_rfl) mixed (E_space_Space_Mark s0 h R) H

def H_heap_work_root : HT := (.s .z (.s (.o (oc [0, 1, 2, 3, 4, 5, 6, 7, 8, 9, 10, 11, 12] .nil)) .z))
theorem E_heap_work_root (w0 cell1 : Value) (h : Hp) (R : Value → Hp → Prop) : F_heap_work_root (Sys.of Go.Proofs.Tryz.prog) ids w0 cell1 h R = denFn Go.Proofs.Tryz.prog Go.Proofs.Tryz.f56 H_heap_work_root [w0, cell1] h R := by kernel_rfl
theorem C_heap_work_root {w0 cell1 : Value} {h : Hp} {R : Value → Hp → Prop} (H : F_heap_work_root (Sys.of Go.Proofs.Tryz.prog) ids w0 cell1 h R) : (Sys.of Go.Proofs.Tryz.prog).C ids.f_heap_work_root [w0, cell1] h R :=
  cl_of_den Go.Proofs.Tryz.func56 (by kernel_rfl) mixed (E_heap_work_root w0 cell1 h R) H

def H_heap_work_take : HT := (.s .z (.s (.o (oc [0, 1, 2, 3, 4, 5, 6, 7, 8, 9, 10, 11, 12, 13, 14] .nil)) (.j [] [4, 5, 25] (.s .z (.c .z .z)) (.s .z .z))))
theorem E_heap_work_take (w0 : Value) (h : Hp) (R : Value → Hp → Prop) : F_heap_work_take (Sys.of Go.Proofs.Tryz.prog) ids w0 h R = denFn Go.Proofs.Tryz.prog Go.Proofs.Tryz.f57 H_heap_work_take [w0] h R := by kernel_rfl
theorem C_heap_work_take {w0 : Value} {h : Hp} {R : Value → Hp → Prop} (H : F_heap_work_take (Sys.of Go.Proofs.Tryz.prog) ids w0 h R) : (Sys.of Go.Proofs.Tryz.prog).C ids.f_heap_work_take [w0] h R :=
  cl_of_den Go.Proofs.Tryz.func57 (by kernel_rfl) mixed (E_heap_work_take w0 h R) H

def H_space_Space_Put : HT := (.s .z (.c .z .z))
theorem E_space_Space_Put (s0 at1 v2 : Value) (h : Hp) (R : Value → Hp → Prop) : F_space_Space_Put (Sys.of Go.Proofs.Tryz.prog) ids s0 at1 v2 h R = denFn Go.Proofs.Tryz.prog Go.Proofs.Tryz.f58 H_space_Space_Put [s0, at1, v2] h R := by kernel_rfl
theorem C_space_Space_Put {s0 at1 v2 : Value} {h : Hp} {R : Value → Hp → Prop} (H : F_space_Space_Put (Sys.of Go.Proofs.Tryz.prog) ids s0 at1 v2 h R) : (Sys.of Go.Proofs.Tryz.prog).C ids.f_space_Space_Put [s0, at1, v2] h R :=
  cl_of_den Go.Proofs.Tryz.func58 (by kernel_rfl) mixed (E_space_Space_Put s0 at1 v2 h R) H

def H_heap_work_put : HT := (.s .z (.c .z .z))
theorem E_heap_work_put (w0 at1 cell2 v3 : Value) (h : Hp) (R : Value → Hp → Prop) : F_heap_work_put (Sys.of Go.Proofs.Tryz.prog) ids w0 at1 cell2 v3 h R = denFn Go.Proofs.Tryz.prog Go.Proofs.Tryz.f59 H_heap_work_put [w0, at1, cell2, v3] h R := by kernel_rfl
theorem C_heap_work_put {w0 at1 cell2 v3 : Value} {h : Hp} {R : Value → Hp → Prop} (H : F_heap_work_put (Sys.of Go.Proofs.Tryz.prog) ids w0 at1 cell2 v3 h R) : (Sys.of Go.Proofs.Tryz.prog).C ids.f_heap_work_put [w0, at1, cell2, v3] h R :=
  cl_of_den Go.Proofs.Tryz.func59 (by kernel_rfl) mixed (E_heap_work_put w0 at1 cell2 v3 h R) H

def H_heap_work_add : HT := (.o (oc [0, 1, 2, 3, 4, 5, 6, 7, 8, 9, 10, 11, 12, 14, 13, 15, 16] .nil))
theorem E_heap_work_add (w0 cell1 n2 : Value) (h : Hp) (R : Value → Hp → Prop) : F_heap_work_add (Sys.of Go.Proofs.Tryz.prog) ids w0 cell1 n2 h R = denFn Go.Proofs.Tryz.prog Go.Proofs.Tryz.f60 H_heap_work_add [w0, cell1, n2] h R := by kernel_rfl
theorem C_heap_work_add {w0 cell1 n2 : Value} {h : Hp} {R : Value → Hp → Prop} (H : F_heap_work_add (Sys.of Go.Proofs.Tryz.prog) ids w0 cell1 n2 h R) : (Sys.of Go.Proofs.Tryz.prog).C ids.f_heap_work_add [w0, cell1, n2] h R :=
  cl_of_den Go.Proofs.Tryz.func60 (by kernel_rfl) mixed (E_heap_work_add w0 cell1 n2 h R) H

def H_heap_work_rise : HT := (.s .z (.s .z (.j [1] [0, 2, 42] (.b (.l [1] [0, 2, 7, 42] (.s (.j [20] [0, 1, 2, 7, 42] .z (.c .z .z)) (.b (.s .z (.s (.s (.o (oc [0, 1, 2, 3, 4, 5] .nil)) (.c .z .z)) (.s .z .z))))))) (.s .z (.s .z .z)))))
theorem E_heap_work_rise (w0 at1 item2 : Value) (h : Hp) (R : Value → Hp → Prop) : F_heap_work_rise (Sys.of Go.Proofs.Tryz.prog) ids w0 at1 item2 h R = denFn Go.Proofs.Tryz.prog Go.Proofs.Tryz.f61 H_heap_work_rise [w0, at1, item2] h R := by kernel_rfl
theorem C_heap_work_rise {w0 at1 item2 : Value} {h : Hp} {R : Value → Hp → Prop} (H : F_heap_work_rise (Sys.of Go.Proofs.Tryz.prog) ids w0 at1 item2 h R) : (Sys.of Go.Proofs.Tryz.prog).C ids.f_heap_work_rise [w0, at1, item2] h R :=
  cl_of_den Go.Proofs.Tryz.func61 (by kernel_rfl) mixed (E_heap_work_rise w0 at1 item2 h R) H

def H_heap_work_remove : HT := (.s .z (.s .z (.s .z (.s .z (.s (.s .z (.c (.s .z .z) .z)) (.s .z (.j [] [0, 2, 9, 11, 12, 13, 14, 91] (.s .z (.c (.s .z (.c .z .z)) .z)) (.j [] [0, 9, 11, 12, 91] (.s .z (.c (.s (.o (oc [0, 1, 2, 3, 4, 5, 6, 7, 8, 9, 10, 11, 12, 13, 14] .nil)) (.s .z (.s .z (.c (.s .z .z) .z)))) .z)) (.s (.s .z (.s .z (.c (.s .z .z) .z))) (.s (.s .z (.c (.s .z .z) .z)) (.s .z .z)))))))))))
theorem E_heap_work_remove (w0 at1 n2 : Value) (h : Hp) (R : Value → Hp → Prop) : F_heap_work_remove (Sys.of Go.Proofs.Tryz.prog) ids w0 at1 n2 h R = denFn Go.Proofs.Tryz.prog Go.Proofs.Tryz.f62 H_heap_work_remove [w0, at1, n2] h R := by kernel_rfl
theorem C_heap_work_remove {w0 at1 n2 : Value} {h : Hp} {R : Value → Hp → Prop} (H : F_heap_work_remove (Sys.of Go.Proofs.Tryz.prog) ids w0 at1 n2 h R) : (Sys.of Go.Proofs.Tryz.prog).C ids.f_heap_work_remove [w0, at1, n2] h R :=
  cl_of_den Go.Proofs.Tryz.func62 (by kernel_rfl) mixed (E_heap_work_remove w0 at1 n2 h R) H

def H_pool_Pool_Check : HT := (.s .z (.s (.b (.j [3] [1, 58] .z (.c (.s .z .z) (.j [22] [1, 58] .z (.c (.s .z .z) (.j [35] [58] .z (.c (.s .z .z) .z))))))) (.s .z .z)))
theorem E_pool_Pool_Check (p0 : Value) (h : Hp) (R : Value → Hp → Prop) : F_pool_Pool_Check (Sys.of Go.Proofs.Tryz.prog) ids p0 h R = denFn Go.Proofs.Tryz.prog Go.Proofs.Tryz.f63 H_pool_Pool_Check [p0] h R := by kernel_rfl
theorem C_pool_Pool_Check {p0 : Value} {h : Hp} {R : Value → Hp → Prop} (H : F_pool_Pool_Check (Sys.of Go.Proofs.Tryz.prog) ids p0 h R) : (Sys.of Go.Proofs.Tryz.prog).C ids.f_pool_Pool_Check [p0] h R :=
  cl_of_den Go.Proofs.Tryz.func63 (by kernel_rfl) mixed (E_pool_Pool_Check p0 h R) H

def H_heap_work_find : HT := (.s .z (.s .z (.s (.s .z (.c (.s .z .z) .z)) (.s .z (.s (.s .z (.s .z (.c (.s .z .z) .z))) (.s .z (.s (.j [45] [0, 1, 8, 10, 13, 67] .z (.c (.s .z .z) .z)) (.s .z (.s (.b (.s .z (.c (.s .z .z) (.s .z (.c (.s .z .z) .z))))) (.s .z .z))))))))))
theorem E_heap_work_find (w0 handle1 : Value) (h : Hp) (R : Value → Hp → Prop) : F_heap_work_find (Sys.of Go.Proofs.Tryz.prog) ids w0 handle1 h R = denFn Go.Proofs.Tryz.prog Go.Proofs.Tryz.f64 H_heap_work_find [w0, handle1] h R := by kernel_rfl
theorem C_heap_work_find {w0 handle1 : Value} {h : Hp} {R : Value → Hp → Prop} (H : F_heap_work_find (Sys.of Go.Proofs.Tryz.prog) ids w0 handle1 h R) : (Sys.of Go.Proofs.Tryz.prog).C ids.f_heap_work_find [w0, handle1] h R :=
  cl_of_den Go.Proofs.Tryz.func64 (by kernel_rfl) mixed (E_heap_work_find w0 handle1 h R) H

def H_simulcastlaw38_step_1 : HT := (.s .z (.b (.s .z (.c (.s .z (.s (.s .z (.c (.j [] [260] .z .z) .z)) (.j [] [2, 260] .z .z))) (.j [140] [0, 1, 2, 3, 4, 260] (.s .z (.c .z .z)) (.c (.s (.s .z (.c .z .z)) (.s .z (.s .z (.s (.s .z (.b (.l [9, 159] [0, 1, 2, 3, 10, 157, 158, 260] (.s .z (.s (.c .z .z) (.j [9] [0, 1, 2, 3, 10, 157, 158, 159, 260] (.b (.s .z (.s .z (.j [178] [0, 1, 2, 3, 9, 10, 13, 157, 158, 159, 260] .z (.c .z .z))))) .z)))))) (.s .z (.s .z (.j [14, 15] [1, 2, 3, 9, 260] (.s .z (.c .z .z)) (.b (.s .z (.c .z (.s .z (.c (.j [] [2, 9, 260] .z .z) (.s (.o (oc [0, 1, 2, 3, 4, 5, 6, 7, 8, 9] .nil)) (.c .z (.s .z (.s .z (.s .z (.o (oc [0, 1, 2, 4, 3, 5, 6, 7] .nil))))))))))))))))))) (.s .z (.s (.j [51] [1, 2, 3, 17, 18, 260] (.o (oc [0, 1, 2, 3, 4, 5, 6, 7, 8, 10, 11, 12, 13, 9, 14, 15] .nil)) (.c (.j [] [260] .z .z) .z)) (.s .z (.j [] [1, 2, 17, 260] .z (.s .z (.s .z .z))))))))))))
theorem E_simulcastlaw38_step_1 (s0 v1 v2 v3 v4 : Value) (h : Hp) (R : Value → Hp → Prop) : F_simulcastlaw38_step_1 (Sys.of Go.Proofs.Tryz.prog) ids s0 v1 v2 v3 v4 h R = denFn Go.Proofs.Tryz.prog Go.Proofs.Tryz.f65 H_simulcastlaw38_step_1 [s0, v1, v2, v3, v4] h R := by kernel_rfl
theorem C_simulcastlaw38_step_1 {s0 v1 v2 v3 v4 : Value} {h : Hp} {R : Value → Hp → Prop} (H : F_simulcastlaw38_step_1 (Sys.of Go.Proofs.Tryz.prog) ids s0 v1 v2 v3 v4 h R) : (Sys.of Go.Proofs.Tryz.prog).C ids.f_simulcastlaw38_step_1 [s0, v1, v2, v3, v4] h R :=
  cl_of_den Go.Proofs.Tryz.func65 (by kernel_rfl) mixed (E_simulcastlaw38_step_1 s0 v1 v2 v3 v4 h R) H

def H_simulcastref38_Without : HT := (.s .z (.s .z (.s .z (.s .z .z))))
theorem E_simulcastref38_Without (l0 i1 : Value) (h : Hp) (R : Value → Hp → Prop) : F_simulcastref38_Without (Sys.of Go.Proofs.Tryz.prog) ids l0 i1 h R = denFn Go.Proofs.Tryz.prog Go.Proofs.Tryz.f66 H_simulcastref38_Without [l0, i1] h R := by kernel_rfl
theorem C_simulcastref38_Without {l0 i1 : Value} {h : Hp} {R : Value → Hp → Prop} (H : F_simulcastref38_Without (Sys.of Go.Proofs.Tryz.prog) ids l0 i1 h R) : (Sys.of Go.Proofs.Tryz.prog).C ids.f_simulcastref38_Without [l0, i1] h R :=
  cl_of_den Go.Proofs.Tryz.func66 (by kernel_rfl) mixed (E_simulcastref38_Without l0 i1 h R) H

def H_simulcastref38_Put : HT := (.s .z (.s .z (.s (.b (.l [5] [0, 3, 35] (.s (.j [18] [0, 3, 5, 35] (.o (oc [0, 1, 2, 3, 4, 5, 6, 7, 8, 9, 10, 11] .nil)) (.c .z .z)) (.b .z)))) (.s .z (.s .z (.s .z (.s .z .z)))))))
theorem E_simulcastref38_Put (l0 x1 : Value) (h : Hp) (R : Value → Hp → Prop) : F_simulcastref38_Put (Sys.of Go.Proofs.Tryz.prog) ids l0 x1 h R = denFn Go.Proofs.Tryz.prog Go.Proofs.Tryz.f67 H_simulcastref38_Put [l0, x1] h R := by kernel_rfl
theorem C_simulcastref38_Put {l0 x1 : Value} {h : Hp} {R : Value → Hp → Prop} (H : F_simulcastref38_Put (Sys.of Go.Proofs.Tryz.prog) ids l0 x1 h R) : (Sys.of Go.Proofs.Tryz.prog).C ids.f_simulcastref38_Put [l0, x1] h R :=
  cl_of_den Go.Proofs.Tryz.func67 (by kernel_rfl) mixed (E_simulcastref38_Put l0 x1 h R) H

def H_simulcastref38_Nodes : HT := (.s .z (.s .z .z))
theorem E_simulcastref38_Nodes (n0 : Value) (h : Hp) (R : Value → Hp → Prop) : F_simulcastref38_Nodes (Sys.of Go.Proofs.Tryz.prog) ids n0 h R = denFn Go.Proofs.Tryz.prog Go.Proofs.Tryz.f68 H_simulcastref38_Nodes [n0] h R := by kernel_rfl
theorem C_simulcastref38_Nodes {n0 : Value} {h : Hp} {R : Value → Hp → Prop} (H : F_simulcastref38_Nodes (Sys.of Go.Proofs.Tryz.prog) ids n0 h R) : (Sys.of Go.Proofs.Tryz.prog).C ids.f_simulcastref38_Nodes [n0] h R :=
  cl_of_den Go.Proofs.Tryz.func68 (by kernel_rfl) mixed (E_simulcastref38_Nodes n0 h R) H

def H_slices_Clone_int64_int64 : HT := (.s .z (.s (.s .z (.c (.s .z .z) .z)) (.s .z .z)))
theorem E_slices_Clone_int64_int64 (s0 : Value) (h : Hp) (R : Value → Hp → Prop) : F_slices_Clone_int64_int64 (Sys.of Go.Proofs.Tryz.prog) ids s0 h R = denFn Go.Proofs.Tryz.prog Go.Proofs.Tryz.f69 H_slices_Clone_int64_int64 [s0] h R := by kernel_rfl
theorem C_slices_Clone_int64_int64 {s0 : Value} {h : Hp} {R : Value → Hp → Prop} (H : F_slices_Clone_int64_int64 (Sys.of Go.Proofs.Tryz.prog) ids s0 h R) : (Sys.of Go.Proofs.Tryz.prog).C ids.f_slices_Clone_int64_int64 [s0] h R :=
  cl_of_den Go.Proofs.Tryz.func69 (by kernel_rfl) mixed (E_slices_Clone_int64_int64 s0 h R) H

def H_simulcastlaw38_is_1 : HT := (.s .z (.s .z (.j [] [0, 1, 2, 4, 6, 7, 8, 128] (.o (oc [0, 1, 2, 3, 4, 5, 6, 7, 8, 9, 10, 11, 12, 13, 15, 16, 17, 14, 18, 19, 20, 21, 23, 24, 25, 22, 26, 27, 28, 29] .nil)) (.s (.s .z (.b (.l [9] [0, 1, 2, 4, 6, 7, 8, 128] (.s (.j [60] [0, 1, 2, 4, 6, 7, 8, 9, 128] .z (.c .z .z)) (.s (.b (.o (oc [0, 1, 2, 3, 4, 5, 6, 7, 8, 9, 10, 11, 12, 13, 14, 15, 16, 17, 18] .nil))) .z))))) (.j [] [0, 2, 128] (.s .z (.c .z .z)) .z)))))
theorem E_simulcastlaw38_is_1 (s0 v1 v2 : Value) (h : Hp) (R : Value → Hp → Prop) : F_simulcastlaw38_is_1 (Sys.of Go.Proofs.Tryz.prog) ids s0 v1 v2 h R = denFn Go.Proofs.Tryz.prog Go.Proofs.Tryz.f70 H_simulcastlaw38_is_1 [s0, v1, v2] h R := by kernel_rfl
theorem C_simulcastlaw38_is_1 {s0 v1 v2 : Value} {h : Hp} {R : Value → Hp → Prop} (H : F_simulcastlaw38_is_1 (Sys.of Go.Proofs.Tryz.prog) ids s0 v1 v2 h R) : (Sys.of Go.Proofs.Tryz.prog).C ids.f_simulcastlaw38_is_1 [s0, v1, v2] h R :=
  cl_of_den Go.Proofs.Tryz.func70 (by kernel_rfl) mixed (E_simulcastlaw38_is_1 s0 v1 v2 h R) H

def H_space_Space_Reads : HT := (.s .z (.s .z (.s (.s .z (.c (.s .z .z) .z)) (.s (.s .z (.b (.l [3] [12, 24] (.s .z (.s (.c .z .z) (.b (.s .z .z))))))) (.s .z (.s .z .z))))))
theorem E_space_Space_Reads (s0 : Value) (h : Hp) (R : Value → Hp → Prop) : F_space_Space_Reads (Sys.of Go.Proofs.Tryz.prog) ids s0 h R = denFn Go.Proofs.Tryz.prog Go.Proofs.Tryz.f71 H_space_Space_Reads [s0] h R := by kernel_rfl
theorem C_space_Space_Reads {s0 : Value} {h : Hp} {R : Value → Hp → Prop} (H : F_space_Space_Reads (Sys.of Go.Proofs.Tryz.prog) ids s0 h R) : (Sys.of Go.Proofs.Tryz.prog).C ids.f_space_Space_Reads [s0] h R :=
  cl_of_den Go.Proofs.Tryz.func71 (by kernel_rfl) mixed (E_space_Space_Reads s0 h R) H

def H_space_Space_value : HT := (.s .z (.s (.s .z (.s .z (.c (.s .z .z) .z))) (.s .z .z)))
theorem E_space_Space_value (s0 at1 : Value) (h : Hp) (R : Value → Hp → Prop) : F_space_Space_value (Sys.of Go.Proofs.Tryz.prog) ids s0 at1 h R = denFn Go.Proofs.Tryz.prog Go.Proofs.Tryz.f72 H_space_Space_value [s0, at1] h R := by kernel_rfl
theorem C_space_Space_value {s0 at1 : Value} {h : Hp} {R : Value → Hp → Prop} (H : F_space_Space_value (Sys.of Go.Proofs.Tryz.prog) ids s0 at1 h R) : (Sys.of Go.Proofs.Tryz.prog).C ids.f_space_Space_value [s0, at1] h R :=
  cl_of_den Go.Proofs.Tryz.func72 (by kernel_rfl) mixed (E_space_Space_value s0 at1 h R) H

def H_entry_Check : HT := (.s .z (.s (.b (.s .z (.c (.s .z .z) (.s .z (.c (.s .z .z) .z))))) (.s (.s .z (.b (.l [16] [0, 14, 15, 32] (.s .z (.s (.c .z .z) (.s (.b (.s .z (.s (.s .z (.s .z (.c (.s .z .z) .z))) (.s .z (.c (.s .z .z) .z))))) .z)))))) (.s .z .z))))
theorem E_entry_Check (l0 : Value) (h : Hp) (R : Value → Hp → Prop) : F_entry_Check (Sys.of Go.Proofs.Tryz.prog) ids l0 h R = denFn Go.Proofs.Tryz.prog Go.Proofs.Tryz.f73 H_entry_Check [l0] h R := by kernel_rfl
theorem C_entry_Check {l0 : Value} {h : Hp} {R : Value → Hp → Prop} (H : F_entry_Check (Sys.of Go.Proofs.Tryz.prog) ids l0 h R) : (Sys.of Go.Proofs.Tryz.prog).C ids.f_entry_Check [l0] h R :=
  cl_of_den Go.Proofs.Tryz.func73 (by kernel_rfl) mixed (E_entry_Check l0 h R) H

def H_slices_Sort_api_Loc_api_Loc : HT := (.s .z .z)
theorem E_slices_Sort_api_Loc_api_Loc (x0 : Value) (h : Hp) (R : Value → Hp → Prop) : F_slices_Sort_api_Loc_api_Loc (Sys.of Go.Proofs.Tryz.prog) ids x0 h R = denFn Go.Proofs.Tryz.prog Go.Proofs.Tryz.f74 H_slices_Sort_api_Loc_api_Loc [x0] h R := by kernel_rfl
theorem C_slices_Sort_api_Loc_api_Loc {x0 : Value} {h : Hp} {R : Value → Hp → Prop} (H : F_slices_Sort_api_Loc_api_Loc (Sys.of Go.Proofs.Tryz.prog) ids x0 h R) : (Sys.of Go.Proofs.Tryz.prog).C ids.f_slices_Sort_api_Loc_api_Loc [x0] h R :=
  cl_of_den Go.Proofs.Tryz.func74 (by kernel_rfl) mixed (E_slices_Sort_api_Loc_api_Loc x0 h R) H

def H_slices_Compact_api_Loc_api_Loc : HT := (.s .z (.s (.s .z (.c (.s .z .z) .z)) (.s (.s .z (.b (.l [3] [0, 61] (.s (.s .z (.c .z .z)) (.s (.b (.s (.o (oc [0, 1, 2, 3, 4, 5, 6, 7, 8, 9] .nil)) (.c (.s .z (.s (.s .z (.b (.l [3, 5] [0, 4, 61] (.s (.s .z (.c .z .z)) (.j [3] [0, 4, 5, 61] (.b (.s (.o (oc [0, 1, 2, 3, 4, 5, 6, 7, 8, 9] .nil)) (.c (.s .z .z) .z))) .z))))) (.s .z (.s .z .z)))) .z))) .z))))) (.s .z .z))))
theorem E_slices_Compact_api_Loc_api_Loc (s0 : Value) (h : Hp) (R : Value → Hp → Prop) : F_slices_Compact_api_Loc_api_Loc (Sys.of Go.Proofs.Tryz.prog) ids s0 h R = denFn Go.Proofs.Tryz.prog Go.Proofs.Tryz.f75 H_slices_Compact_api_Loc_api_Loc [s0] h R := by kernel_rfl
theorem C_slices_Compact_api_Loc_api_Loc {s0 : Value} {h : Hp} {R : Value → Hp → Prop} (H : F_slices_Compact_api_Loc_api_Loc (Sys.of Go.Proofs.Tryz.prog) ids s0 h R) : (Sys.of Go.Proofs.Tryz.prog).C ids.f_slices_Compact_api_Loc_api_Loc [s0] h R :=
  cl_of_den Go.Proofs.Tryz.func75 (by kernel_rfl) mixed (E_slices_Compact_api_Loc_api_Loc s0 h R) H

def H_space_Space_reads : HT := (.s .z (.s (.s .z (.c (.s .z .z) .z)) (.s (.s .z (.s .z (.c (.s .z (.s .z .z)) .z))) (.s .z (.s .z .z)))))
theorem E_space_Space_reads (s0 at1 : Value) (h : Hp) (R : Value → Hp → Prop) : F_space_Space_reads (Sys.of Go.Proofs.Tryz.prog) ids s0 at1 h R = denFn Go.Proofs.Tryz.prog Go.Proofs.Tryz.f76 H_space_Space_reads [s0, at1] h R := by kernel_rfl
theorem C_space_Space_reads {s0 at1 : Value} {h : Hp} {R : Value → Hp → Prop} (H : F_space_Space_reads (Sys.of Go.Proofs.Tryz.prog) ids s0 at1 h R) : (Sys.of Go.Proofs.Tryz.prog).C ids.f_space_Space_reads [s0, at1] h R :=
  cl_of_den Go.Proofs.Tryz.func76 (by kernel_rfl) mixed (E_space_Space_reads s0 at1 h R) H

def H_heap_work_row : HT := (.s .z (.s .z .z))
theorem E_heap_work_row (w0 at1 : Value) (h : Hp) (R : Value → Hp → Prop) : F_heap_work_row (Sys.of Go.Proofs.Tryz.prog) ids w0 at1 h R = denFn Go.Proofs.Tryz.prog Go.Proofs.Tryz.f77 H_heap_work_row [w0, at1] h R := by kernel_rfl
theorem C_heap_work_row {w0 at1 : Value} {h : Hp} {R : Value → Hp → Prop} (H : F_heap_work_row (Sys.of Go.Proofs.Tryz.prog) ids w0 at1 h R) : (Sys.of Go.Proofs.Tryz.prog).C ids.f_heap_work_row [w0, at1] h R :=
  cl_of_den Go.Proofs.Tryz.func77 (by kernel_rfl) mixed (E_heap_work_row w0 at1 h R) H

def H_heap_work_node : HT := (.s .z (.s .z (.s (.s .z (.s .z (.c (.s .z (.s .z .z)) .z))) (.s .z .z))))
theorem E_heap_work_node (w0 n1 : Value) (h : Hp) (R : Value → Hp → Prop) : F_heap_work_node (Sys.of Go.Proofs.Tryz.prog) ids w0 n1 h R = denFn Go.Proofs.Tryz.prog Go.Proofs.Tryz.f78 H_heap_work_node [w0, n1] h R := by kernel_rfl
theorem C_heap_work_node {w0 n1 : Value} {h : Hp} {R : Value → Hp → Prop} (H : F_heap_work_node (Sys.of Go.Proofs.Tryz.prog) ids w0 n1 h R) : (Sys.of Go.Proofs.Tryz.prog).C ids.f_heap_work_node [w0, n1] h R :=
  cl_of_den Go.Proofs.Tryz.func78 (by kernel_rfl) mixed (E_heap_work_node w0 n1 h R) H

def H_slices_stableCmpFunc_api_Loc : HT := (.s .z (.s .z (.s (.b (.l [7, 8] [0, 1, 2, 6, 63] (.s (.s .z (.c .z .z)) (.b (.s .z (.s .z .z)))))) (.s .z (.b (.l [6] [0, 1, 2, 63] (.s (.s .z (.c .z .z)) (.b (.s .z (.s (.b (.l [7, 8] [0, 1, 2, 6, 63] (.s (.s .z (.c .z .z)) (.b (.s .z (.s .z .z)))))) (.j [] [0, 1, 2, 6, 63] (.s .z (.s .z (.c .z .z))) .z)))))))))))
theorem E_slices_stableCmpFunc_api_Loc (data0 n1 cmp2 : Value) (h : Hp) (R : Value → Hp → Prop) : F_slices_stableCmpFunc_api_Loc (Sys.of Go.Proofs.Tryz.prog) ids data0 n1 cmp2 h R = denFn Go.Proofs.Tryz.prog Go.Proofs.Tryz.f79 H_slices_stableCmpFunc_api_Loc [data0, n1, cmp2] h R := by kernel_rfl
theorem C_slices_stableCmpFunc_api_Loc {data0 n1 cmp2 : Value} {h : Hp} {R : Value → Hp → Prop} (H : F_slices_stableCmpFunc_api_Loc (Sys.of Go.Proofs.Tryz.prog) ids data0 n1 cmp2 h R) : (Sys.of Go.Proofs.Tryz.prog).C ids.f_slices_stableCmpFunc_api_Loc [data0, n1, cmp2] h R :=
  cl_of_den Go.Proofs.Tryz.func79 (by kernel_rfl) mixed (E_slices_stableCmpFunc_api_Loc data0 n1 cmp2 h R) H

def H_space_Space_Back : HT := (.j [19] [0, 1, 30] .z (.c .z .z))
theorem E_space_Space_Back (s0 mark1 : Value) (h : Hp) (R : Value → Hp → Prop) : F_space_Space_Back (Sys.of Go.Proofs.Tryz.prog) ids s0 mark1 h R = denFn Go.Proofs.Tryz.prog Go.Proofs.Tryz.f80 H_space_Space_Back [s0, mark1] h R := by kernel_rfl
theorem C_space_Space_Back {s0 mark1 : Value} {h : Hp} {R : Value → Hp → Prop} (H : F_space_Space_Back (Sys.of Go.Proofs.Tryz.prog) ids s0 mark1 h R) : (Sys.of Go.Proofs.Tryz.prog).C ids.f_space_Space_Back [s0, mark1] h R :=
  cl_of_den Go.Proofs.Tryz.func80 (by kernel_rfl) mixed (E_space_Space_Back s0 mark1 h R) H

def H_pool_Pool_Take : HT := (.s .z (.s (.s .z (.s .z (.c (.s .z .z) .z))) (.s (.s .z (.s .z (.c (.s .z (.s (.s .z (.s .z (.c (.s .z .z) .z))) (.s (.o (oc [0, 1, 2, 3, 4, 5, 6] .nil)) (.s .z (.s .z .z))))) .z))) (.s .z (.s (.j [55] [1, 2, 11, 68] .z (.c (.s .z .z) .z)) (.s .z (.s .z .z)))))))
theorem E_pool_Pool_Take (p0 s1 : Value) (h : Hp) (R : Value → Hp → Prop) : F_pool_Pool_Take (Sys.of Go.Proofs.Tryz.prog) ids p0 s1 h R = denFn Go.Proofs.Tryz.prog Go.Proofs.Tryz.f81 H_pool_Pool_Take [p0, s1] h R := by kernel_rfl
theorem C_pool_Pool_Take {p0 s1 : Value} {h : Hp} {R : Value → Hp → Prop} (H : F_pool_Pool_Take (Sys.of Go.Proofs.Tryz.prog) ids p0 s1 h R) : (Sys.of Go.Proofs.Tryz.prog).C ids.f_pool_Pool_Take [p0, s1] h R :=
  cl_of_den Go.Proofs.Tryz.func81 (by kernel_rfl) mixed (E_pool_Pool_Take p0 s1 h R) H

def H_heap_work_lay : HT := (.s .z (.s .z .z))
theorem E_heap_work_lay (w0 at1 item2 : Value) (h : Hp) (R : Value → Hp → Prop) : F_heap_work_lay (Sys.of Go.Proofs.Tryz.prog) ids w0 at1 item2 h R = denFn Go.Proofs.Tryz.prog Go.Proofs.Tryz.f82 H_heap_work_lay [w0, at1, item2] h R := by kernel_rfl
theorem C_heap_work_lay {w0 at1 item2 : Value} {h : Hp} {R : Value → Hp → Prop} (H : F_heap_work_lay (Sys.of Go.Proofs.Tryz.prog) ids w0 at1 item2 h R) : (Sys.of Go.Proofs.Tryz.prog).C ids.f_heap_work_lay [w0, at1, item2] h R :=
  cl_of_den Go.Proofs.Tryz.func82 (by kernel_rfl) mixed (E_heap_work_lay w0 at1 item2 h R) H

def H_heap_work_sink : HT := (.s .z (.j [1] [0, 2, 63] (.b (.l [1] [0, 2, 3, 8, 63] (.s (.j [25] [0, 1, 2, 3, 8, 63] .z (.c .z .z)) (.b (.s .z (.s .z (.j [9, 10] [0, 1, 2, 3, 8, 63] (.s .z (.c (.s .z (.s .z (.c .z .z))) .z)) (.s (.s (.o (oc [0, 1, 3, 2, 4, 5] .nil)) (.c .z .z)) (.s .z .z))))))))) .z))
theorem E_heap_work_sink (w0 at1 item2 n3 : Value) (h : Hp) (R : Value → Hp → Prop) : F_heap_work_sink (Sys.of Go.Proofs.Tryz.prog) ids w0 at1 item2 n3 h R = denFn Go.Proofs.Tryz.prog Go.Proofs.Tryz.f83 H_heap_work_sink [w0, at1, item2, n3] h R := by kernel_rfl
theorem C_heap_work_sink {w0 at1 item2 n3 : Value} {h : Hp} {R : Value → Hp → Prop} (H : F_heap_work_sink (Sys.of Go.Proofs.Tryz.prog) ids w0 at1 item2 n3 h R) : (Sys.of Go.Proofs.Tryz.prog).C ids.f_heap_work_sink [w0, at1, item2, n3] h R :=
  cl_of_den Go.Proofs.Tryz.func83 (by kernel_rfl) mixed (E_heap_work_sink w0 at1 item2 n3 h R) H

def H_heap_work_give : HT := (.s .z (.s (.o (oc [0, 1, 2, 3, 4, 5, 6, 7, 8, 9, 10, 11] .nil)) (.j [] [5, 22] (.s .z (.c .z .z)) (.s .z .z))))
theorem E_heap_work_give (w0 at1 : Value) (h : Hp) (R : Value → Hp → Prop) : F_heap_work_give (Sys.of Go.Proofs.Tryz.prog) ids w0 at1 h R = denFn Go.Proofs.Tryz.prog Go.Proofs.Tryz.f84 H_heap_work_give [w0, at1] h R := by kernel_rfl
theorem C_heap_work_give {w0 at1 : Value} {h : Hp} {R : Value → Hp → Prop} (H : F_heap_work_give (Sys.of Go.Proofs.Tryz.prog) ids w0 at1 h R) : (Sys.of Go.Proofs.Tryz.prog).C ids.f_heap_work_give [w0, at1] h R :=
  cl_of_den Go.Proofs.Tryz.func84 (by kernel_rfl) mixed (E_heap_work_give w0 at1 h R) H

def H_simulcastref38_ahead : HT := (.s .z (.s (.s .z (.c (.s .z .z) .z)) (.s .z .z)))
theorem E_simulcastref38_ahead (a0 b1 : Value) (h : Hp) (R : Value → Hp → Prop) : F_simulcastref38_ahead (Sys.of Go.Proofs.Tryz.prog) ids a0 b1 h R = denFn Go.Proofs.Tryz.prog Go.Proofs.Tryz.f85 H_simulcastref38_ahead [a0, b1] h R := by kernel_rfl
theorem C_simulcastref38_ahead {a0 b1 : Value} {h : Hp} {R : Value → Hp → Prop} (H : F_simulcastref38_ahead (Sys.of Go.Proofs.Tryz.prog) ids a0 b1 h R) : (Sys.of Go.Proofs.Tryz.prog).C ids.f_simulcastref38_ahead [a0, b1] h R :=
  cl_of_den Go.Proofs.Tryz.func85 (by kernel_rfl) mixed (E_simulcastref38_ahead a0 b1 h R) H

def H_space_Space_last : HT := (.s .z (.s (.s .z (.b (.l [5] [0, 1, 27] (.s (.s .z (.c .z .z)) (.s (.b (.s .z (.c (.s .z .z) .z))) .z))))) (.s .z .z)))
theorem E_space_Space_last (s0 at1 : Value) (h : Hp) (R : Value → Hp → Prop) : F_space_Space_last (Sys.of Go.Proofs.Tryz.prog) ids s0 at1 h R = denFn Go.Proofs.Tryz.prog Go.Proofs.Tryz.f86 H_space_Space_last [s0, at1] h R := by kernel_rfl
theorem C_space_Space_last {s0 at1 : Value} {h : Hp} {R : Value → Hp → Prop} (H : F_space_Space_last (Sys.of Go.Proofs.Tryz.prog) ids s0 at1 h R) : (Sys.of Go.Proofs.Tryz.prog).C ids.f_space_Space_last [s0, at1] h R :=
  cl_of_den Go.Proofs.Tryz.func86 (by kernel_rfl) mixed (E_space_Space_last s0 at1 h R) H

def H_entry_wrong : HT := (.s .z (.s (.b (.j [3] [1, 38] .z (.c (.s .z .z) (.s .z (.c (.s .z .z) (.j [17] [1, 38] .z (.c (.s .z .z) (.j [26] [38] .z (.c (.s .z .z) .z))))))))) (.s .z .z)))
theorem E_entry_wrong (x0 : Value) (h : Hp) (R : Value → Hp → Prop) : F_entry_wrong (Sys.of Go.Proofs.Tryz.prog) ids x0 h R = denFn Go.Proofs.Tryz.prog Go.Proofs.Tryz.f87 H_entry_wrong [x0] h R := by kernel_rfl
theorem C_entry_wrong {x0 : Value} {h : Hp} {R : Value → Hp → Prop} (H : F_entry_wrong (Sys.of Go.Proofs.Tryz.prog) ids x0 h R) : (Sys.of Go.Proofs.Tryz.prog).C ids.f_entry_wrong [x0] h R :=
  cl_of_den Go.Proofs.Tryz.func87 (by kernel_rfl) mixed (E_entry_wrong x0 h R) H

def H_slices_ContainsFunc_api_Entry_api_Entry : HT := (.s .z (.s .z .z))
theorem E_slices_ContainsFunc_api_Entry_api_Entry (s0 f1 : Value) (h : Hp) (R : Value → Hp → Prop) : F_slices_ContainsFunc_api_Entry_api_Entry (Sys.of Go.Proofs.Tryz.prog) ids s0 f1 h R = denFn Go.Proofs.Tryz.prog Go.Proofs.Tryz.f88 H_slices_ContainsFunc_api_Entry_api_Entry [s0, f1] h R := by kernel_rfl
theorem C_slices_ContainsFunc_api_Entry_api_Entry {s0 f1 : Value} {h : Hp} {R : Value → Hp → Prop} (H : F_slices_ContainsFunc_api_Entry_api_Entry (Sys.of Go.Proofs.Tryz.prog) ids s0 f1 h R) : (Sys.of Go.Proofs.Tryz.prog).C ids.f_slices_ContainsFunc_api_Entry_api_Entry [s0, f1] h R :=
  cl_of_den Go.Proofs.Tryz.func88 (by kernel_rfl) mixed (E_slices_ContainsFunc_api_Entry_api_Entry s0 f1 h R) H

def H_entry_Check_1 : HT := (.s .z (.s .z .z))
theorem E_entry_Check_1 (y0 v1 : Value) (h : Hp) (R : Value → Hp → Prop) : F_entry_Check_1 (Sys.of Go.Proofs.Tryz.prog) ids y0 v1 h R = denFn Go.Proofs.Tryz.prog Go.Proofs.Tryz.f89 H_entry_Check_1 [y0, v1] h R := by kernel_rfl
theorem C_entry_Check_1 {y0 v1 : Value} {h : Hp} {R : Value → Hp → Prop} (H : F_entry_Check_1 (Sys.of Go.Proofs.Tryz.prog) ids y0 v1 h R) : (Sys.of Go.Proofs.Tryz.prog).C ids.f_entry_Check_1 [y0, v1] h R :=
  cl_of_den Go.Proofs.Tryz.func89 (by kernel_rfl) mixed (E_entry_Check_1 y0 v1 h R) H

def H_slices_pdqsortOrdered_api_Loc : HT := (.s .z (.s .z (.b (.l [1, 2, 3, 8, 9] [0, 134] (.b (.s .z (.s (.s .z (.c (.s .z .z) .z)) (.s (.s .z (.c (.s .z .z) .z)) (.j [3] [0, 1, 2, 8, 9, 10, 134] (.s .z (.c (.s .z .z) .z)) (.s .z (.j [11, 12] [0, 1, 2, 3, 8, 9, 10, 134] (.s .z (.c (.s .z (.s .z .z)) .z)) (.j [] [0, 1, 2, 3, 8, 9, 10, 11, 134] (.j [68] [0, 1, 2, 3, 8, 9, 10, 11, 134] .z (.c (.s .z (.c .z .z)) .z)) (.s (.j [87] [0, 1, 2, 3, 8, 9, 10, 11, 134] (.o (oc [0, 1, 2, 3, 4, 5, 6, 7, 8, 9, 10, 11, 12, 13, 14] .nil)) (.c (.s .z (.s .z .z)) .z)) (.s .z (.s .z (.s .z (.s .z (.s .z (.c (.s .z (.s .z .z)) (.s .z (.s .z .z)))))))))))))))))))))
theorem E_slices_pdqsortOrdered_api_Loc (data0 a1 b2 limit3 : Value) (h : Hp) (R : Value → Hp → Prop) : F_slices_pdqsortOrdered_api_Loc (Sys.of Go.Proofs.Tryz.prog) ids data0 a1 b2 limit3 h R = denFn Go.Proofs.Tryz.prog Go.Proofs.Tryz.f90 H_slices_pdqsortOrdered_api_Loc [data0, a1, b2, limit3] h R := by kernel_rfl
theorem C_slices_pdqsortOrdered_api_Loc {data0 a1 b2 limit3 : Value} {h : Hp} {R : Value → Hp → Prop} (H : F_slices_pdqsortOrdered_api_Loc (Sys.of Go.Proofs.Tryz.prog) ids data0 a1 b2 limit3 h R) : (Sys.of Go.Proofs.Tryz.prog).C ids.f_slices_pdqsortOrdered_api_Loc [data0, a1, b2, limit3] h R :=
  cl_of_den Go.Proofs.Tryz.func90 (by kernel_rfl) mixed (E_slices_pdqsortOrdered_api_Loc data0 a1 b2 limit3 h R) H

def H_math_bits_Len : HT := (.s .z (.s (.c (.s .z .z) .z) (.s .z .z)))
theorem E_math_bits_Len (x0 : Value) (h : Hp) (R : Value → Hp → Prop) : F_math_bits_Len (Sys.of Go.Proofs.Tryz.prog) ids x0 h R = denFn Go.Proofs.Tryz.prog Go.Proofs.Tryz.f91 H_math_bits_Len [x0] h R := by kernel_rfl
theorem C_math_bits_Len {x0 : Value} {h : Hp} {R : Value → Hp → Prop} (H : F_math_bits_Len (Sys.of Go.Proofs.Tryz.prog) ids x0 h R) : (Sys.of Go.Proofs.Tryz.prog).C ids.f_math_bits_Len [x0] h R :=
  cl_of_den Go.Proofs.Tryz.func91 (by kernel_rfl) mixed (E_math_bits_Len x0 h R) H

def H_slices_insertionSortCmpFunc_api_Loc : HT := (.s .z (.b (.l [8] [0, 1, 2, 3, 53] (.s (.s .z (.c .z .z)) (.s (.b (.s .z (.b (.l [9] [0, 1, 2, 3, 8, 53] (.s (.j [34] [0, 1, 2, 3, 8, 9, 53] (.o (oc [0, 1, 2, 3, 4, 5, 6, 7, 8, 9, 10, 11, 12, 13, 14, 15, 16] .nil)) (.c .z .z)) (.s (.b (.o (oc [0, 1, 2, 3, 4, 5, 6, 7, 8, 9, 10, 11, 12, 13, 14, 15, 16, 17] .nil))) .z)))))) .z)))))
theorem E_slices_insertionSortCmpFunc_api_Loc (data0 a1 b2 cmp3 : Value) (h : Hp) (R : Value → Hp → Prop) : F_slices_insertionSortCmpFunc_api_Loc (Sys.of Go.Proofs.Tryz.prog) ids data0 a1 b2 cmp3 h R = denFn Go.Proofs.Tryz.prog Go.Proofs.Tryz.f92 H_slices_insertionSortCmpFunc_api_Loc [data0, a1, b2, cmp3] h R := by kernel_rfl
theorem C_slices_insertionSortCmpFunc_api_Loc {data0 a1 b2 cmp3 : Value} {h : Hp} {R : Value → Hp → Prop} (H : F_slices_insertionSortCmpFunc_api_Loc (Sys.of Go.Proofs.Tryz.prog) ids data0 a1 b2 cmp3 h R) : (Sys.of Go.Proofs.Tryz.prog).C ids.f_slices_insertionSortCmpFunc_api_Loc [data0, a1, b2, cmp3] h R :=
  cl_of_den Go.Proofs.Tryz.func92 (by kernel_rfl) mixed (E_slices_insertionSortCmpFunc_api_Loc data0 a1 b2 cmp3 h R) H

def H_slices_symMergeCmpFunc_api_Loc : HT := (.s (.s .z (.c (.s .z (.s .z (.s (.b (.l [10, 11] [0, 1, 4, 220] (.s (.s .z (.c .z .z)) (.b (.s .z (.s (.o (oc [0, 1, 2, 3, 4, 5, 6, 7, 8, 9, 10] .nil)) (.c .z .z))))))) (.s (.s .z (.b (.l [13] [0, 10, 220] (.s (.s .z (.c .z .z)) (.s (.b (.o (oc [0, 1, 2, 3, 4, 5, 6, 7, 8, 9, 10, 11, 12, 13, 14, 15, 16, 17] .nil))) .z))))) .z)))) .z)) (.s (.s .z (.c (.s .z (.s .z (.s (.b (.l [14, 15] [0, 2, 4, 220] (.s (.s .z (.c .z .z)) (.b (.s .z (.s (.o (oc [0, 1, 2, 3, 4, 5, 6, 7, 8, 9, 10, 11] .nil)) (.c .z .z))))))) (.s (.s .z (.b (.l [17] [0, 14, 220] (.s (.s .z (.c .z .z)) (.s (.b (.o (oc [0, 1, 2, 3, 4, 5, 6, 7, 8, 9, 10, 11, 12, 13, 14, 15, 16, 17] .nil))) .z))))) .z)))) .z)) (.s .z (.s .z (.s .z (.j [20, 21] [0, 1, 2, 3, 4, 18, 19, 220] (.s .z (.c (.s .z .z) (.s .z .z))) (.s .z (.s (.b (.l [20, 21] [0, 1, 2, 3, 4, 18, 19, 22, 220] (.s (.s .z (.c .z .z)) (.b (.s .z (.s (.o (oc [0, 1, 2, 3, 4, 5, 6, 7, 8, 9, 10, 11, 12, 13] .nil)) (.c .z .z))))))) (.s .z (.j [] [0, 1, 3, 4, 18, 20, 24, 220] (.j [185] [0, 1, 2, 3, 4, 18, 20, 24, 220] .z (.c .z .z)) (.j [] [0, 3, 4, 18, 24, 220] (.j [199] [0, 1, 3, 4, 18, 20, 24, 220] .z (.c .z .z)) (.j [213] [0, 3, 4, 18, 24, 220] .z (.c .z .z)))))))))))))
theorem E_slices_symMergeCmpFunc_api_Loc (data0 a1 m2 b3 cmp4 : Value) (h : Hp) (R : Value → Hp → Prop) : F_slices_symMergeCmpFunc_api_Loc (Sys.of Go.Proofs.Tryz.prog) ids data0 a1 m2 b3 cmp4 h R = denFn Go.Proofs.Tryz.prog Go.Proofs.Tryz.f93 H_slices_symMergeCmpFunc_api_Loc [data0, a1, m2, b3, cmp4] h R := by kernel_rfl
theorem C_slices_symMergeCmpFunc_api_Loc {data0 a1 m2 b3 cmp4 : Value} {h : Hp} {R : Value → Hp → Prop} (H : F_slices_symMergeCmpFunc_api_Loc (Sys.of Go.Proofs.Tryz.prog) ids data0 a1 m2 b3 cmp4 h R) : (Sys.of Go.Proofs.Tryz.prog).C ids.f_slices_symMergeCmpFunc_api_Loc [data0, a1, m2, b3, cmp4] h R :=
  cl_of_den Go.Proofs.Tryz.func93 (by kernel_rfl) mixed (E_slices_symMergeCmpFunc_api_Loc data0 a1 m2 b3 cmp4 h R) H

def H_pool_Pool_add : HT := (.s .z (.o (oc [0, 1, 2, 3, 4, 5, 6, 7, 8, 9, 11, 10, 12, 13] .nil)))
theorem E_pool_Pool_add (p0 s1 count2 n3 : Value) (h : Hp) (R : Value → Hp → Prop) : F_pool_Pool_add (Sys.of Go.Proofs.Tryz.prog) ids p0 s1 count2 n3 h R = denFn Go.Proofs.Tryz.prog Go.Proofs.Tryz.f94 H_pool_Pool_add [p0, s1, count2, n3] h R := by kernel_rfl
theorem C_pool_Pool_add {p0 s1 count2 n3 : Value} {h : Hp} {R : Value → Hp → Prop} (H : F_pool_Pool_add (Sys.of Go.Proofs.Tryz.prog) ids p0 s1 count2 n3 h R) : (Sys.of Go.Proofs.Tryz.prog).C ids.f_pool_Pool_add [p0, s1, count2, n3] h R :=
  cl_of_den Go.Proofs.Tryz.func94 (by kernel_rfl) mixed (E_pool_Pool_add p0 s1 count2 n3 h R) H

def H_pool_Pool_Give : HT := (.s .z (.s (.s .z (.s .z (.c (.s .z .z) .z))) (.s .z (.s .z (.s .z (.s .z .z))))))
theorem E_pool_Pool_Give (p0 s1 at2 : Value) (h : Hp) (R : Value → Hp → Prop) : F_pool_Pool_Give (Sys.of Go.Proofs.Tryz.prog) ids p0 s1 at2 h R = denFn Go.Proofs.Tryz.prog Go.Proofs.Tryz.f95 H_pool_Pool_Give [p0, s1, at2] h R := by kernel_rfl
theorem C_pool_Pool_Give {p0 s1 at2 : Value} {h : Hp} {R : Value → Hp → Prop} (H : F_pool_Pool_Give (Sys.of Go.Proofs.Tryz.prog) ids p0 s1 at2 h R) : (Sys.of Go.Proofs.Tryz.prog).C ids.f_pool_Pool_Give [p0, s1, at2] h R :=
  cl_of_den Go.Proofs.Tryz.func95 (by kernel_rfl) mixed (E_pool_Pool_Give p0 s1 at2 h R) H

def H_word_Plain : HT := (.s .z (.s .z .z))
theorem E_word_Plain (w0 : Value) (h : Hp) (R : Value → Hp → Prop) : F_word_Plain (Sys.of Go.Proofs.Tryz.prog) ids w0 h R = denFn Go.Proofs.Tryz.prog Go.Proofs.Tryz.f96 H_word_Plain [w0] h R := by kernel_rfl
theorem C_word_Plain {w0 : Value} {h : Hp} {R : Value → Hp → Prop} (H : F_word_Plain (Sys.of Go.Proofs.Tryz.prog) ids w0 h R) : (Sys.of Go.Proofs.Tryz.prog).C ids.f_word_Plain [w0] h R :=
  cl_of_den Go.Proofs.Tryz.func96 (by kernel_rfl) mixed (E_word_Plain w0 h R) H

def H_slices_IndexFunc_api_Entry_api_Entry : HT := (.s .z (.s (.s .z (.b (.l [8] [0, 1, 7, 19] (.s .z (.s (.c .z .z) (.s (.b (.s .z (.s .z (.c (.s .z .z) .z)))) .z)))))) (.s .z .z)))
theorem E_slices_IndexFunc_api_Entry_api_Entry (s0 f1 : Value) (h : Hp) (R : Value → Hp → Prop) : F_slices_IndexFunc_api_Entry_api_Entry (Sys.of Go.Proofs.Tryz.prog) ids s0 f1 h R = denFn Go.Proofs.Tryz.prog Go.Proofs.Tryz.f97 H_slices_IndexFunc_api_Entry_api_Entry [s0, f1] h R := by kernel_rfl
theorem C_slices_IndexFunc_api_Entry_api_Entry {s0 f1 : Value} {h : Hp} {R : Value → Hp → Prop} (H : F_slices_IndexFunc_api_Entry_api_Entry (Sys.of Go.Proofs.Tryz.prog) ids s0 f1 h R) : (Sys.of Go.Proofs.Tryz.prog).C ids.f_slices_IndexFunc_api_Entry_api_Entry [s0, f1] h R :=
  cl_of_den Go.Proofs.Tryz.func97 (by kernel_rfl) mixed (E_slices_IndexFunc_api_Entry_api_Entry s0 f1 h R) H

def H_slices_insertionSortOrdered_api_Loc : HT := (.s .z (.b (.l [6] [0, 1, 2, 49] (.s (.s .z (.c .z .z)) (.s (.b (.s .z (.b (.l [7] [0, 1, 2, 6, 49] (.s (.j [30] [0, 1, 2, 6, 7, 49] (.o (oc [0, 1, 2, 3, 4, 5, 6, 7, 8, 9, 10, 11, 12, 13, 14] .nil)) (.c .z .z)) (.s (.b (.o (oc [0, 1, 2, 3, 4, 5, 6, 7, 8, 9, 10, 11, 12, 13, 14, 15, 16, 17] .nil))) .z)))))) .z)))))
theorem E_slices_insertionSortOrdered_api_Loc (data0 a1 b2 : Value) (h : Hp) (R : Value → Hp → Prop) : F_slices_insertionSortOrdered_api_Loc (Sys.of Go.Proofs.Tryz.prog) ids data0 a1 b2 h R = denFn Go.Proofs.Tryz.prog Go.Proofs.Tryz.f98 H_slices_insertionSortOrdered_api_Loc [data0, a1, b2] h R := by kernel_rfl
theorem C_slices_insertionSortOrdered_api_Loc {data0 a1 b2 : Value} {h : Hp} {R : Value → Hp → Prop} (H : F_slices_insertionSortOrdered_api_Loc (Sys.of Go.Proofs.Tryz.prog) ids data0 a1 b2 h R) : (Sys.of Go.Proofs.Tryz.prog).C ids.f_slices_insertionSortOrdered_api_Loc [data0, a1, b2] h R :=
  cl_of_den Go.Proofs.Tryz.func98 (by kernel_rfl) mixed (E_slices_insertionSortOrdered_api_Loc data0 a1 b2 h R) H

def H_slices_heapSortOrdered_api_Loc : HT := (.s .z (.s .z (.s .z (.s (.s .z (.b (.l [9] [0, 6, 7, 8, 56] (.s (.s .z (.c .z .z)) (.s (.b .z) .z))))) (.s .z (.b (.l [10] [0, 6, 7, 56] (.s (.s .z (.c .z .z)) (.s (.b (.s (.o (oc [0, 1, 2, 3, 4, 5, 6, 7, 8, 9, 10, 11, 12, 13, 14, 15, 16, 17, 18, 19] .nil)) .z)) .z)))))))))
theorem E_slices_heapSortOrdered_api_Loc (data0 a1 b2 : Value) (h : Hp) (R : Value → Hp → Prop) : F_slices_heapSortOrdered_api_Loc (Sys.of Go.Proofs.Tryz.prog) ids data0 a1 b2 h R = denFn Go.Proofs.Tryz.prog Go.Proofs.Tryz.f99 H_slices_heapSortOrdered_api_Loc [data0, a1, b2] h R := by kernel_rfl
theorem C_slices_heapSortOrdered_api_Loc {data0 a1 b2 : Value} {h : Hp} {R : Value → Hp → Prop} (H : F_slices_heapSortOrdered_api_Loc (Sys.of Go.Proofs.Tryz.prog) ids data0 a1 b2 h R) : (Sys.of Go.Proofs.Tryz.prog).C ids.f_slices_heapSortOrdered_api_Loc [data0, a1, b2] h R :=
  cl_of_den Go.Proofs.Tryz.func99 (by kernel_rfl) mixed (E_slices_heapSortOrdered_api_Loc data0 a1 b2 h R) H

def H_slices_breakPatternsOrdered_api_Loc : HT := (.s .z (.s .z (.c (.s .z (.s .z (.s .z (.b (.l [9] [0, 1, 6, 7, 8, 65] (.s (.s .z (.c .z .z)) (.s (.b (.s .z (.j [10] [0, 1, 6, 7, 8, 9, 65] (.s .z (.c .z .z)) (.o (oc [0, 1, 2, 3, 4, 5, 6, 7, 8, 9, 10, 11, 12, 13, 14, 15, 16, 17, 18, 19] .nil))))) .z))))))) .z)))
theorem E_slices_breakPatternsOrdered_api_Loc (data0 a1 b2 : Value) (h : Hp) (R : Value → Hp → Prop) : F_slices_breakPatternsOrdered_api_Loc (Sys.of Go.Proofs.Tryz.prog) ids data0 a1 b2 h R = denFn Go.Proofs.Tryz.prog Go.Proofs.Tryz.f100 H_slices_breakPatternsOrdered_api_Loc [data0, a1, b2] h R := by kernel_rfl
theorem C_slices_breakPatternsOrdered_api_Loc {data0 a1 b2 : Value} {h : Hp} {R : Value → Hp → Prop} (H : F_slices_breakPatternsOrdered_api_Loc (Sys.of Go.Proofs.Tryz.prog) ids data0 a1 b2 h R) : (Sys.of Go.Proofs.Tryz.prog).C ids.f_slices_breakPatternsOrdered_api_Loc [data0, a1, b2] h R :=
  cl_of_den Go.Proofs.Tryz.func100 (by kernel_rfl) mixed (E_slices_breakPatternsOrdered_api_Loc data0 a1 b2 h R) H

def H_slices_choosePivotOrdered_api_Loc : HT := (.s .z (.s .z (.s .z (.s .z (.s .z (.s .z (.j [11] [9, 57] (.s .z (.c (.j [10, 11, 12] [0, 9, 57] (.s .z (.c (.s .z (.s .z .z)) .z)) .z) .z)) (.s .z (.b (.s .z (.c (.s .z .z) (.s .z (.c (.s .z .z) (.s .z .z))))))))))))))
theorem E_slices_choosePivotOrdered_api_Loc (data0 a1 b2 : Value) (h : Hp) (R : Value → Hp → Prop) : F_slices_choosePivotOrdered_api_Loc (Sys.of Go.Proofs.Tryz.prog) ids data0 a1 b2 h R = denFn Go.Proofs.Tryz.prog Go.Proofs.Tryz.f101 H_slices_choosePivotOrdered_api_Loc [data0, a1, b2] h R := by kernel_rfl
theorem C_slices_choosePivotOrdered_api_Loc {data0 a1 b2 : Value} {h : Hp} {R : Value → Hp → Prop} (H : F_slices_choosePivotOrdered_api_Loc (Sys.of Go.Proofs.Tryz.prog) ids data0 a1 b2 h R) : (Sys.of Go.Proofs.Tryz.prog).C ids.f_slices_choosePivotOrdered_api_Loc [data0, a1, b2] h R :=
  cl_of_den Go.Proofs.Tryz.func101 (by kernel_rfl) mixed (E_slices_choosePivotOrdered_api_Loc data0 a1 b2 h R) H

def H_slices_reverseRangeOrdered_api_Loc : HT := (.s .z (.s .z (.b (.l [6, 7] [0, 32] (.s (.s .z (.c .z .z)) (.b (.s (.o (oc [0, 1, 2, 3, 4, 5, 6, 7, 8, 9, 10, 11, 12, 13, 14, 15] .nil)) (.s .z .z))))))))
theorem E_slices_reverseRangeOrdered_api_Loc (data0 a1 b2 : Value) (h : Hp) (R : Value → Hp → Prop) : F_slices_reverseRangeOrdered_api_Loc (Sys.of Go.Proofs.Tryz.prog) ids data0 a1 b2 h R = denFn Go.Proofs.Tryz.prog Go.Proofs.Tryz.f102 H_slices_reverseRangeOrdered_api_Loc [data0, a1, b2] h R := by kernel_rfl
theorem C_slices_reverseRangeOrdered_api_Loc {data0 a1 b2 : Value} {h : Hp} {R : Value → Hp → Prop} (H : F_slices_reverseRangeOrdered_api_Loc (Sys.of Go.Proofs.Tryz.prog) ids data0 a1 b2 h R) : (Sys.of Go.Proofs.Tryz.prog).C ids.f_slices_reverseRangeOrdered_api_Loc [data0, a1, b2] h R :=
  cl_of_den Go.Proofs.Tryz.func102 (by kernel_rfl) mixed (E_slices_reverseRangeOrdered_api_Loc data0 a1 b2 h R) H

def H_slices_partialInsertionSortOrdered_api_Loc : HT := (.s .z (.s .z (.s (.s .z (.b (.l [7, 8] [0, 1, 2, 133] (.s (.s .z (.c .z .z)) (.j [7] [0, 1, 2, 8, 133] (.b (.s (.b (.l [7] [0, 1, 2, 8, 133] (.s (.j [32] [0, 1, 2, 7, 8, 133] (.o (oc [0, 1, 2, 3, 4, 5, 6, 7, 8, 9, 10, 11, 12, 13, 14, 15] .nil)) (.c .z .z)) (.b .z)))) (.s (.s .z (.c (.s .z .z) .z)) (.s (.s .z (.c (.s .z .z) .z)) (.s (.o (oc [0, 1, 2, 3, 4, 5, 6, 7, 8, 9, 10, 11, 12, 13, 14, 15, 16, 17] .nil)) (.j [] [0, 1, 2, 7, 8, 133] (.s .z (.c (.s .z (.b (.l [9] [0, 1, 2, 7, 8, 133] (.s (.s .z (.c .z .z)) (.s (.b (.s (.s (.o (oc [0, 1, 2, 3, 4, 5, 6, 7, 8, 9, 10] .nil)) (.c .z .z)) (.o (oc [0, 1, 2, 3, 4, 5, 6, 7, 8, 9, 10, 11, 12, 13, 14, 15, 16, 17] .nil)))) .z))))) .z)) (.s .z (.c (.s .z (.b (.l [10] [0, 1, 2, 7, 8, 133] (.s (.s .z (.c .z .z)) (.s (.b (.s (.s (.o (oc [0, 1, 2, 3, 4, 5, 6, 7, 8, 9, 10] .nil)) (.c .z .z)) (.o (oc [0, 1, 2, 3, 4, 5, 6, 7, 8, 9, 10, 11, 12, 13, 14, 15, 16, 17] .nil)))) .z))))) .z)))))))) .z))))) (.s .z .z))))
theorem E_slices_partialInsertionSortOrdered_api_Loc (data0 a1 b2 : Value) (h : Hp) (R : Value → Hp → Prop) : F_slices_partialInsertionSortOrdered_api_Loc (Sys.of Go.Proofs.Tryz.prog) ids data0 a1 b2 h R = denFn Go.Proofs.Tryz.prog Go.Proofs.Tryz.f103 H_slices_partialInsertionSortOrdered_api_Loc [data0, a1, b2] h R := by kernel_rfl
theorem C_slices_partialInsertionSortOrdered_api_Loc {data0 a1 b2 : Value} {h : Hp} {R : Value → Hp → Prop} (H : F_slices_partialInsertionSortOrdered_api_Loc (Sys.of Go.Proofs.Tryz.prog) ids data0 a1 b2 h R) : (Sys.of Go.Proofs.Tryz.prog).C ids.f_slices_partialInsertionSortOrdered_api_Loc [data0, a1, b2] h R :=
  cl_of_den Go.Proofs.Tryz.func103 (by kernel_rfl) mixed (E_slices_partialInsertionSortOrdered_api_Loc data0 a1 b2 h R) H

def H_cmp_Less_api_Loc : HT := (.s .z (.j [4] [17] .z .z))
theorem E_cmp_Less_api_Loc (x0 y1 : Value) (h : Hp) (R : Value → Hp → Prop) : F_cmp_Less_api_Loc (Sys.of Go.Proofs.Tryz.prog) ids x0 y1 h R = denFn Go.Proofs.Tryz.prog Go.Proofs.Tryz.f104 H_cmp_Less_api_Loc [x0, y1] h R := by kernel_rfl
theorem C_cmp_Less_api_Loc {x0 y1 : Value} {h : Hp} {R : Value → Hp → Prop} (H : F_cmp_Less_api_Loc (Sys.of Go.Proofs.Tryz.prog) ids x0 y1 h R) : (Sys.of Go.Proofs.Tryz.prog).C ids.f_cmp_Less_api_Loc [x0, y1] h R :=
  cl_of_den Go.Proofs.Tryz.func104 (by kernel_rfl) mixed (E_cmp_Less_api_Loc x0 y1 h R) H

def H_slices_partitionEqualOrdered_api_Loc : HT := (.s .z (.s (.o (oc [0, 1, 2, 3, 4, 5, 6, 7, 8, 9, 10, 11, 12, 13, 14, 15] .nil)) (.s .z (.s (.b (.l [9, 10] [0, 1, 84] (.b (.s (.b (.l [9] [0, 1, 10, 84] (.s (.j [43] [0, 1, 9, 10, 84] (.o (oc [0, 1, 2, 3, 4, 5, 6, 7, 8, 9, 10, 11, 12, 13, 14] .nil)) (.c .z .z)) (.b .z)))) (.s (.b (.l [10] [0, 1, 9, 84] (.s (.j [59] [0, 1, 9, 10, 84] (.o (oc [0, 1, 2, 3, 4, 5, 6, 7, 8, 9, 10, 11, 12, 13] .nil)) (.c .z .z)) (.b .z)))) (.s (.s .z (.c .z .z)) (.s (.o (oc [0, 1, 2, 3, 4, 5, 6, 7, 8, 9, 10, 11, 12, 13, 14, 15] .nil)) (.s .z .z)))))))) (.s .z .z)))))
theorem E_slices_partitionEqualOrdered_api_Loc (data0 a1 b2 pivot3 : Value) (h : Hp) (R : Value → Hp → Prop) : F_slices_partitionEqualOrdered_api_Loc (Sys.of Go.Proofs.Tryz.prog) ids data0 a1 b2 pivot3 h R = denFn Go.Proofs.Tryz.prog Go.Proofs.Tryz.f105 H_slices_partitionEqualOrdered_api_Loc [data0, a1, b2, pivot3] h R := by kernel_rfl
theorem C_slices_partitionEqualOrdered_api_Loc {data0 a1 b2 pivot3 : Value} {h : Hp} {R : Value → Hp → Prop} (H : F_slices_partitionEqualOrdered_api_Loc (Sys.of Go.Proofs.Tryz.prog) ids data0 a1 b2 pivot3 h R) : (Sys.of Go.Proofs.Tryz.prog).C ids.f_slices_partitionEqualOrdered_api_Loc [data0, a1, b2, pivot3] h R :=
  cl_of_den Go.Proofs.Tryz.func105 (by kernel_rfl) mixed (E_slices_partitionEqualOrdered_api_Loc data0 a1 b2 pivot3 h R) H

def H_slices_partitionOrdered_api_Loc : HT := (.s .z (.s (.o (oc [0, 1, 2, 3, 4, 5, 6, 7, 8, 9, 10, 11, 12, 13, 14, 15] .nil)) (.s .z (.s (.b (.l [10] [0, 1, 11, 168] (.s (.j [43] [0, 1, 10, 11, 168] (.o (oc [0, 1, 2, 3, 4, 5, 6, 7, 8, 9, 10, 11, 12, 13] .nil)) (.c .z .z)) (.b .z)))) (.s (.b (.l [11] [0, 1, 10, 168] (.s (.j [60] [0, 1, 10, 11, 168] (.o (oc [0, 1, 2, 3, 4, 5, 6, 7, 8, 9, 10, 11, 12, 13, 14] .nil)) (.c .z .z)) (.b .z)))) (.s (.s .z (.c (.s (.o (oc [0, 1, 2, 3, 4, 5, 6, 7, 8, 9, 10, 11, 12, 13, 14, 15] .nil)) (.s .z .z)) .z)) (.s (.o (oc [0, 1, 2, 3, 4, 5, 6, 7, 8, 9, 10, 11, 12, 13, 14, 15] .nil)) (.s .z (.s .z (.s (.b (.l [10, 11] [0, 1, 168] (.b (.s (.b (.l [10] [0, 1, 11, 168] (.s (.j [112] [0, 1, 10, 11, 168] (.o (oc [0, 1, 2, 3, 4, 5, 6, 7, 8, 9, 10, 11, 12, 13] .nil)) (.c .z .z)) (.b .z)))) (.s (.b (.l [11] [0, 1, 10, 168] (.s (.j [129] [0, 1, 10, 11, 168] (.o (oc [0, 1, 2, 3, 4, 5, 6, 7, 8, 9, 10, 11, 12, 13, 14] .nil)) (.c .z .z)) (.b .z)))) (.s (.s .z (.c .z .z)) (.s (.o (oc [0, 1, 2, 3, 4, 5, 6, 7, 8, 9, 10, 11, 12, 13, 14, 15] .nil)) (.s .z .z)))))))) (.s (.o (oc [0, 1, 2, 3, 4, 5, 6, 7, 8, 9, 10, 11, 12, 13, 14, 15] .nil)) (.s .z .z))))))))))))
theorem E_slices_partitionOrdered_api_Loc (data0 a1 b2 pivot3 : Value) (h : Hp) (R : Value → Hp → Prop) : F_slices_partitionOrdered_api_Loc (Sys.of Go.Proofs.Tryz.prog) ids data0 a1 b2 pivot3 h R = denFn Go.Proofs.Tryz.prog Go.Proofs.Tryz.f106 H_slices_partitionOrdered_api_Loc [data0, a1, b2, pivot3] h R := by kernel_rfl
theorem C_slices_partitionOrdered_api_Loc {data0 a1 b2 pivot3 : Value} {h : Hp} {R : Value → Hp → Prop} (H : F_slices_partitionOrdered_api_Loc (Sys.of Go.Proofs.Tryz.prog) ids data0 a1 b2 pivot3 h R) : (Sys.of Go.Proofs.Tryz.prog).C ids.f_slices_partitionOrdered_api_Loc [data0, a1, b2, pivot3] h R :=
  cl_of_den Go.Proofs.Tryz.func106 (by kernel_rfl) mixed (E_slices_partitionOrdered_api_Loc data0 a1 b2 pivot3 h R) H

def H_math_bits_Len32 : HT := (.s .z (.j [0, 2] [19] (.s .z (.c (.s .z .z) .z)) (.j [0, 2] [19] (.s .z (.c (.s .z .z) .z)) (.s .z .z))))
theorem E_math_bits_Len32 (x0 : Value) (h : Hp) (R : Value → Hp → Prop) : F_math_bits_Len32 (Sys.of Go.Proofs.Tryz.prog) ids x0 h R = denFn Go.Proofs.Tryz.prog Go.Proofs.Tryz.f107 H_math_bits_Len32 [x0] h R := by kernel_rfl
theorem C_math_bits_Len32 {x0 : Value} {h : Hp} {R : Value → Hp → Prop} (H : F_math_bits_Len32 (Sys.of Go.Proofs.Tryz.prog) ids x0 h R) : (Sys.of Go.Proofs.Tryz.prog).C ids.f_math_bits_Len32 [x0] h R :=
  cl_of_den Go.Proofs.Tryz.func107 (by kernel_rfl) mixed (E_math_bits_Len32 x0 h R) H

def H_math_bits_Len64 : HT := (.s .z (.j [0, 2] [25] (.s .z (.c (.s .z .z) .z)) (.j [0, 2] [25] (.s .z (.c (.s .z .z) .z)) (.j [0, 2] [25] (.s .z (.c (.s .z .z) .z)) (.s .z .z)))))
theorem E_math_bits_Len64 (x0 : Value) (h : Hp) (R : Value → Hp → Prop) : F_math_bits_Len64 (Sys.of Go.Proofs.Tryz.prog) ids x0 h R = denFn Go.Proofs.Tryz.prog Go.Proofs.Tryz.f108 H_math_bits_Len64 [x0] h R := by kernel_rfl
theorem C_math_bits_Len64 {x0 : Value} {h : Hp} {R : Value → Hp → Prop} (H : F_math_bits_Len64 (Sys.of Go.Proofs.Tryz.prog) ids x0 h R) : (Sys.of Go.Proofs.Tryz.prog).C ids.f_math_bits_Len64 [x0] h R :=
  cl_of_den Go.Proofs.Tryz.func108 (by kernel_rfl) mixed (E_math_bits_Len64 x0 h R) H

def H_slices_rotateCmpFunc_api_Loc : HT := (.s .z (.s .z (.s (.b (.l [10, 11] [0, 2, 4, 58] (.s (.s .z (.c .z .z)) (.b (.s .z (.c (.s .z .z) (.s .z .z))))))) .z)))
theorem E_slices_rotateCmpFunc_api_Loc (data0 a1 m2 b3 cmp4 : Value) (h : Hp) (R : Value → Hp → Prop) : F_slices_rotateCmpFunc_api_Loc (Sys.of Go.Proofs.Tryz.prog) ids data0 a1 m2 b3 cmp4 h R = denFn Go.Proofs.Tryz.prog Go.Proofs.Tryz.f109 H_slices_rotateCmpFunc_api_Loc [data0, a1, m2, b3, cmp4] h R := by kernel_rfl
theorem C_slices_rotateCmpFunc_api_Loc {data0 a1 m2 b3 cmp4 : Value} {h : Hp} {R : Value → Hp → Prop} (H : F_slices_rotateCmpFunc_api_Loc (Sys.of Go.Proofs.Tryz.prog) ids data0 a1 m2 b3 cmp4 h R) : (Sys.of Go.Proofs.Tryz.prog).C ids.f_slices_rotateCmpFunc_api_Loc [data0, a1, m2, b3, cmp4] h R :=
  cl_of_den Go.Proofs.Tryz.func109 (by kernel_rfl) mixed (E_slices_rotateCmpFunc_api_Loc data0 a1 m2 b3 cmp4 h R) H

def H_word_kind : HT := (.s .z (.s .z (.s (.b (.s .z (.c (.s .z .z) (.s .z (.c (.s .z .z) .z))))) (.s .z .z))))
theorem E_word_kind (w0 : Value) (h : Hp) (R : Value → Hp → Prop) : F_word_kind (Sys.of Go.Proofs.Tryz.prog) ids w0 h R = denFn Go.Proofs.Tryz.prog Go.Proofs.Tryz.f110 H_word_kind [w0] h R := by kernel_rfl
theorem C_word_kind {w0 : Value} {h : Hp} {R : Value → Hp → Prop} (H : F_word_kind (Sys.of Go.Proofs.Tryz.prog) ids w0 h R) : (Sys.of Go.Proofs.Tryz.prog).C ids.f_word_kind [w0] h R :=
  cl_of_den Go.Proofs.Tryz.func110 (by kernel_rfl) mixed (E_word_kind w0 h R) H

def H_slices_siftDownOrdered_api_Loc : HT := (.s .z (.b (.l [8] [0, 2, 3, 76] (.b (.s .z (.s (.s .z (.c .z .z)) (.j [9] [0, 2, 3, 8, 76] (.j [36] [0, 2, 3, 8, 9, 76] (.o (oc [0, 1, 2, 3, 4, 5, 6, 7, 8, 9, 10, 11, 12, 13, 14, 15, 16, 17, 18, 19] .nil)) (.c .z .z)) (.s (.s (.o (oc [0, 1, 2, 3, 4, 5, 6, 7, 8, 9, 10, 11, 12, 13] .nil)) (.c .z .z)) (.s (.o (oc [0, 1, 2, 3, 4, 5, 6, 7, 8, 9, 10, 11, 12, 13, 14, 15, 16, 17, 18, 19, 20, 21, 22, 23] .nil)) .z)))))))))
theorem E_slices_siftDownOrdered_api_Loc (data0 lo1 hi2 first3 : Value) (h : Hp) (R : Value → Hp → Prop) : F_slices_siftDownOrdered_api_Loc (Sys.of Go.Proofs.Tryz.prog) ids data0 lo1 hi2 first3 h R = denFn Go.Proofs.Tryz.prog Go.Proofs.Tryz.f111 H_slices_siftDownOrdered_api_Loc [data0, lo1, hi2, first3] h R := by kernel_rfl
theorem C_slices_siftDownOrdered_api_Loc {data0 lo1 hi2 first3 : Value} {h : Hp} {R : Value → Hp → Prop} (H : F_slices_siftDownOrdered_api_Loc (Sys.of Go.Proofs.Tryz.prog) ids data0 lo1 hi2 first3 h R) : (Sys.of Go.Proofs.Tryz.prog).C ids.f_slices_siftDownOrdered_api_Loc [data0, lo1, hi2, first3] h R :=
  cl_of_den Go.Proofs.Tryz.func111 (by kernel_rfl) mixed (E_slices_siftDownOrdered_api_Loc data0 lo1 hi2 first3 h R) H

def H_slices_nextPowerOfTwo : HT := (.s .z (.s .z .z))
theorem E_slices_nextPowerOfTwo (length0 : Value) (h : Hp) (R : Value → Hp → Prop) : F_slices_nextPowerOfTwo (Sys.of Go.Proofs.Tryz.prog) ids length0 h R = denFn Go.Proofs.Tryz.prog Go.Proofs.Tryz.f112 H_slices_nextPowerOfTwo [length0] h R := by kernel_rfl
theorem C_slices_nextPowerOfTwo {length0 : Value} {h : Hp} {R : Value → Hp → Prop} (H : F_slices_nextPowerOfTwo (Sys.of Go.Proofs.Tryz.prog) ids length0 h R) : (Sys.of Go.Proofs.Tryz.prog).C ids.f_slices_nextPowerOfTwo [length0] h R :=
  cl_of_den Go.Proofs.Tryz.func112 (by kernel_rfl) mixed (E_slices_nextPowerOfTwo length0 h R) H

def H_slices_xorshift_Next : HT := (.s .z (.s (.o (oc [0, 1, 2, 3, 4, 5, 6, 7, 8, 9] .nil)) (.s (.o (oc [0, 1, 2, 3, 4, 5, 6, 7, 8, 9] .nil)) (.s (.o (oc [0, 1, 2, 3, 4, 5, 6, 7, 8, 9] .nil)) (.s .z .z)))))
theorem E_slices_xorshift_Next (r0 : Value) (h : Hp) (R : Value → Hp → Prop) : F_slices_xorshift_Next (Sys.of Go.Proofs.Tryz.prog) ids r0 h R = denFn Go.Proofs.Tryz.prog Go.Proofs.Tryz.f113 H_slices_xorshift_Next [r0] h R := by kernel_rfl
theorem C_slices_xorshift_Next {r0 : Value} {h : Hp} {R : Value → Hp → Prop} (H : F_slices_xorshift_Next (Sys.of Go.Proofs.Tryz.prog) ids r0 h R) : (Sys.of Go.Proofs.Tryz.prog).C ids.f_slices_xorshift_Next [r0] h R :=
  cl_of_den Go.Proofs.Tryz.func113 (by kernel_rfl) mixed (E_slices_xorshift_Next r0 h R) H

def H_slices_medianAdjacentOrdered_api_Loc : HT := (.s .z (.s .z .z))
theorem E_slices_medianAdjacentOrdered_api_Loc (data0 a1 swaps2 : Value) (h : Hp) (R : Value → Hp → Prop) : F_slices_medianAdjacentOrdered_api_Loc (Sys.of Go.Proofs.Tryz.prog) ids data0 a1 swaps2 h R = denFn Go.Proofs.Tryz.prog Go.Proofs.Tryz.f114 H_slices_medianAdjacentOrdered_api_Loc [data0, a1, swaps2] h R := by kernel_rfl
theorem C_slices_medianAdjacentOrdered_api_Loc {data0 a1 swaps2 : Value} {h : Hp} {R : Value → Hp → Prop} (H : F_slices_medianAdjacentOrdered_api_Loc (Sys.of Go.Proofs.Tryz.prog) ids data0 a1 swaps2 h R) : (Sys.of Go.Proofs.Tryz.prog).C ids.f_slices_medianAdjacentOrdered_api_Loc [data0, a1, swaps2] h R :=
  cl_of_den Go.Proofs.Tryz.func114 (by kernel_rfl) mixed (E_slices_medianAdjacentOrdered_api_Loc data0 a1 swaps2 h R) H

def H_slices_medianOrdered_api_Loc : HT := (.s .z (.s .z (.s .z (.s .z (.s .z .z)))))
theorem E_slices_medianOrdered_api_Loc (data0 a1 b2 c3 swaps4 : Value) (h : Hp) (R : Value → Hp → Prop) : F_slices_medianOrdered_api_Loc (Sys.of Go.Proofs.Tryz.prog) ids data0 a1 b2 c3 swaps4 h R = denFn Go.Proofs.Tryz.prog Go.Proofs.Tryz.f115 H_slices_medianOrdered_api_Loc [data0, a1, b2, c3, swaps4] h R := by kernel_rfl
theorem C_slices_medianOrdered_api_Loc {data0 a1 b2 c3 swaps4 : Value} {h : Hp} {R : Value → Hp → Prop} (H : F_slices_medianOrdered_api_Loc (Sys.of Go.Proofs.Tryz.prog) ids data0 a1 b2 c3 swaps4 h R) : (Sys.of Go.Proofs.Tryz.prog).C ids.f_slices_medianOrdered_api_Loc [data0, a1, b2, c3, swaps4] h R :=
  cl_of_den Go.Proofs.Tryz.func115 (by kernel_rfl) mixed (E_slices_medianOrdered_api_Loc data0 a1 b2 c3 swaps4 h R) H

def H_cmp_isNaN_api_Loc : HT := (.s .z (.s .z .z))
theorem E_cmp_isNaN_api_Loc (x0 : Value) (h : Hp) (R : Value → Hp → Prop) : F_cmp_isNaN_api_Loc (Sys.of Go.Proofs.Tryz.prog) ids x0 h R = denFn Go.Proofs.Tryz.prog Go.Proofs.Tryz.f116 H_cmp_isNaN_api_Loc [x0] h R := by kernel_rfl
theorem C_cmp_isNaN_api_Loc {x0 : Value} {h : Hp} {R : Value → Hp → Prop} (H : F_cmp_isNaN_api_Loc (Sys.of Go.Proofs.Tryz.prog) ids x0 h R) : (Sys.of Go.Proofs.Tryz.prog).C ids.f_cmp_isNaN_api_Loc [x0] h R :=
  cl_of_den Go.Proofs.Tryz.func116 (by kernel_rfl) mixed (E_cmp_isNaN_api_Loc x0 h R) H

def H_slices_swapRangeCmpFunc_api_Loc : HT := (.s .z (.b (.l [10] [0, 1, 2, 3, 38] (.s (.s .z (.c .z .z)) (.s (.b (.o (oc [0, 1, 2, 3, 4, 5, 6, 7, 8, 9, 10, 11, 12, 13, 14, 15, 16, 17, 18, 19, 20, 21, 22, 23] .nil))) .z)))))
theorem E_slices_swapRangeCmpFunc_api_Loc (data0 a1 b2 n3 cmp4 : Value) (h : Hp) (R : Value → Hp → Prop) : F_slices_swapRangeCmpFunc_api_Loc (Sys.of Go.Proofs.Tryz.prog) ids data0 a1 b2 n3 cmp4 h R = denFn Go.Proofs.Tryz.prog Go.Proofs.Tryz.f117 H_slices_swapRangeCmpFunc_api_Loc [data0, a1, b2, n3, cmp4] h R := by kernel_rfl
theorem C_slices_swapRangeCmpFunc_api_Loc {data0 a1 b2 n3 cmp4 : Value} {h : Hp} {R : Value → Hp → Prop} (H : F_slices_swapRangeCmpFunc_api_Loc (Sys.of Go.Proofs.Tryz.prog) ids data0 a1 b2 n3 cmp4 h R) : (Sys.of Go.Proofs.Tryz.prog).C ids.f_slices_swapRangeCmpFunc_api_Loc [data0, a1, b2, n3, cmp4] h R :=
  cl_of_den Go.Proofs.Tryz.func117 (by kernel_rfl) mixed (E_slices_swapRangeCmpFunc_api_Loc data0 a1 b2 n3 cmp4 h R) H

def H_word_Who : HT := (.s .z (.s .z (.s (.s .z (.s .z (.c (.s .z .z) .z))) (.s .z .z))))
theorem E_word_Who (ref0 : Value) (h : Hp) (R : Value → Hp → Prop) : F_word_Who (Sys.of Go.Proofs.Tryz.prog) ids ref0 h R = denFn Go.Proofs.Tryz.prog Go.Proofs.Tryz.f118 H_word_Who [ref0] h R := by kernel_rfl
theorem C_word_Who {ref0 : Value} {h : Hp} {R : Value → Hp → Prop} (H : F_word_Who (Sys.of Go.Proofs.Tryz.prog) ids ref0 h R) : (Sys.of Go.Proofs.Tryz.prog).C ids.f_word_Who [ref0] h R :=
  cl_of_den Go.Proofs.Tryz.func118 (by kernel_rfl) mixed (E_word_Who ref0 h R) H

def H_slices_order2Ordered_api_Loc : HT := (.s .z (.s (.s (.o (oc [0, 1, 2, 3, 4, 5, 6, 7, 8] .nil)) (.c (.s .z (.s .z .z)) .z)) (.s .z .z)))
theorem E_slices_order2Ordered_api_Loc (data0 a1 b2 swaps3 : Value) (h : Hp) (R : Value → Hp → Prop) : F_slices_order2Ordered_api_Loc (Sys.of Go.Proofs.Tryz.prog) ids data0 a1 b2 swaps3 h R = denFn Go.Proofs.Tryz.prog Go.Proofs.Tryz.f119 H_slices_order2Ordered_api_Loc [data0, a1, b2, swaps3] h R := by kernel_rfl
theorem C_slices_order2Ordered_api_Loc {data0 a1 b2 swaps3 : Value} {h : Hp} {R : Value → Hp → Prop} (H : F_slices_order2Ordered_api_Loc (Sys.of Go.Proofs.Tryz.prog) ids data0 a1 b2 swaps3 h R) : (Sys.of Go.Proofs.Tryz.prog).C ids.f_slices_order2Ordered_api_Loc [data0, a1, b2, swaps3] h R :=
  cl_of_den Go.Proofs.Tryz.func119 (by kernel_rfl) mixed (E_slices_order2Ordered_api_Loc data0 a1 b2 swaps3 h R) H

def H_word_Ref : HT := (.s .z (.s (.j [19] [0, 1, 26] .z (.c (.s .z .z) .z)) (.s .z .z)))
theorem E_word_Ref (who0 seq1 : Value) (h : Hp) (R : Value → Hp → Prop) : F_word_Ref (Sys.of Go.Proofs.Tryz.prog) ids who0 seq1 h R = denFn Go.Proofs.Tryz.prog Go.Proofs.Tryz.f120 H_word_Ref [who0, seq1] h R := by kernel_rfl
theorem C_word_Ref {who0 seq1 : Value} {h : Hp} {R : Value → Hp → Prop} (H : F_word_Ref (Sys.of Go.Proofs.Tryz.prog) ids who0 seq1 h R) : (Sys.of Go.Proofs.Tryz.prog).C ids.f_word_Ref [who0, seq1] h R :=
  cl_of_den Go.Proofs.Tryz.func120 (by kernel_rfl) mixed (E_word_Ref who0 seq1 h R) H

end Go.En
