/-
  The clean texts are what the engine reads off the program: by the kernel.
-/
import Derived.Test.YtalhmlnmbgpleaaXT
import Derived.Test.YtalhmlnmbgpleaaProg
import Derived.KernelRfl
namespace Go.En
set_option maxRecDepth 100000

/-- the numbers in this translation -/
def ids : Ids := { f_simulcastlaw32_CounterActs := 3, f_simulcastlaw32_CounterSums := 4, f_simulcastlaw32_CounterBack := 5, f_simulcastlaw32_CounterOwn := 6, f_simulcastlaw32_CounterMoves := 7, f_simulcastlaw35_DequeActs := 8, f_simulcastlaw35_DequeEnds := 9, f_simulcastlaw35_DequeOther := 10, f_simulcastlaw35_DequeMirror := 11, f_simulcastlaw35_DequeRefused := 12, f_simulcastlaw32_awake := 13, f_simulcastlaw32_words := 14, f_simulcastlaw32_Told := 15, f_simulcastlaw32_CounterActs_1 := 16, f_simulcastlaw32_Act_do := 17, f_simulcastref32_Do := 18, f_simulcastlaw32_Act_ref := 19, f_simulcastlaw32_is := 20, f_simulcastlaw32_CounterSums_1 := 21, f_model_Model_At := 22, f_simulcastlaw32_root := 23, f_space_New := 24, f_counter_Set := 25, f_counter_Get := 26, f_counter_Add := 27, f_space_Space_Reads := 28, f_space_Space_Writes := 29, f_counter_Move := 30, f_simulcastlaw35_awake := 31, f_simulcastlaw35_nodes := 32, f_simulcastlaw35_DequeActs_1 := 33, f_simulcastlaw35_Act_do := 34, f_simulcastlaw35_Act_ref := 35, f_simulcastlaw35_is := 36, f_simulcastlaw35_whole := 37, f_deque_Push := 38, f_deque_Pop := 39, f_deque_Peek := 40, f_deque_Len := 41, f_pool_Pool_Left := 42, f_simulcastref35_Push := 43, f_simulcastref35_Peek := 44, f_simulcastref35_Pop := 45, f_deque_Walk := 46, f_slices_Equal_int64_int64 := 47, f_simulcastref35_Walk := 48, f_model_Model_Words := 49, f_space_Space_Get := 50, f_space_Space_Ended := 51, f_simulcastlaw32_awake_1 := 52, f_model_New := 53, f_model_Model_Len := 54, f_space_Space_Need := 55, f_space_Space_Entries := 56, f_model_Model_Swap := 57, f_simulcastref32_fits := 58, f_space_Space_Put := 59, f_counter_fits := 60, f_slices_Sort_api_Loc_api_Loc := 61, f_slices_Compact_api_Loc_api_Loc := 62, f_simulcastlaw35_awake_1 := 63, f_deque_undo := 64, f_space_Space_Mark := 65, f_pool_Pool_Take := 66, f_deque_side := 67, f_deque_is := 68, f_deque_more := 69, f_pool_Pool_Give := 70, f_pool_Pool_Check := 71, f_slices_Clone_api_Word_api_Word := 72, f_space_Space_reads := 73, f_space_Space_value := 74, f_entry_Check := 75, f_model_Model_Holds := 76, f_slices_pdqsortOrdered_api_Loc := 77, f_math_bits_Len := 78, f_space_Space_Back := 79, f_pool_Pool_Node := 80, f_pool_Pool_add := 81, f_space_Space_last := 82, f_entry_wrong := 83, f_slices_ContainsFunc_api_Entry_api_Entry := 84, f_entry_Check_1 := 85, f_slices_insertionSortOrdered_api_Loc := 86, f_slices_heapSortOrdered_api_Loc := 87, f_slices_breakPatternsOrdered_api_Loc := 88, f_slices_choosePivotOrdered_api_Loc := 89, f_slices_reverseRangeOrdered_api_Loc := 90, f_slices_partialInsertionSortOrdered_api_Loc := 91, f_cmp_Less_api_Loc := 92, f_slices_partitionEqualOrdered_api_Loc := 93, f_slices_partitionOrdered_api_Loc := 94, f_math_bits_Len32 := 95, f_math_bits_Len64 := 96, f_word_Plain := 97, f_slices_IndexFunc_api_Entry_api_Entry := 98, f_slices_siftDownOrdered_api_Loc := 99, f_slices_nextPowerOfTwo := 100, f_slices_xorshift_Next := 101, f_slices_medianAdjacentOrdered_api_Loc := 102, f_slices_medianOrdered_api_Loc := 103, f_cmp_isNaN_api_Loc := 104, f_word_kind := 105, f_slices_order2Ordered_api_Loc := 106, f_word_Who := 107, f_word_Ref := 108, t_int64 := 2, t_int := 3, t_4_int64 := 22, t_model_Model := 27, t_simulcastlaw32_Act := 31, t_api_Errno := 32, t_simulcastref32_Act := 42, t_api_Word := 48, t_api_Loc := 51, t_pool_Pool := 66, t_simulcastlaw35_Act := 70, t_2_s_int64 := 83, t_space_Space := 108, t_space_put := 112, t_api_Entry := 128, t_slices_xorshift := 154 }
theorem mixed : Go.Proofs.Try.prog.follows .mixedOrders = true := by kernel_rfl

def H_simulcastlaw32_CounterActs : HT := (.s .z (.s (.s .z (.c (.s .z .z) .z)) (.j [5, 6] [1, 65] (.o (oc [0, 2] (.alt (oc [1, 3, 4, 5] .nil) (oc [3, 1, 4, 5] .nil)))) (.s (.s .z (.b (.l [6, 25] [5, 23, 24, 65] (.s .z (.s (.c .z .z) (.s (.b (.s .z (.s .z (.s .z (.s .z (.s .z (.s (.j [60] [5, 11, 13, 23, 24, 25, 65] .z (.c (.s .z .z) .z)) .z))))))) .z)))))) (.s .z .z)))))
theorem E_simulcastlaw32_CounterActs (l0 acts1 : Value) (h : Hp) (R : Value → Hp → Prop) : F_simulcastlaw32_CounterActs (Sys.of Go.Proofs.Try.prog) ids l0 acts1 h R = denFn Go.Proofs.Try.prog Go.Proofs.Try.f3 H_simulcastlaw32_CounterActs [l0, acts1] h R := by kernel_rfl
theorem C_simulcastlaw32_CounterActs {l0 acts1 : Value} {h : Hp} {R : Value → Hp → Prop} (H : F_simulcastlaw32_CounterActs (Sys.of Go.Proofs.Try.prog) ids l0 acts1 h R) : (Sys.of Go.Proofs.Try.prog).C ids.f_simulcastlaw32_CounterActs [l0, acts1] h R :=
  cl_of_den Go.Proofs.Try.func3 (by kernel_rfl) mixed (E_simulcastlaw32_CounterActs l0 acts1 h R) H

def H_simulcastlaw32_CounterSums : HT := (.s .z (.s (.s .z (.c (.s .z .z) .z)) (.s (.s .z (.b (.l [21] [1, 2, 20, 85] (.s .z (.s (.c .z .z) (.s (.b (.s .z (.j [29] [1, 2, 20, 21, 85] .z (.c (.s .z .z) .z)))) .z)))))) (.s .z (.s (.s .z (.b (.l [36] [2, 7, 34, 35, 85] (.s .z (.s (.c .z .z) (.s (.b (.s .z (.s .z (.s .z (.s (.s .z (.c (.s .z .z) .z)) .z))))) .z)))))) (.s .z (.s (.s .z (.b (.l [12, 51] [2, 7, 85] (.s .z (.s (.c .z .z) (.s (.b (.s .z (.j [14] [2, 7, 12, 51, 85] (.o (oc [0, 1] (.alt (oc [2] (.alt (oc [3, 4, 5, 6, 7, 8, 9] .nil) (oc [7, 3, 4, 5, 6, 8, 9] .nil))) (oc [7, 2, 3, 4, 5, 6, 8, 9] .nil)))) (.s (.s .z (.c (.s .z .z) .z)) .z)))) .z)))))) (.j [4] [85] .z .z))))))))
theorem E_simulcastlaw32_CounterSums (l0 acts1 : Value) (h : Hp) (R : Value → Hp → Prop) : F_simulcastlaw32_CounterSums (Sys.of Go.Proofs.Try.prog) ids l0 acts1 h R = denFn Go.Proofs.Try.prog Go.Proofs.Try.f4 H_simulcastlaw32_CounterSums [l0, acts1] h R := by kernel_rfl
theorem C_simulcastlaw32_CounterSums {l0 acts1 : Value} {h : Hp} {R : Value → Hp → Prop} (H : F_simulcastlaw32_CounterSums (Sys.of Go.Proofs.Try.prog) ids l0 acts1 h R) : (Sys.of Go.Proofs.Try.prog).C ids.f_simulcastlaw32_CounterSums [l0, acts1] h R :=
  cl_of_den Go.Proofs.Try.func4 (by kernel_rfl) mixed (E_simulcastlaw32_CounterSums l0 acts1 h R) H

def H_simulcastlaw32_CounterBack : HT := (.s .z (.s .z (.s (.s .z (.b (.l [16] [1, 2, 5, 15, 111] (.s .z (.s (.c .z .z) (.s (.b (.s .z .z)) .z)))))) (.s .z (.s (.s .z (.c (.s .z .z) .z)) (.s .z (.s (.j [52] [1, 2, 8, 111] .z (.c (.s .z .z) .z)) (.s .z (.s (.s .z (.c (.j [4] [111] (.o (oc [0, 1, 2, 3, 4, 5, 6, 9, 10, 7, 8, 11, 12, 13] .nil)) .z) .z)) (.s (.j [82] [1, 2, 8, 10, 111] .z (.c (.s .z .z) .z)) (.s .z (.j [4] [111] .z .z))))))))))))
theorem E_simulcastlaw32_CounterBack (l0 n1 : Value) (h : Hp) (R : Value → Hp → Prop) : F_simulcastlaw32_CounterBack (Sys.of Go.Proofs.Try.prog) ids l0 n1 h R = denFn Go.Proofs.Try.prog Go.Proofs.Try.f5 H_simulcastlaw32_CounterBack [l0, n1] h R := by kernel_rfl
theorem C_simulcastlaw32_CounterBack {l0 n1 : Value} {h : Hp} {R : Value → Hp → Prop} (H : F_simulcastlaw32_CounterBack (Sys.of Go.Proofs.Try.prog) ids l0 n1 h R) : (Sys.of Go.Proofs.Try.prog).C ids.f_simulcastlaw32_CounterBack [l0, n1] h R :=
  cl_of_den Go.Proofs.Try.func5 (by kernel_rfl) mixed (E_simulcastlaw32_CounterBack l0 n1 h R) H

def H_simulcastlaw32_CounterOwn : HT := (.s .z (.s .z (.s (.s .z (.b (.l [16] [3, 5, 15, 77] (.s .z (.s (.c .z .z) (.s (.b (.s .z .z)) .z)))))) (.s .z (.s (.s .z (.c (.s .z .z) .z)) (.s .z (.s .z (.s (.s .z (.b (.l [44] [8, 10, 11, 42, 43, 77] (.s .z (.s (.c .z .z) (.s (.b (.s .z (.j [64] [8, 10, 11, 42, 43, 44, 77] .z (.c (.s .z .z) .z)))) .z)))))) (.j [4] [77] .z .z)))))))))
theorem E_simulcastlaw32_CounterOwn (l0 x1 : Value) (h : Hp) (R : Value → Hp → Prop) : F_simulcastlaw32_CounterOwn (Sys.of Go.Proofs.Try.prog) ids l0 x1 h R = denFn Go.Proofs.Try.prog Go.Proofs.Try.f6 H_simulcastlaw32_CounterOwn [l0, x1] h R := by kernel_rfl
theorem C_simulcastlaw32_CounterOwn {l0 x1 : Value} {h : Hp} {R : Value → Hp → Prop} (H : F_simulcastlaw32_CounterOwn (Sys.of Go.Proofs.Try.prog) ids l0 x1 h R) : (Sys.of Go.Proofs.Try.prog).C ids.f_simulcastlaw32_CounterOwn [l0, x1] h R :=
  cl_of_den Go.Proofs.Try.func6 (by kernel_rfl) mixed (E_simulcastlaw32_CounterOwn l0 x1 h R) H

def H_simulcastlaw32_CounterMoves : HT := (.s .z (.s .z (.s .z (.s (.s .z (.b (.l [25] [3, 4, 9, 10, 11, 24, 149] (.s .z (.s (.c .z .z) (.s (.b (.s .z .z)) .z)))))) (.s .z (.s (.s .z (.c (.s .z .z) .z)) (.s (.j [48] [3, 4, 9, 10, 14, 149] .z (.c (.s .z .z) .z)) (.s (.s .z (.s .z (.c (.j [8] [149] .z .z) .z))) (.s (.j [116] [3, 4, 9, 10, 14, 149] (.o (oc [0, 1, 2, 3, 4, 5, 8, 9, 10, 11, 12, 6, 7, 13, 14, 15, 16, 19, 20, 21, 22, 23, 17, 18, 24, 25, 26] .nil)) (.c (.s .z .z) .z)) (.s .z (.j [8] [149] (.o (oc [0, 1, 2, 3, 4, 5, 6, 7, 10, 11, 12, 8, 9, 13, 14, 15, 16, 17, 20, 21, 22, 18, 19, 23, 24, 25] .nil)) .z)))))))))))
theorem E_simulcastlaw32_CounterMoves (l0 a1 b2 n3 : Value) (h : Hp) (R : Value → Hp → Prop) : F_simulcastlaw32_CounterMoves (Sys.of Go.Proofs.Try.prog) ids l0 a1 b2 n3 h R = denFn Go.Proofs.Try.prog Go.Proofs.Try.f7 H_simulcastlaw32_CounterMoves [l0, a1, b2, n3] h R := by kernel_rfl
theorem C_simulcastlaw32_CounterMoves {l0 a1 b2 n3 : Value} {h : Hp} {R : Value → Hp → Prop} (H : F_simulcastlaw32_CounterMoves (Sys.of Go.Proofs.Try.prog) ids l0 a1 b2 n3 h R) : (Sys.of Go.Proofs.Try.prog).C ids.f_simulcastlaw32_CounterMoves [l0, a1, b2, n3] h R :=
  cl_of_den Go.Proofs.Try.func7 (by kernel_rfl) mixed (E_simulcastlaw32_CounterMoves l0 a1 b2 n3 h R) H

def H_simulcastlaw35_DequeActs : HT := (.s .z (.s .z (.s (.s .z (.c (.s .z .z) .z)) (.s .z (.s .z (.s (.s .z (.b (.l [8, 32] [5, 6, 7, 30, 31, 73] (.s .z (.s (.c .z .z) (.s (.b (.s .z (.s .z (.s .z (.s .z (.s .z (.s (.j [68] [5, 6, 7, 13, 15, 30, 31, 32, 73] .z (.c (.s .z .z) .z)) .z))))))) .z)))))) (.s .z .z)))))))
theorem E_simulcastlaw35_DequeActs (size0 acts1 : Value) (h : Hp) (R : Value → Hp → Prop) : F_simulcastlaw35_DequeActs (Sys.of Go.Proofs.Try.prog) ids size0 acts1 h R = denFn Go.Proofs.Try.prog Go.Proofs.Try.f8 H_simulcastlaw35_DequeActs [size0, acts1] h R := by kernel_rfl
theorem C_simulcastlaw35_DequeActs {size0 acts1 : Value} {h : Hp} {R : Value → Hp → Prop} (H : F_simulcastlaw35_DequeActs (Sys.of Go.Proofs.Try.prog) ids size0 acts1 h R) : (Sys.of Go.Proofs.Try.prog).C ids.f_simulcastlaw35_DequeActs [size0, acts1] h R :=
  cl_of_den Go.Proofs.Try.func8 (by kernel_rfl) mixed (E_simulcastlaw35_DequeActs size0 acts1 h R) H

def H_simulcastlaw35_DequeEnds : HT := (.s .z (.s (.s .z (.c (.s .z .z) .z)) (.s .z (.s .z (.s (.s .z (.c (.s .z .z) .z)) (.s (.s .z (.b (.l [37] [0, 1, 2, 7, 9, 35, 36, 127] (.s .z (.s (.c .z .z) (.s (.b (.s .z (.s .z (.c (.s .z .z) .z)))) .z)))))) (.s .z (.s (.s .z (.b (.l [54] [0, 1, 2, 7, 9, 12, 53, 127] (.s .z (.s (.c .z .z) (.s (.b (.s .z (.s .z (.j [14] [0, 1, 2, 7, 9, 12, 53, 54, 127] (.s .z (.c .z .z)) (.s .z (.j [85] [0, 1, 2, 7, 9, 12, 53, 54, 127] .z (.c (.s .z .z) .z))))))) .z)))))) (.s .z (.s .z (.j [6] [127] .z .z)))))))))))
theorem E_simulcastlaw35_DequeEnds (l0 right1 same2 : Value) (h : Hp) (R : Value → Hp → Prop) : F_simulcastlaw35_DequeEnds (Sys.of Go.Proofs.Try.prog) ids l0 right1 same2 h R = denFn Go.Proofs.Try.prog Go.Proofs.Try.f9 H_simulcastlaw35_DequeEnds [l0, right1, same2] h R := by kernel_rfl
theorem C_simulcastlaw35_DequeEnds {l0 right1 same2 : Value} {h : Hp} {R : Value → Hp → Prop} (H : F_simulcastlaw35_DequeEnds (Sys.of Go.Proofs.Try.prog) ids l0 right1 same2 h R) : (Sys.of Go.Proofs.Try.prog).C ids.f_simulcastlaw35_DequeEnds [l0, right1, same2] h R :=
  cl_of_den Go.Proofs.Try.func9 (by kernel_rfl) mixed (E_simulcastlaw35_DequeEnds l0 right1 same2 h R) H

def H_simulcastlaw35_DequeOther : HT := (.s .z (.s (.s .z (.c (.s .z .z) .z)) (.s .z (.s .z (.s (.s .z (.b (.l [25] [0, 1, 5, 6, 155] (.s .z (.s (.c .z .z) (.s (.b (.s .z .z)) .z)))))) (.s .z (.s (.s .z (.c (.s .z .z) .z)) (.s .z (.s (.s .z (.b (.l [38] [1, 5, 8, 9, 36, 37, 155] (.s .z (.s (.c .z .z) (.j [] [1, 5, 8, 9, 36, 37, 38, 155] (.b (.s .z (.s .z (.j [12] [1, 5, 8, 9, 11, 36, 37, 38, 155] (.j [52] [1, 5, 8, 9, 11, 12, 36, 37, 38, 155] .z (.c .z .z)) (.s .z (.s .z (.c (.s (.s .z (.c (.s .z .z) .z)) (.o (oc [0, 1, 2, 3, 4, 5, 6, 7, 8, 9, 10] .nil))) (.s .z (.s .z (.c (.s (.j [104] [1, 5, 8, 9, 11, 12, 36, 37, 38, 155] (.o (oc [0, 1, 2, 3, 4, 5, 6, 7, 8, 9, 10, 11] .nil)) (.c (.s .z .z) .z)) (.o (oc [0, 1, 2, 3, 4, 5, 6, 7, 8] .nil))) (.s .z (.c (.s .z .z) .z)))))))))))) .z)))))) (.s (.s .z (.b (.l [116] [5, 8, 9, 155] (.s .z (.s (.c .z .z) (.s (.b (.s .z (.s .z (.j [138] [5, 8, 9, 116, 155] .z (.c (.s .z .z) .z))))) .z)))))) (.j [4] [155] (.o (oc [0, 1, 2, 3, 5, 6, 7, 8, 9, 10, 11, 12, 4, 13, 14, 15] .nil)) .z)))))))))))
theorem E_simulcastlaw35_DequeOther (acts0 turns1 : Value) (h : Hp) (R : Value → Hp → Prop) : F_simulcastlaw35_DequeOther (Sys.of Go.Proofs.Try.prog) ids acts0 turns1 h R = denFn Go.Proofs.Try.prog Go.Proofs.Try.f10 H_simulcastlaw35_DequeOther [acts0, turns1] h R := by kernel_rfl
theorem C_simulcastlaw35_DequeOther {acts0 turns1 : Value} {h : Hp} {R : Value → Hp → Prop} (H : F_simulcastlaw35_DequeOther (Sys.of Go.Proofs.Try.prog) ids acts0 turns1 h R) : (Sys.of Go.Proofs.Try.prog).C ids.f_simulcastlaw35_DequeOther [acts0, turns1] h R :=
  cl_of_den Go.Proofs.Try.func10 (by kernel_rfl) mixed (E_simulcastlaw35_DequeOther acts0 turns1 h R) H

def H_simulcastlaw35_DequeMirror : HT := (.s .z (.s (.s .z (.c (.s .z .z) .z)) (.s .z (.s (.o (oc [0, 2, 1, 3, 4, 5] .nil)) (.s (.j [35] [0, 3, 5, 6, 96] .z (.c (.s .z .z) .z)) (.s (.s .z (.b (.l [38] [3, 5, 6, 36, 37, 96] (.s .z (.s (.c .z .z) (.s (.b (.s .z (.s .z (.s .z (.s .z (.s .z (.j [68] [3, 5, 6, 36, 37, 38, 96] .z (.c (.s .z .z) .z)))))))) .z)))))) (.s .z (.s .z (.j [2] [96] .z .z)))))))))
theorem E_simulcastlaw35_DequeMirror (acts0 : Value) (h : Hp) (R : Value → Hp → Prop) : F_simulcastlaw35_DequeMirror (Sys.of Go.Proofs.Try.prog) ids acts0 h R = denFn Go.Proofs.Try.prog Go.Proofs.Try.f11 H_simulcastlaw35_DequeMirror [acts0] h R := by kernel_rfl
theorem C_simulcastlaw35_DequeMirror {acts0 : Value} {h : Hp} {R : Value → Hp → Prop} (H : F_simulcastlaw35_DequeMirror (Sys.of Go.Proofs.Try.prog) ids acts0 h R) : (Sys.of Go.Proofs.Try.prog).C ids.f_simulcastlaw35_DequeMirror [acts0] h R :=
  cl_of_den Go.Proofs.Try.func11 (by kernel_rfl) mixed (E_simulcastlaw35_DequeMirror acts0 h R) H

def H_simulcastlaw35_DequeRefused : HT := (.s .z (.s (.s .z (.c (.s .z .z) .z)) (.s .z (.s .z (.s (.s .z (.b (.l [28] [0, 3, 5, 7, 27, 108] (.s .z (.s (.c .z .z) (.j [] [0, 3, 5, 7, 27, 28, 108] (.b (.s .z (.s .z (.s .z (.c .z .z))))) .z)))))) (.s .z (.s (.s .z (.c (.s .z .z) .z)) (.s .z (.j [] [3, 5, 9, 108] (.s .z (.c (.s (.s .z (.b (.l [62] [3, 5, 7, 9, 10, 60, 61, 108] (.s .z (.s (.c .z .z) (.s (.b (.s .z (.s (.o (oc [0, 1, 3, 4, 5, 6, 2, 7] .nil)) (.c (.s .z .z) .z)))) .z)))))) (.s .z (.c (.s .z .z) .z))) .z)) (.s .z (.j [4] [108] .z .z)))))))))))
theorem E_simulcastlaw35_DequeRefused (w0 x1 : Value) (h : Hp) (R : Value → Hp → Prop) : F_simulcastlaw35_DequeRefused (Sys.of Go.Proofs.Try.prog) ids w0 x1 h R = denFn Go.Proofs.Try.prog Go.Proofs.Try.f12 H_simulcastlaw35_DequeRefused [w0, x1] h R := by kernel_rfl
theorem C_simulcastlaw35_DequeRefused {w0 x1 : Value} {h : Hp} {R : Value → Hp → Prop} (H : F_simulcastlaw35_DequeRefused (Sys.of Go.Proofs.Try.prog) ids w0 x1 h R) : (Sys.of Go.Proofs.Try.prog).C ids.f_simulcastlaw35_DequeRefused [w0, x1] h R :=
  cl_of_den Go.Proofs.Try.func12 (by kernel_rfl) mixed (E_simulcastlaw35_DequeRefused w0 x1 h R) H

def H_simulcastlaw32_awake : HT := (.s .z (.s .z (.s .z (.s .z (.j [4] [2, 3, 35] (.o (oc [0] (.alt (oc [1] (.alt (oc [2, 3, 4, 5, 6, 7, 8] .nil) (oc [6, 2, 3, 4, 5, 7, 8] .nil))) (oc [6, 1, 2, 3, 4, 5, 7, 8] .nil)))) (.j [0] [35] .z .z))))))
theorem E_simulcastlaw32_awake (h : Hp) (R : Value → Hp → Prop) : F_simulcastlaw32_awake (Sys.of Go.Proofs.Try.prog) ids h R = denFn Go.Proofs.Try.prog Go.Proofs.Try.f13 H_simulcastlaw32_awake [] h R := by kernel_rfl
theorem C_simulcastlaw32_awake {h : Hp} {R : Value → Hp → Prop} (H : F_simulcastlaw32_awake (Sys.of Go.Proofs.Try.prog) ids h R) : (Sys.of Go.Proofs.Try.prog).C ids.f_simulcastlaw32_awake [] h R :=
  cl_of_den Go.Proofs.Try.func13 (by kernel_rfl) mixed (E_simulcastlaw32_awake h R) H

def H_simulcastlaw32_words : HT := (.s .z (.s .z (.s (.s .z (.b (.l [8] [2, 3, 7, 21] (.s .z (.s (.c .z .z) (.s (.b (.s .z .z)) .z)))))) (.s .z .z))))
theorem E_simulcastlaw32_words (l0 : Value) (h : Hp) (R : Value → Hp → Prop) : F_simulcastlaw32_words (Sys.of Go.Proofs.Try.prog) ids l0 h R = denFn Go.Proofs.Try.prog Go.Proofs.Try.f14 H_simulcastlaw32_words [l0] h R := by kernel_rfl
theorem C_simulcastlaw32_words {l0 : Value} {h : Hp} {R : Value → Hp → Prop} (H : F_simulcastlaw32_words (Sys.of Go.Proofs.Try.prog) ids l0 h R) : (Sys.of Go.Proofs.Try.prog).C ids.f_simulcastlaw32_words [l0] h R :=
  cl_of_den Go.Proofs.Try.func14 (by kernel_rfl) mixed (E_simulcastlaw32_words l0 h R) H

def H_simulcastlaw32_Told : HT := (.s .z (.s .z (.s (.s .z (.b (.l [6, 26] [1, 2, 4, 25, 106] (.s .z (.s (.c .z .z) (.s (.b (.s .z (.s (.s .z (.c (.s .z .z) .z)) (.s .z (.s .z (.s (.s .z (.c (.s .z (.s (.j [54] [1, 2, 4, 10, 11, 25, 106] .z (.c (.s .z .z) .z)) (.s .z (.j [5] [1, 2, 4, 25, 106] .z .z)))) .z)) (.s .z (.s (.s .z (.j [87] [1, 2, 4, 6, 8, 15, 25, 26, 106] .z (.c (.s .z .z) .z))) (.s .z (.s (.s .z (.b (.l [] [1, 2, 4, 19, 25, 26, 94, 106] (.s .z (.s (.c .z .z) (.b (.s .z .z))))))) .z)))))))))) .z)))))) (.s .z .z))))
theorem E_simulcastlaw32_Told (m0 do1 : Value) (h : Hp) (R : Value → Hp → Prop) : F_simulcastlaw32_Told (Sys.of Go.Proofs.Try.prog) ids m0 do1 h R = denFn Go.Proofs.Try.prog Go.Proofs.Try.f15 H_simulcastlaw32_Told [m0, do1] h R := by kernel_rfl
theorem C_simulcastlaw32_Told {m0 do1 : Value} {h : Hp} {R : Value → Hp → Prop} (H : F_simulcastlaw32_Told (Sys.of Go.Proofs.Try.prog) ids m0 do1 h R) : (Sys.of Go.Proofs.Try.prog).C ids.f_simulcastlaw32_Told [m0, do1] h R :=
  cl_of_den Go.Proofs.Try.func15 (by kernel_rfl) mixed (E_simulcastlaw32_Told m0 do1 h R) H

def H_simulcastlaw32_CounterActs_1 : HT := .z
theorem E_simulcastlaw32_CounterActs_1 (s0 v1 v2 v3 : Value) (h : Hp) (R : Value → Hp → Prop) : F_simulcastlaw32_CounterActs_1 (Sys.of Go.Proofs.Try.prog) ids s0 v1 v2 v3 h R = denFn Go.Proofs.Try.prog Go.Proofs.Try.f16 H_simulcastlaw32_CounterActs_1 [s0, v1, v2, v3] h R := by kernel_rfl
theorem C_simulcastlaw32_CounterActs_1 {s0 v1 v2 v3 : Value} {h : Hp} {R : Value → Hp → Prop} (H : F_simulcastlaw32_CounterActs_1 (Sys.of Go.Proofs.Try.prog) ids s0 v1 v2 v3 h R) : (Sys.of Go.Proofs.Try.prog).C ids.f_simulcastlaw32_CounterActs_1 [s0, v1, v2, v3] h R :=
  cl_of_den Go.Proofs.Try.func16 (by kernel_rfl) mixed (E_simulcastlaw32_CounterActs_1 s0 v1 v2 v3 h R) H

def H_simulcastlaw32_Act_do : HT := (.s .z (.s .z (.s (.s .z (.b (.s .z (.c (.s .z .z) (.s .z (.c (.s (.o (oc [0, 1, 2, 4, 5, 3, 6, 7, 8, 9, 10] .nil)) .z) (.s .z (.c (.s (.o (oc [0, 1, 2, 4, 5, 3, 6, 7, 8] .nil)) .z) .z)))))))) (.s (.o (oc [0, 1, 2, 4, 5, 7, 8, 3, 6, 9, 10, 11] .nil)) .z))))
theorem E_simulcastlaw32_Act_do (x0 s1 : Value) (h : Hp) (R : Value → Hp → Prop) : F_simulcastlaw32_Act_do (Sys.of Go.Proofs.Try.prog) ids x0 s1 h R = denFn Go.Proofs.Try.prog Go.Proofs.Try.f17 H_simulcastlaw32_Act_do [x0, s1] h R := by kernel_rfl
theorem C_simulcastlaw32_Act_do {x0 s1 : Value} {h : Hp} {R : Value → Hp → Prop} (H : F_simulcastlaw32_Act_do (Sys.of Go.Proofs.Try.prog) ids x0 s1 h R) : (Sys.of Go.Proofs.Try.prog).C ids.f_simulcastlaw32_Act_do [x0, s1] h R :=
  cl_of_den Go.Proofs.Try.func17 (by kernel_rfl) mixed (E_simulcastlaw32_Act_do x0 s1 h R) H

def H_simulcastref32_Do : HT := (.s .z (.s .z (.s .z (.s .z (.s (.s .z (.c (.s .z .z) .z)) (.s (.s .z (.c (.s (.s .z (.c (.s .z .z) .z)) (.s .z (.s (.o (oc [0, 1, 2, 3, 4, 5, 6, 7] .nil)) .z))) .z)) (.s (.s .z (.c (.s .z (.s .z .z)) .z)) (.s (.s .z (.c (.s .z .z) .z)) (.s (.s .z (.c (.s .z .z) .z)) (.s (.s .z (.c (.s .z .z) .z)) (.s (.s (.o (oc [0, 1, 2, 3, 4, 5, 6, 7, 8] .nil)) (.c (.s .z .z) .z)) (.s .z (.s (.o (oc [0, 1, 2, 3, 4, 5, 6, 7, 8, 9, 10, 11, 12] .nil)) (.s .z .z))))))))))))))
theorem E_simulcastref32_Do (l0 x1 : Value) (h : Hp) (R : Value → Hp → Prop) : F_simulcastref32_Do (Sys.of Go.Proofs.Try.prog) ids l0 x1 h R = denFn Go.Proofs.Try.prog Go.Proofs.Try.f18 H_simulcastref32_Do [l0, x1] h R := by kernel_rfl
theorem C_simulcastref32_Do {l0 x1 : Value} {h : Hp} {R : Value → Hp → Prop} (H : F_simulcastref32_Do (Sys.of Go.Proofs.Try.prog) ids l0 x1 h R) : (Sys.of Go.Proofs.Try.prog).C ids.f_simulcastref32_Do [l0, x1] h R :=
  cl_of_den Go.Proofs.Try.func18 (by kernel_rfl) mixed (E_simulcastref32_Do l0 x1 h R) H

def H_simulcastlaw32_Act_ref : HT := (.s .z (.s .z .z))
theorem E_simulcastlaw32_Act_ref (x0 : Value) (h : Hp) (R : Value → Hp → Prop) : F_simulcastlaw32_Act_ref (Sys.of Go.Proofs.Try.prog) ids x0 h R = denFn Go.Proofs.Try.prog Go.Proofs.Try.f19 H_simulcastlaw32_Act_ref [x0] h R := by kernel_rfl
theorem C_simulcastlaw32_Act_ref {x0 : Value} {h : Hp} {R : Value → Hp → Prop} (H : F_simulcastlaw32_Act_ref (Sys.of Go.Proofs.Try.prog) ids x0 h R) : (Sys.of Go.Proofs.Try.prog).C ids.f_simulcastlaw32_Act_ref [x0] h R :=
  cl_of_den Go.Proofs.Try.func19 (by kernel_rfl) mixed (E_simulcastlaw32_Act_ref x0 h R) H

def H_simulcastlaw32_is : HT := (.s .z (.s (.s .z (.b (.l [11] [2, 9, 10, 32] (.s .z (.s (.c .z .z) (.s (.b (.s .z (.j [7, 8] [2, 6, 9, 10, 11, 32] (.o (oc [0, 1] (.alt (oc [2] (.alt (oc [3, 4, 5, 6, 7, 8, 9] .nil) (oc [7, 3, 4, 5, 6, 8, 9] .nil))) (oc [7, 2, 3, 4, 5, 6, 8, 9] .nil)))) (.j [30] [2, 9, 10, 11, 32] .z (.c (.s .z .z) .z))))) .z)))))) (.s .z .z)))
theorem E_simulcastlaw32_is (m0 l1 : Value) (h : Hp) (R : Value → Hp → Prop) : F_simulcastlaw32_is (Sys.of Go.Proofs.Try.prog) ids m0 l1 h R = denFn Go.Proofs.Try.prog Go.Proofs.Try.f20 H_simulcastlaw32_is [m0, l1] h R := by kernel_rfl
theorem C_simulcastlaw32_is {m0 l1 : Value} {h : Hp} {R : Value → Hp → Prop} (H : F_simulcastlaw32_is (Sys.of Go.Proofs.Try.prog) ids m0 l1 h R) : (Sys.of Go.Proofs.Try.prog).C ids.f_simulcastlaw32_is [m0, l1] h R :=
  cl_of_den Go.Proofs.Try.func20 (by kernel_rfl) mixed (E_simulcastlaw32_is m0 l1 h R) H

def H_simulcastlaw32_CounterSums_1 : HT := .z
theorem E_simulcastlaw32_CounterSums_1 (s0 v1 : Value) (h : Hp) (R : Value → Hp → Prop) : F_simulcastlaw32_CounterSums_1 (Sys.of Go.Proofs.Try.prog) ids s0 v1 h R = denFn Go.Proofs.Try.prog Go.Proofs.Try.f21 H_simulcastlaw32_CounterSums_1 [s0, v1] h R := by kernel_rfl
theorem C_simulcastlaw32_CounterSums_1 {s0 v1 : Value} {h : Hp} {R : Value → Hp → Prop} (H : F_simulcastlaw32_CounterSums_1 (Sys.of Go.Proofs.Try.prog) ids s0 v1 h R) : (Sys.of Go.Proofs.Try.prog).C ids.f_simulcastlaw32_CounterSums_1 [s0, v1] h R :=
  cl_of_den Go.Proofs.Try.func21 (by kernel_rfl) mixed (E_simulcastlaw32_CounterSums_1 s0 v1 h R) H

def H_model_Model_At : HT := (.s .z (.s (.j [14] [1, 2, 4, 21] .z (.c (.s .z .z) .z)) (.s .z .z)))
theorem E_model_Model_At (m0 at1 : Value) (h : Hp) (R : Value → Hp → Prop) : F_model_Model_At (Sys.of Go.Proofs.Try.prog) ids m0 at1 h R = denFn Go.Proofs.Try.prog Go.Proofs.Try.f22 H_model_Model_At [m0, at1] h R := by kernel_rfl
theorem C_model_Model_At {m0 at1 : Value} {h : Hp} {R : Value → Hp → Prop} (H : F_model_Model_At (Sys.of Go.Proofs.Try.prog) ids m0 at1 h R) : (Sys.of Go.Proofs.Try.prog).C ids.f_model_Model_At [m0, at1] h R :=
  cl_of_den Go.Proofs.Try.func22 (by kernel_rfl) mixed (E_model_Model_At m0 at1 h R) H

def H_simulcastlaw32_root : HT := (.s .z (.s .z .z))
theorem E_simulcastlaw32_root (n0 : Value) (h : Hp) (R : Value → Hp → Prop) : F_simulcastlaw32_root (Sys.of Go.Proofs.Try.prog) ids n0 h R = denFn Go.Proofs.Try.prog Go.Proofs.Try.f23 H_simulcastlaw32_root [n0] h R := by kernel_rfl
theorem C_simulcastlaw32_root {n0 : Value} {h : Hp} {R : Value → Hp → Prop} (H : F_simulcastlaw32_root (Sys.of Go.Proofs.Try.prog) ids n0 h R) : (Sys.of Go.Proofs.Try.prog).C ids.f_simulcastlaw32_root [n0] h R :=
  cl_of_den Go.Proofs.Try.func23 (by kernel_rfl) mixed (E_simulcastlaw32_root n0 h R) H

def H_space_New : HT := (.s .z (.s .z (.s (.s .z (.b (.l [] [3, 11, 27] (.s .z (.s (.c .z .z) (.b (.s .z (.s .z (.c (.o (oc [0, 1, 2, 3, 4, 5, 6] .nil)) .z))))))))) (.s .z .z))))
theorem E_space_New (known0 : Value) (h : Hp) (R : Value → Hp → Prop) : F_space_New (Sys.of Go.Proofs.Try.prog) ids known0 h R = denFn Go.Proofs.Try.prog Go.Proofs.Try.f24 H_space_New [known0] h R := by kernel_rfl
theorem C_space_New {known0 : Value} {h : Hp} {R : Value → Hp → Prop} (H : F_space_New (Sys.of Go.Proofs.Try.prog) ids known0 h R) : (Sys.of Go.Proofs.Try.prog).C ids.f_space_New [known0] h R :=
  cl_of_den Go.Proofs.Try.func24 (by kernel_rfl) mixed (E_space_New known0 h R) H

def H_counter_Set : HT := (.s .z (.s .z (.s .z (.s .z .z))))
theorem E_counter_Set (s0 root1 n2 : Value) (h : Hp) (R : Value → Hp → Prop) : F_counter_Set (Sys.of Go.Proofs.Try.prog) ids s0 root1 n2 h R = denFn Go.Proofs.Try.prog Go.Proofs.Try.f25 H_counter_Set [s0, root1, n2] h R := by kernel_rfl
theorem C_counter_Set {s0 root1 n2 : Value} {h : Hp} {R : Value → Hp → Prop} (H : F_counter_Set (Sys.of Go.Proofs.Try.prog) ids s0 root1 n2 h R) : (Sys.of Go.Proofs.Try.prog).C ids.f_counter_Set [s0, root1, n2] h R :=
  cl_of_den Go.Proofs.Try.func25 (by kernel_rfl) mixed (E_counter_Set s0 root1 n2 h R) H

def H_counter_Get : HT := (.s .z (.s .z .z))
theorem E_counter_Get (s0 root1 : Value) (h : Hp) (R : Value → Hp → Prop) : F_counter_Get (Sys.of Go.Proofs.Try.prog) ids s0 root1 h R = denFn Go.Proofs.Try.prog Go.Proofs.Try.f26 H_counter_Get [s0, root1] h R := by kernel_rfl
theorem C_counter_Get {s0 root1 : Value} {h : Hp} {R : Value → Hp → Prop} (H : F_counter_Get (Sys.of Go.Proofs.Try.prog) ids s0 root1 h R) : (Sys.of Go.Proofs.Try.prog).C ids.f_counter_Get [s0, root1] h R :=
  cl_of_den Go.Proofs.Try.func26 (by kernel_rfl) mixed (E_counter_Get s0 root1 h R) H

def H_counter_Add : HT := (.s .z (.s .z (.s (.s .z (.c (.s .z .z) .z)) (.s .z (.s .z .z)))))
theorem E_counter_Add (s0 root1 n2 : Value) (h : Hp) (R : Value → Hp → Prop) : F_counter_Add (Sys.of Go.Proofs.Try.prog) ids s0 root1 n2 h R = denFn Go.Proofs.Try.prog Go.Proofs.Try.f27 H_counter_Add [s0, root1, n2] h R := by kernel_rfl
theorem C_counter_Add {s0 root1 n2 : Value} {h : Hp} {R : Value → Hp → Prop} (H : F_counter_Add (Sys.of Go.Proofs.Try.prog) ids s0 root1 n2 h R) : (Sys.of Go.Proofs.Try.prog).C ids.f_counter_Add [s0, root1, n2] h R :=
  cl_of_den Go.Proofs.Try.func27 (by kernel_rfl) mixed (E_counter_Add s0 root1 n2 h R) H

def H_space_Space_Reads : HT := (.s .z (.s .z (.s (.s .z (.c (.s .z .z) .z)) (.s (.s .z (.b (.l [3] [12, 24] (.s .z (.s (.c .z .z) (.b (.s .z .z))))))) (.s .z (.s .z .z))))))
theorem E_space_Space_Reads (s0 : Value) (h : Hp) (R : Value → Hp → Prop) : F_space_Space_Reads (Sys.of Go.Proofs.Try.prog) ids s0 h R = denFn Go.Proofs.Try.prog Go.Proofs.Try.f28 H_space_Space_Reads [s0] h R := by kernel_rfl
theorem C_space_Space_Reads {s0 : Value} {h : Hp} {R : Value → Hp → Prop} (H : F_space_Space_Reads (Sys.of Go.Proofs.Try.prog) ids s0 h R) : (Sys.of Go.Proofs.Try.prog).C ids.f_space_Space_Reads [s0] h R :=
  cl_of_den Go.Proofs.Try.func28 (by kernel_rfl) mixed (E_space_Space_Reads s0 h R) H

def H_space_Space_Writes : HT := (.s .z (.s .z (.s (.s .z (.c (.s .z .z) .z)) (.s (.s .z (.b (.l [3, 14] [12, 13, 28] (.s .z (.s (.c .z .z) (.s (.b (.s .z .z)) .z)))))) (.s .z (.s .z .z))))))
theorem E_space_Space_Writes (s0 : Value) (h : Hp) (R : Value → Hp → Prop) : F_space_Space_Writes (Sys.of Go.Proofs.Try.prog) ids s0 h R = denFn Go.Proofs.Try.prog Go.Proofs.Try.f29 H_space_Space_Writes [s0] h R := by kernel_rfl
theorem C_space_Space_Writes {s0 : Value} {h : Hp} {R : Value → Hp → Prop} (H : F_space_Space_Writes (Sys.of Go.Proofs.Try.prog) ids s0 h R) : (Sys.of Go.Proofs.Try.prog).C ids.f_space_Space_Writes [s0] h R :=
  cl_of_den Go.Proofs.Try.func29 (by kernel_rfl) mixed (E_space_Space_Writes s0 h R) H

def H_counter_Move : HT := (.s .z (.s (.s .z (.c (.s .z .z) .z)) (.s .z (.s (.s .z (.c (.s .z .z) .z)) (.s (.s .z (.c (.s .z .z) .z)) (.s .z (.s (.s .z (.c (.s .z .z) .z)) (.s .z (.s .z (.s .z .z))))))))))
theorem E_counter_Move (s0 from1 to2 n3 : Value) (h : Hp) (R : Value → Hp → Prop) : F_counter_Move (Sys.of Go.Proofs.Try.prog) ids s0 from1 to2 n3 h R = denFn Go.Proofs.Try.prog Go.Proofs.Try.f30 H_counter_Move [s0, from1, to2, n3] h R := by kernel_rfl
theorem C_counter_Move {s0 from1 to2 n3 : Value} {h : Hp} {R : Value → Hp → Prop} (H : F_counter_Move (Sys.of Go.Proofs.Try.prog) ids s0 from1 to2 n3 h R) : (Sys.of Go.Proofs.Try.prog).C ids.f_counter_Move [s0, from1, to2, n3] h R :=
  cl_of_den Go.Proofs.Try.func30 (by kernel_rfl) mixed (E_counter_Move s0 from1 to2 n3 h R) H

def H_simulcastlaw35_awake : HT := (.s .z (.s .z (.s .z (.s (.s .z (.b (.l [3, 17] [1, 2, 15, 16, 40] (.s .z (.s (.c .z .z) (.j [3] [1, 2, 15, 16, 17, 40] (.b (.s .z (.s .z .z))) .z)))))) (.j [0] [40] .z .z)))))
theorem E_simulcastlaw35_awake (h : Hp) (R : Value → Hp → Prop) : F_simulcastlaw35_awake (Sys.of Go.Proofs.Try.prog) ids h R = denFn Go.Proofs.Try.prog Go.Proofs.Try.f31 H_simulcastlaw35_awake [] h R := by kernel_rfl
theorem C_simulcastlaw35_awake {h : Hp} {R : Value → Hp → Prop} (H : F_simulcastlaw35_awake (Sys.of Go.Proofs.Try.prog) ids h R) : (Sys.of Go.Proofs.Try.prog).C ids.f_simulcastlaw35_awake [] h R :=
  cl_of_den Go.Proofs.Try.func31 (by kernel_rfl) mixed (E_simulcastlaw35_awake h R) H

def H_simulcastlaw35_nodes : HT := (.s .z (.s .z .z))
theorem E_simulcastlaw35_nodes (n0 : Value) (h : Hp) (R : Value → Hp → Prop) : F_simulcastlaw35_nodes (Sys.of Go.Proofs.Try.prog) ids n0 h R = denFn Go.Proofs.Try.prog Go.Proofs.Try.f32 H_simulcastlaw35_nodes [n0] h R := by kernel_rfl
theorem C_simulcastlaw35_nodes {n0 : Value} {h : Hp} {R : Value → Hp → Prop} (H : F_simulcastlaw35_nodes (Sys.of Go.Proofs.Try.prog) ids n0 h R) : (Sys.of Go.Proofs.Try.prog).C ids.f_simulcastlaw35_nodes [n0] h R :=
  cl_of_den Go.Proofs.Try.func32 (by kernel_rfl) mixed (E_simulcastlaw35_nodes n0 h R) H

def H_simulcastlaw35_DequeActs_1 : HT := .z
theorem E_simulcastlaw35_DequeActs_1 (s0 v1 v2 v3 v4 : Value) (h : Hp) (R : Value → Hp → Prop) : F_simulcastlaw35_DequeActs_1 (Sys.of Go.Proofs.Try.prog) ids s0 v1 v2 v3 v4 h R = denFn Go.Proofs.Try.prog Go.Proofs.Try.f33 H_simulcastlaw35_DequeActs_1 [s0, v1, v2, v3, v4] h R := by kernel_rfl
theorem C_simulcastlaw35_DequeActs_1 {s0 v1 v2 v3 v4 : Value} {h : Hp} {R : Value → Hp → Prop} (H : F_simulcastlaw35_DequeActs_1 (Sys.of Go.Proofs.Try.prog) ids s0 v1 v2 v3 v4 h R) : (Sys.of Go.Proofs.Try.prog).C ids.f_simulcastlaw35_DequeActs_1 [s0, v1, v2, v3, v4] h R :=
  cl_of_den Go.Proofs.Try.func33 (by kernel_rfl) mixed (E_simulcastlaw35_DequeActs_1 s0 v1 v2 v3 v4 h R) H

def H_simulcastlaw35_Act_do : HT := (.s .z (.s (.s .z (.b (.s .z (.c (.s .z .z) (.s .z (.c (.s .z .z) .z)))))) (.s .z .z)))
theorem E_simulcastlaw35_Act_do (x0 s1 p2 : Value) (h : Hp) (R : Value → Hp → Prop) : F_simulcastlaw35_Act_do (Sys.of Go.Proofs.Try.prog) ids x0 s1 p2 h R = denFn Go.Proofs.Try.prog Go.Proofs.Try.f34 H_simulcastlaw35_Act_do [x0, s1, p2] h R := by kernel_rfl
theorem C_simulcastlaw35_Act_do {x0 s1 p2 : Value} {h : Hp} {R : Value → Hp → Prop} (H : F_simulcastlaw35_Act_do (Sys.of Go.Proofs.Try.prog) ids x0 s1 p2 h R) : (Sys.of Go.Proofs.Try.prog).C ids.f_simulcastlaw35_Act_do [x0, s1, p2] h R :=
  cl_of_den Go.Proofs.Try.func34 (by kernel_rfl) mixed (E_simulcastlaw35_Act_do x0 s1 p2 h R) H

def H_simulcastlaw35_Act_ref : HT := (.s .z (.s (.b (.j [9] [1, 3, 55] .z (.c (.s .z .z) (.s .z (.c (.s .z .z) (.s .z (.c (.s .z .z) (.s .z (.c (.s (.o (oc [0, 1, 2, 4, 5, 6, 3, 7, 8, 9, 10] .nil)) .z) .z))))))))) (.s .z .z)))
theorem E_simulcastlaw35_Act_ref (x0 l1 n2 : Value) (h : Hp) (R : Value → Hp → Prop) : F_simulcastlaw35_Act_ref (Sys.of Go.Proofs.Try.prog) ids x0 l1 n2 h R = denFn Go.Proofs.Try.prog Go.Proofs.Try.f35 H_simulcastlaw35_Act_ref [x0, l1, n2] h R := by kernel_rfl
theorem C_simulcastlaw35_Act_ref {x0 l1 n2 : Value} {h : Hp} {R : Value → Hp → Prop} (H : F_simulcastlaw35_Act_ref (Sys.of Go.Proofs.Try.prog) ids x0 l1 n2 h R) : (Sys.of Go.Proofs.Try.prog).C ids.f_simulcastlaw35_Act_ref [x0, l1, n2] h R :=
  cl_of_den Go.Proofs.Try.func35 (by kernel_rfl) mixed (E_simulcastlaw35_Act_ref x0 l1 n2 h R) H

def H_simulcastlaw35_is : HT := (.s .z (.s .z (.s (.s .z (.c (.s .z .z) .z)) (.s .z (.s .z (.s .z (.j [6] [78] (.o (oc [0, 1, 2, 3, 4, 5, 6, 7, 8, 9, 10, 11, 12, 13, 14, 15, 16, 17, 18, 19, 21, 22, 20, 23, 24, 25, 26, 27, 28, 29, 30, 31, 32, 33, 34, 36, 37, 39, 40, 35, 38, 41, 42, 43] .nil)) .z)))))))
theorem E_simulcastlaw35_is (m0 p1 l2 : Value) (h : Hp) (R : Value → Hp → Prop) : F_simulcastlaw35_is (Sys.of Go.Proofs.Try.prog) ids m0 p1 l2 h R = denFn Go.Proofs.Try.prog Go.Proofs.Try.f36 H_simulcastlaw35_is [m0, p1, l2] h R := by kernel_rfl
theorem C_simulcastlaw35_is {m0 p1 l2 : Value} {h : Hp} {R : Value → Hp → Prop} (H : F_simulcastlaw35_is (Sys.of Go.Proofs.Try.prog) ids m0 p1 l2 h R) : (Sys.of Go.Proofs.Try.prog).C ids.f_simulcastlaw35_is [m0, p1, l2] h R :=
  cl_of_den Go.Proofs.Try.func36 (by kernel_rfl) mixed (E_simulcastlaw35_is m0 p1 l2 h R) H

def H_simulcastlaw35_whole : HT := (.s .z (.s .z (.s (.s .z (.b (.l [10] [3, 8, 9, 21] (.s .z (.s (.c .z .z) (.s (.b (.s .z .z)) .z)))))) (.s .z .z))))
theorem E_simulcastlaw35_whole (m0 : Value) (h : Hp) (R : Value → Hp → Prop) : F_simulcastlaw35_whole (Sys.of Go.Proofs.Try.prog) ids m0 h R = denFn Go.Proofs.Try.prog Go.Proofs.Try.f37 H_simulcastlaw35_whole [m0] h R := by kernel_rfl
theorem C_simulcastlaw35_whole {m0 : Value} {h : Hp} {R : Value → Hp → Prop} (H : F_simulcastlaw35_whole (Sys.of Go.Proofs.Try.prog) ids m0 h R) : (Sys.of Go.Proofs.Try.prog).C ids.f_simulcastlaw35_whole [m0] h R :=
  cl_of_den Go.Proofs.Try.func37 (by kernel_rfl) mixed (E_simulcastlaw35_whole m0 h R) H

def H_deque_Push : HT := (.s .z (.s .z (.s .z (.s (.s .z (.c (.s .z .z) .z)) (.s .z (.s .z (.s .z (.s .z (.s .z (.j [] [0, 2, 10, 11, 12, 87] (.b (.s .z (.c .z (.s .z (.c (.s .z .z) .z))))) (.s .z (.s .z (.s .z (.s .z .z))))))))))))))
theorem E_deque_Push (s0 p1 root2 right3 v4 : Value) (h : Hp) (R : Value → Hp → Prop) : F_deque_Push (Sys.of Go.Proofs.Try.prog) ids s0 p1 root2 right3 v4 h R = denFn Go.Proofs.Try.prog Go.Proofs.Try.f38 H_deque_Push [s0, p1, root2, right3, v4] h R := by kernel_rfl
theorem C_deque_Push {s0 p1 root2 right3 v4 : Value} {h : Hp} {R : Value → Hp → Prop} (H : F_deque_Push (Sys.of Go.Proofs.Try.prog) ids s0 p1 root2 right3 v4 h R) : (Sys.of Go.Proofs.Try.prog).C ids.f_deque_Push [s0, p1, root2, right3, v4] h R :=
  cl_of_den Go.Proofs.Try.func38 (by kernel_rfl) mixed (E_deque_Push s0 p1 root2 right3 v4 h R) H

def H_deque_Pop : HT := (.s .z (.s .z (.s .z (.s .z (.s (.b (.s .z (.c (.s .z .z) (.s .z (.c (.s .z .z) .z))))) (.s .z (.s .z (.j [] [0, 2, 5, 9, 10, 13, 14, 88] (.b (.s .z (.c .z (.s .z (.c (.s .z .z) .z))))) (.s .z (.s .z (.s .z (.s .z (.s (.s .z (.s .z (.c (.s .z .z) .z))) (.s .z .z))))))))))))))
theorem E_deque_Pop (s0 p1 root2 right3 : Value) (h : Hp) (R : Value → Hp → Prop) : F_deque_Pop (Sys.of Go.Proofs.Try.prog) ids s0 p1 root2 right3 h R = denFn Go.Proofs.Try.prog Go.Proofs.Try.f39 H_deque_Pop [s0, p1, root2, right3] h R := by kernel_rfl
theorem C_deque_Pop {s0 p1 root2 right3 : Value} {h : Hp} {R : Value → Hp → Prop} (H : F_deque_Pop (Sys.of Go.Proofs.Try.prog) ids s0 p1 root2 right3 h R) : (Sys.of Go.Proofs.Try.prog).C ids.f_deque_Pop [s0, p1, root2, right3] h R :=
  cl_of_den Go.Proofs.Try.func39 (by kernel_rfl) mixed (E_deque_Pop s0 p1 root2 right3 h R) H

def H_deque_Peek : HT := (.s .z (.s .z (.s (.s .z (.c (.s .z .z) .z)) (.s .z .z))))
theorem E_deque_Peek (s0 root1 right2 : Value) (h : Hp) (R : Value → Hp → Prop) : F_deque_Peek (Sys.of Go.Proofs.Try.prog) ids s0 root1 right2 h R = denFn Go.Proofs.Try.prog Go.Proofs.Try.f40 H_deque_Peek [s0, root1, right2] h R := by kernel_rfl
theorem C_deque_Peek {s0 root1 right2 : Value} {h : Hp} {R : Value → Hp → Prop} (H : F_deque_Peek (Sys.of Go.Proofs.Try.prog) ids s0 root1 right2 h R) : (Sys.of Go.Proofs.Try.prog).C ids.f_deque_Peek [s0, root1, right2] h R :=
  cl_of_den Go.Proofs.Try.func40 (by kernel_rfl) mixed (E_deque_Peek s0 root1 right2 h R) H

def H_deque_Len : HT := (.s .z (.s .z .z))
theorem E_deque_Len (s0 root1 : Value) (h : Hp) (R : Value → Hp → Prop) : F_deque_Len (Sys.of Go.Proofs.Try.prog) ids s0 root1 h R = denFn Go.Proofs.Try.prog Go.Proofs.Try.f41 H_deque_Len [s0, root1] h R := by kernel_rfl
theorem C_deque_Len {s0 root1 : Value} {h : Hp} {R : Value → Hp → Prop} (H : F_deque_Len (Sys.of Go.Proofs.Try.prog) ids s0 root1 h R) : (Sys.of Go.Proofs.Try.prog).C ids.f_deque_Len [s0, root1] h R :=
  cl_of_den Go.Proofs.Try.func41 (by kernel_rfl) mixed (E_deque_Len s0 root1 h R) H

def H_pool_Pool_Left : HT := (.s .z (.s (.s .z (.c (.s .z .z) .z)) (.s (.o (oc [0, 1, 2, 3, 5, 6, 8, 9, 10, 11, 4, 7, 12, 13, 14, 15] .nil)) .z)))
theorem E_pool_Pool_Left (p0 s1 : Value) (h : Hp) (R : Value → Hp → Prop) : F_pool_Pool_Left (Sys.of Go.Proofs.Try.prog) ids p0 s1 h R = denFn Go.Proofs.Try.prog Go.Proofs.Try.f42 H_pool_Pool_Left [p0, s1] h R := by kernel_rfl
theorem C_pool_Pool_Left {p0 s1 : Value} {h : Hp} {R : Value → Hp → Prop} (H : F_pool_Pool_Left (Sys.of Go.Proofs.Try.prog) ids p0 s1 h R) : (Sys.of Go.Proofs.Try.prog).C ids.f_pool_Pool_Left [p0, s1] h R :=
  cl_of_den Go.Proofs.Try.func42 (by kernel_rfl) mixed (E_pool_Pool_Left p0 s1 h R) H

def H_simulcastref35_Push : HT := (.s .z (.s .z (.j [7] [0, 1, 2, 23] (.s .z (.c .z .z)) (.s .z (.j [7] [23] (.s .z (.c .z .z)) (.s .z .z))))))
theorem E_simulcastref35_Push (l0 right1 v2 : Value) (h : Hp) (R : Value → Hp → Prop) : F_simulcastref35_Push (Sys.of Go.Proofs.Try.prog) ids l0 right1 v2 h R = denFn Go.Proofs.Try.prog Go.Proofs.Try.f43 H_simulcastref35_Push [l0, right1, v2] h R := by kernel_rfl
theorem C_simulcastref35_Push {l0 right1 v2 : Value} {h : Hp} {R : Value → Hp → Prop} (H : F_simulcastref35_Push (Sys.of Go.Proofs.Try.prog) ids l0 right1 v2 h R) : (Sys.of Go.Proofs.Try.prog).C ids.f_simulcastref35_Push [l0, right1, v2] h R :=
  cl_of_den Go.Proofs.Try.func43 (by kernel_rfl) mixed (E_simulcastref35_Push l0 right1 v2 h R) H

def H_simulcastref35_Peek : HT := (.s .z (.s (.s .z (.c (.s .z .z) .z)) (.s .z .z)))
theorem E_simulcastref35_Peek (l0 right1 : Value) (h : Hp) (R : Value → Hp → Prop) : F_simulcastref35_Peek (Sys.of Go.Proofs.Try.prog) ids l0 right1 h R = denFn Go.Proofs.Try.prog Go.Proofs.Try.f44 H_simulcastref35_Peek [l0, right1] h R := by kernel_rfl
theorem C_simulcastref35_Peek {l0 right1 : Value} {h : Hp} {R : Value → Hp → Prop} (H : F_simulcastref35_Peek (Sys.of Go.Proofs.Try.prog) ids l0 right1 h R) : (Sys.of Go.Proofs.Try.prog).C ids.f_simulcastref35_Peek [l0, right1] h R :=
  cl_of_den Go.Proofs.Try.func44 (by kernel_rfl) mixed (E_simulcastref35_Peek l0 right1 h R) H

def H_simulcastref35_Pop : HT := (.s .z (.s .z (.s (.s .z (.b (.l [5, 6] [0, 1, 37] (.s (.s .z (.c .z .z)) (.j [5] [0, 1, 6, 37] (.b (.s (.j [28] [0, 1, 5, 6, 37] .z (.c .z .z)) .z)) .z))))) (.s .z .z))))
theorem E_simulcastref35_Pop (l0 right1 : Value) (h : Hp) (R : Value → Hp → Prop) : F_simulcastref35_Pop (Sys.of Go.Proofs.Try.prog) ids l0 right1 h R = denFn Go.Proofs.Try.prog Go.Proofs.Try.f45 H_simulcastref35_Pop [l0, right1] h R := by kernel_rfl
theorem C_simulcastref35_Pop {l0 right1 : Value} {h : Hp} {R : Value → Hp → Prop} (H : F_simulcastref35_Pop (Sys.of Go.Proofs.Try.prog) ids l0 right1 h R) : (Sys.of Go.Proofs.Try.prog).C ids.f_simulcastref35_Pop [l0, right1] h R :=
  cl_of_den Go.Proofs.Try.func45 (by kernel_rfl) mixed (E_simulcastref35_Pop l0 right1 h R) H

def H_deque_Walk : HT := (.s .z (.s .z (.s (.s .z (.b (.l [10, 11] [0, 3, 5, 46] (.s (.s .z (.c .z .z)) (.s (.b (.s (.j [37] [0, 3, 5, 10, 11, 46] .z (.c (.s .z .z) .z)) .z)) .z))))) (.s .z .z))))
theorem E_deque_Walk (s0 p1 root2 right3 : Value) (h : Hp) (R : Value → Hp → Prop) : F_deque_Walk (Sys.of Go.Proofs.Try.prog) ids s0 p1 root2 right3 h R = denFn Go.Proofs.Try.prog Go.Proofs.Try.f46 H_deque_Walk [s0, p1, root2, right3] h R := by kernel_rfl
theorem C_deque_Walk {s0 p1 root2 right3 : Value} {h : Hp} {R : Value → Hp → Prop} (H : F_deque_Walk (Sys.of Go.Proofs.Try.prog) ids s0 p1 root2 right3 h R) : (Sys.of Go.Proofs.Try.prog).C ids.f_deque_Walk [s0, p1, root2, right3] h R :=
  cl_of_den Go.Proofs.Try.func46 (by kernel_rfl) mixed (E_deque_Walk s0 p1 root2 right3 h R) H

def H_slices_Equal_int64_int64 : HT := (.s .z (.s (.s .z (.c (.s .z .z) .z)) (.s (.s .z (.b (.l [13] [0, 1, 12, 26] (.s .z (.s (.c .z .z) (.s (.b (.s .z (.s (.o (oc [0, 1, 2, 3, 4, 5, 6, 7, 8] .nil)) (.c (.s .z .z) .z)))) .z)))))) (.s .z .z))))
theorem E_slices_Equal_int64_int64 (s10 s21 : Value) (h : Hp) (R : Value → Hp → Prop) : F_slices_Equal_int64_int64 (Sys.of Go.Proofs.Try.prog) ids s10 s21 h R = denFn Go.Proofs.Try.prog Go.Proofs.Try.f47 H_slices_Equal_int64_int64 [s10, s21] h R := by kernel_rfl
theorem C_slices_Equal_int64_int64 {s10 s21 : Value} {h : Hp} {R : Value → Hp → Prop} (H : F_slices_Equal_int64_int64 (Sys.of Go.Proofs.Try.prog) ids s10 s21 h R) : (Sys.of Go.Proofs.Try.prog).C ids.f_slices_Equal_int64_int64 [s10, s21] h R :=
  cl_of_den Go.Proofs.Try.func47 (by kernel_rfl) mixed (E_slices_Equal_int64_int64 s10 s21 h R) H

def H_simulcastref35_Walk : HT := (.s .z (.s .z (.s (.s .z (.b (.l [5, 6] [0, 1, 33] (.s (.s .z (.c .z .z)) (.j [5] [0, 1, 6, 33] (.b (.s .z (.c .z .z))) .z))))) (.s .z .z))))
theorem E_simulcastref35_Walk (l0 right1 : Value) (h : Hp) (R : Value → Hp → Prop) : F_simulcastref35_Walk (Sys.of Go.Proofs.Try.prog) ids l0 right1 h R = denFn Go.Proofs.Try.prog Go.Proofs.Try.f48 H_simulcastref35_Walk [l0, right1] h R := by kernel_rfl
theorem C_simulcastref35_Walk {l0 right1 : Value} {h : Hp} {R : Value → Hp → Prop} (H : F_simulcastref35_Walk (Sys.of Go.Proofs.Try.prog) ids l0 right1 h R) : (Sys.of Go.Proofs.Try.prog).C ids.f_simulcastref35_Walk [l0, right1] h R :=
  cl_of_den Go.Proofs.Try.func48 (by kernel_rfl) mixed (E_simulcastref35_Walk l0 right1 h R) H

def H_model_Model_Words : HT := (.s .z (.s .z .z))
theorem E_model_Model_Words (m0 : Value) (h : Hp) (R : Value → Hp → Prop) : F_model_Model_Words (Sys.of Go.Proofs.Try.prog) ids m0 h R = denFn Go.Proofs.Try.prog Go.Proofs.Try.f49 H_model_Model_Words [m0] h R := by kernel_rfl
theorem C_model_Model_Words {m0 : Value} {h : Hp} {R : Value → Hp → Prop} (H : F_model_Model_Words (Sys.of Go.Proofs.Try.prog) ids m0 h R) : (Sys.of Go.Proofs.Try.prog).C ids.f_model_Model_Words [m0] h R :=
  cl_of_den Go.Proofs.Try.func49 (by kernel_rfl) mixed (E_model_Model_Words m0 h R) H

def H_space_Space_Get : HT := (.s .z (.s (.s .z (.c (.s .z .z) .z)) (.s .z (.s .z .z))))
theorem E_space_Space_Get (s0 at1 : Value) (h : Hp) (R : Value → Hp → Prop) : F_space_Space_Get (Sys.of Go.Proofs.Try.prog) ids s0 at1 h R = denFn Go.Proofs.Try.prog Go.Proofs.Try.f50 H_space_Space_Get [s0, at1] h R := by kernel_rfl
theorem C_space_Space_Get {s0 at1 : Value} {h : Hp} {R : Value → Hp → Prop} (H : F_space_Space_Get (Sys.of Go.Proofs.Try.prog) ids s0 at1 h R) : (Sys.of Go.Proofs.Try.prog).C ids.f_space_Space_Get [s0, at1] h R :=
  cl_of_den Go.Proofs.Try.func50 (by kernel_rfl) mixed (E_space_Space_Get s0 at1 h R) H

def H_space_Space_Ended : HT := (.s .z (.j [2] [11] .z .z))
theorem E_space_Space_Ended (s0 : Value) (h : Hp) (R : Value → Hp → Prop) : F_space_Space_Ended (Sys.of Go.Proofs.Try.prog) ids s0 h R = denFn Go.Proofs.Try.prog Go.Proofs.Try.f51 H_space_Space_Ended [s0] h R := by kernel_rfl
theorem C_space_Space_Ended {s0 : Value} {h : Hp} {R : Value → Hp → Prop} (H : F_space_Space_Ended (Sys.of Go.Proofs.Try.prog) ids s0 h R) : (Sys.of Go.Proofs.Try.prog).C ids.f_space_Space_Ended [s0] h R :=
  cl_of_den Go.Proofs.Try.func51 (by kernel_rfl) mixed (E_space_Space_Ended s0 h R) H

def H_simulcastlaw32_awake_1 : HT := .z
theorem E_simulcastlaw32_awake_1 (s0 v1 : Value) (h : Hp) (R : Value → Hp → Prop) : F_simulcastlaw32_awake_1 (Sys.of Go.Proofs.Try.prog) ids s0 v1 h R = denFn Go.Proofs.Try.prog Go.Proofs.Try.f52 H_simulcastlaw32_awake_1 [s0, v1] h R := by kernel_rfl
theorem C_simulcastlaw32_awake_1 {s0 v1 : Value} {h : Hp} {R : Value → Hp → Prop} (H : F_simulcastlaw32_awake_1 (Sys.of Go.Proofs.Try.prog) ids s0 v1 h R) : (Sys.of Go.Proofs.Try.prog).C ids.f_simulcastlaw32_awake_1 [s0, v1] h R :=
  cl_of_den Go.Proofs.Try.func52 (by kernel_rfl) mixed (E_simulcastlaw32_awake_1 s0 v1 h R) H

def H_model_New : HT := (.s .z (.s .z (.s (.s .z (.b (.l [9] [2, 3, 8, 19] (.s .z (.s (.c .z .z) (.s (.b (.s .z .z)) .z)))))) (.s .z .z))))
theorem E_model_New (w0 : Value) (h : Hp) (R : Value → Hp → Prop) : F_model_New (Sys.of Go.Proofs.Try.prog) ids w0 h R = denFn Go.Proofs.Try.prog Go.Proofs.Try.f53 H_model_New [w0] h R := by kernel_rfl
theorem C_model_New {w0 : Value} {h : Hp} {R : Value → Hp → Prop} (H : F_model_New (Sys.of Go.Proofs.Try.prog) ids w0 h R) : (Sys.of Go.Proofs.Try.prog).C ids.f_model_New [w0] h R :=
  cl_of_den Go.Proofs.Try.func53 (by kernel_rfl) mixed (E_model_New w0 h R) H

def H_model_Model_Len : HT := (.s .z (.s .z .z))
theorem E_model_Model_Len (m0 : Value) (h : Hp) (R : Value → Hp → Prop) : F_model_Model_Len (Sys.of Go.Proofs.Try.prog) ids m0 h R = denFn Go.Proofs.Try.prog Go.Proofs.Try.f54 H_model_Model_Len [m0] h R := by kernel_rfl
theorem C_model_Model_Len {m0 : Value} {h : Hp} {R : Value → Hp → Prop} (H : F_model_Model_Len (Sys.of Go.Proofs.Try.prog) ids m0 h R) : (Sys.of Go.Proofs.Try.prog).C ids.f_model_Model_Len [m0] h R :=
  cl_of_den Go.Proofs.Try.func54 (by kernel_rfl) mixed (E_model_Model_Len m0 h R) H

def H_space_Space_Need : HT := (.s .z (.s (.j [12] [0, 17] .z (.c (.s .z .z) .z)) (.s .z .z)))
theorem E_space_Space_Need (s0 : Value) (h : Hp) (R : Value → Hp → Prop) : F_space_Space_Need (Sys.of Go.Proofs.Try.prog) ids s0 h R = denFn Go.Proofs.Try.prog Go.Proofs.Try.f55 H_space_Space_Need [s0] h R := by kernel_rfl
theorem C_space_Space_Need {s0 : Value} {h : Hp} {R : Value → Hp → Prop} (H : F_space_Space_Need (Sys.of Go.Proofs.Try.prog) ids s0 h R) : (Sys.of Go.Proofs.Try.prog).C ids.f_space_Space_Need [s0] h R :=
  cl_of_den Go.Proofs.Try.func55 (by kernel_rfl) mixed (E_space_Space_Need s0 h R) H

def H_space_Space_Entries : HT := (.s .z (.s (.s .z (.c (.s .z .z) .z)) (.s .z (.s (.s .z (.b (.l [4, 15] [0, 13, 14, 48] (.s .z (.s (.c .z .z) (.s (.b (.s .z (.s .z .z))) .z)))))) (.s (.s .z (.c (.s .z .z) .z)) (.s (.s .z (.s .z (.c (.s .z .z) .z))) (.s .z .z)))))))
theorem E_space_Space_Entries (s0 : Value) (h : Hp) (R : Value → Hp → Prop) : F_space_Space_Entries (Sys.of Go.Proofs.Try.prog) ids s0 h R = denFn Go.Proofs.Try.prog Go.Proofs.Try.f56 H_space_Space_Entries [s0] h R := by kernel_rfl
theorem C_space_Space_Entries {s0 : Value} {h : Hp} {R : Value → Hp → Prop} (H : F_space_Space_Entries (Sys.of Go.Proofs.Try.prog) ids s0 h R) : (Sys.of Go.Proofs.Try.prog).C ids.f_space_Space_Entries [s0] h R :=
  cl_of_den Go.Proofs.Try.func56 (by kernel_rfl) mixed (E_space_Space_Entries s0 h R) H

def H_model_Model_Swap : HT := (.s .z (.s (.s .z (.s .z (.c (.s .z .z) .z))) (.s (.s .z (.b (.l [23] [1, 2, 4, 21, 22, 67] (.s .z (.s (.c .z .z) (.s (.b (.s .z (.s .z (.s .z (.c (.s .z .z) .z))))) .z)))))) (.s (.s .z (.c (.s .z .z) .z)) (.s .z (.s (.s .z (.b (.l [47] [4, 12, 45, 46, 67] (.s .z (.s (.c .z .z) (.j [] [4, 12, 45, 46, 47, 67] (.b (.s .z (.s .z (.c .z .z)))) .z)))))) (.s .z .z)))))))
theorem E_model_Model_Swap (m0 l1 : Value) (h : Hp) (R : Value → Hp → Prop) : F_model_Model_Swap (Sys.of Go.Proofs.Try.prog) ids m0 l1 h R = denFn Go.Proofs.Try.prog Go.Proofs.Try.f57 H_model_Model_Swap [m0, l1] h R := by kernel_rfl
theorem C_model_Model_Swap {m0 l1 : Value} {h : Hp} {R : Value → Hp → Prop} (H : F_model_Model_Swap (Sys.of Go.Proofs.Try.prog) ids m0 l1 h R) : (Sys.of Go.Proofs.Try.prog).C ids.f_model_Model_Swap [m0, l1] h R :=
  cl_of_den Go.Proofs.Try.func57 (by kernel_rfl) mixed (E_model_Model_Swap m0 l1 h R) H

def H_simulcastref32_fits : HT := (.s .z (.s (.s .z (.c (.s .z .z) .z)) (.s .z .z)))
theorem E_simulcastref32_fits (a0 b1 : Value) (h : Hp) (R : Value → Hp → Prop) : F_simulcastref32_fits (Sys.of Go.Proofs.Try.prog) ids a0 b1 h R = denFn Go.Proofs.Try.prog Go.Proofs.Try.f58 H_simulcastref32_fits [a0, b1] h R := by kernel_rfl
theorem C_simulcastref32_fits {a0 b1 : Value} {h : Hp} {R : Value → Hp → Prop} (H : F_simulcastref32_fits (Sys.of Go.Proofs.Try.prog) ids a0 b1 h R) : (Sys.of Go.Proofs.Try.prog).C ids.f_simulcastref32_fits [a0, b1] h R :=
  cl_of_den Go.Proofs.Try.func58 (by kernel_rfl) mixed (E_simulcastref32_fits a0 b1 h R) H

def H_space_Space_Put : HT := (.s .z (.c .z .z))
theorem E_space_Space_Put (s0 at1 v2 : Value) (h : Hp) (R : Value → Hp → Prop) : F_space_Space_Put (Sys.of Go.Proofs.Try.prog) ids s0 at1 v2 h R = denFn Go.Proofs.Try.prog Go.Proofs.Try.f59 H_space_Space_Put [s0, at1, v2] h R := by kernel_rfl
theorem C_space_Space_Put {s0 at1 v2 : Value} {h : Hp} {R : Value → Hp → Prop} (H : F_space_Space_Put (Sys.of Go.Proofs.Try.prog) ids s0 at1 v2 h R) : (Sys.of Go.Proofs.Try.prog).C ids.f_space_Space_Put [s0, at1, v2] h R :=
  cl_of_den Go.Proofs.Try.func59 (by kernel_rfl) mixed (E_space_Space_Put s0 at1 v2 h R) H

def H_counter_fits : HT := (.s .z (.s (.s .z (.c (.s .z .z) .z)) (.s .z .z)))
theorem E_counter_fits (a0 n1 : Value) (h : Hp) (R : Value → Hp → Prop) : F_counter_fits (Sys.of Go.Proofs.Try.prog) ids a0 n1 h R = denFn Go.Proofs.Try.prog Go.Proofs.Try.f60 H_counter_fits [a0, n1] h R := by kernel_rfl
theorem C_counter_fits {a0 n1 : Value} {h : Hp} {R : Value → Hp → Prop} (H : F_counter_fits (Sys.of Go.Proofs.Try.prog) ids a0 n1 h R) : (Sys.of Go.Proofs.Try.prog).C ids.f_counter_fits [a0, n1] h R :=
  cl_of_den Go.Proofs.Try.func60 (by kernel_rfl) mixed (E_counter_fits a0 n1 h R) H

def H_slices_Sort_api_Loc_api_Loc : HT := (.s .z .z)
theorem E_slices_Sort_api_Loc_api_Loc (x0 : Value) (h : Hp) (R : Value → Hp → Prop) : F_slices_Sort_api_Loc_api_Loc (Sys.of Go.Proofs.Try.prog) ids x0 h R = denFn Go.Proofs.Try.prog Go.Proofs.Try.f61 H_slices_Sort_api_Loc_api_Loc [x0] h R := by kernel_rfl
theorem C_slices_Sort_api_Loc_api_Loc {x0 : Value} {h : Hp} {R : Value → Hp → Prop} (H : F_slices_Sort_api_Loc_api_Loc (Sys.of Go.Proofs.Try.prog) ids x0 h R) : (Sys.of Go.Proofs.Try.prog).C ids.f_slices_Sort_api_Loc_api_Loc [x0] h R :=
  cl_of_den Go.Proofs.Try.func61 (by kernel_rfl) mixed (E_slices_Sort_api_Loc_api_Loc x0 h R) H

def H_slices_Compact_api_Loc_api_Loc : HT := (.s .z (.s (.s .z (.c (.s .z .z) .z)) (.s (.s .z (.b (.l [3] [0, 61] (.s (.s .z (.c .z .z)) (.s (.b (.s (.o (oc [0, 1, 2, 3, 4, 5, 6, 7, 8, 9] .nil)) (.c (.s .z (.s (.s .z (.b (.l [3, 5] [0, 4, 61] (.s (.s .z (.c .z .z)) (.j [3] [0, 4, 5, 61] (.b (.s (.o (oc [0, 1, 2, 3, 4, 5, 6, 7, 8, 9] .nil)) (.c (.s .z .z) .z))) .z))))) (.s .z (.s .z .z)))) .z))) .z))))) (.s .z .z))))
theorem E_slices_Compact_api_Loc_api_Loc (s0 : Value) (h : Hp) (R : Value → Hp → Prop) : F_slices_Compact_api_Loc_api_Loc (Sys.of Go.Proofs.Try.prog) ids s0 h R = denFn Go.Proofs.Try.prog Go.Proofs.Try.f62 H_slices_Compact_api_Loc_api_Loc [s0] h R := by kernel_rfl
theorem C_slices_Compact_api_Loc_api_Loc {s0 : Value} {h : Hp} {R : Value → Hp → Prop} (H : F_slices_Compact_api_Loc_api_Loc (Sys.of Go.Proofs.Try.prog) ids s0 h R) : (Sys.of Go.Proofs.Try.prog).C ids.f_slices_Compact_api_Loc_api_Loc [s0] h R :=
  cl_of_den Go.Proofs.Try.func62 (by kernel_rfl) mixed (E_slices_Compact_api_Loc_api_Loc s0 h R) H

def H_simulcastlaw35_awake_1 : HT := .z
theorem E_simulcastlaw35_awake_1 (s0 v1 v2 : Value) (h : Hp) (R : Value → Hp → Prop) : F_simulcastlaw35_awake_1 (Sys.of Go.Proofs.Try.prog) ids s0 v1 v2 h R = denFn Go.Proofs.Try.prog Go.Proofs.Try.f63 H_simulcastlaw35_awake_1 [s0, v1, v2] h R := by kernel_rfl
theorem C_simulcastlaw35_awake_1 {s0 v1 v2 : Value} {h : Hp} {R : Value → Hp → Prop} (H : F_simulcastlaw35_awake_1 (Sys.of Go.Proofs.Try.prog) ids s0 v1 v2 h R) : (Sys.of Go.Proofs.Try.prog).C ids.f_simulcastlaw35_awake_1 [s0, v1, v2] h R :=
  cl_of_den Go.Proofs.Try.func63 (by kernel_rfl) mixed (E_simulcastlaw35_awake_1 s0 v1 v2 h R) H

def H_deque_undo : HT := (.s .z (.c .z .z))
theorem E_deque_undo (s0 mark1 e2 : Value) (h : Hp) (R : Value → Hp → Prop) : F_deque_undo (Sys.of Go.Proofs.Try.prog) ids s0 mark1 e2 h R = denFn Go.Proofs.Try.prog Go.Proofs.Try.f64 H_deque_undo [s0, mark1, e2] h R := by kernel_rfl
theorem C_deque_undo {s0 mark1 e2 : Value} {h : Hp} {R : Value → Hp → Prop} (H : F_deque_undo (Sys.of Go.Proofs.Try.prog) ids s0 mark1 e2 h R) : (Sys.of Go.Proofs.Try.prog).C ids.f_deque_undo [s0, mark1, e2] h R :=
  cl_of_den Go.Proofs.Try.func64 (by kernel_rfl) mixed (E_deque_undo s0 mark1 e2 h R) H
theorem E0_deque_undo (s0 mark1 e2 : Value) (h : Hp) (R : Hp → Prop) : F_deque_undo (Sys.of Go.Proofs.Try.prog) ids s0 mark1 e2 h (fun _ h => R h) = denFn0 Go.Proofs.Try.prog Go.Proofs.Try.f64 H_deque_undo [s0, mark1, e2] h (fun _ h => R h) := by kernel_rfl
theorem D_deque_undo {s0 mark1 e2 : Value} {h : Hp} {R : Hp → Prop} (H : F_deque_undo (Sys.of Go.Proofs.Try.prog) ids s0 mark1 e2 h (fun _ h => R h)) : (Sys.of Go.Proofs.Try.prog).D ids.f_deque_undo [s0, mark1, e2] h R :=
  spd_of_denFn Go.Proofs.Try.func64 mixed (E0_deque_undo s0 mark1 e2 h R) H

def H_space_Space_Mark : HT := (.s .z (.s (.s .z (.c (.s .z .z) .z)) (.s .z .z)))
theorem E_space_Space_Mark (s0 : Value) (h : Hp) (R : Value → Hp → Prop) : F_space_Space_Mark (Sys.of Go.Proofs.Try.prog) ids s0 h R = denFn Go.Proofs.Try.prog Go.Proofs.Try.f65 H_space_Space_Mark [s0] h R := by kernel_rfl
theorem C_space_Space_Mark {s0 : Value} {h : Hp} {R : Value → Hp → Prop} (H : F_space_Space_Mark (Sys.of Go.Proofs.Try.prog) ids s0 h R) : (Sys.of Go.Proofs.Try.prog).C ids.f_space_Space_Mark [s0] h R :=
  cl_of_den Go.Proofs.Try.func65 (by kernel_rfl) mixed (E_space_Space_Mark s0 h R) H

def H_pool_Pool_Take : HT := (.s .z (.s (.s .z (.s .z (.c (.s .z .z) .z))) (.s (.s .z (.s .z (.c (.s .z (.s (.s .z (.s .z (.c (.s .z .z) .z))) (.s (.o (oc [0, 1, 2, 3, 4, 5, 6] .nil)) (.s .z (.s .z .z))))) .z))) (.s .z (.s (.j [55] [1, 2, 11, 68] .z (.c (.s .z .z) .z)) (.s .z (.s .z .z)))))))
theorem E_pool_Pool_Take (p0 s1 : Value) (h : Hp) (R : Value → Hp → Prop) : F_pool_Pool_Take (Sys.of Go.Proofs.Try.prog) ids p0 s1 h R = denFn Go.Proofs.Try.prog Go.Proofs.Try.f66 H_pool_Pool_Take [p0, s1] h R := by kernel_rfl
theorem C_pool_Pool_Take {p0 s1 : Value} {h : Hp} {R : Value → Hp → Prop} (H : F_pool_Pool_Take (Sys.of Go.Proofs.Try.prog) ids p0 s1 h R) : (Sys.of Go.Proofs.Try.prog).C ids.f_pool_Pool_Take [p0, s1] h R :=
  cl_of_den Go.Proofs.Try.func66 (by kernel_rfl) mixed (E_pool_Pool_Take p0 s1 h R) H

def H_deque_side : HT := (.s .z (.s (.s .z (.c (.s .z .z) .z)) (.s .z .z)))
theorem E_deque_side (right0 : Value) (h : Hp) (R : Value → Hp → Prop) : F_deque_side (Sys.of Go.Proofs.Try.prog) ids right0 h R = denFn Go.Proofs.Try.prog Go.Proofs.Try.f67 H_deque_side [right0] h R := by kernel_rfl
theorem C_deque_side {right0 : Value} {h : Hp} {R : Value → Hp → Prop} (H : F_deque_side (Sys.of Go.Proofs.Try.prog) ids right0 h R) : (Sys.of Go.Proofs.Try.prog).C ids.f_deque_side [right0] h R :=
  cl_of_den Go.Proofs.Try.func67 (by kernel_rfl) mixed (E_deque_side right0 h R) H

def H_deque_is : HT := (.s .z (.s .z (.s .z .z)))
theorem E_deque_is (p0 at1 : Value) (h : Hp) (R : Value → Hp → Prop) : F_deque_is (Sys.of Go.Proofs.Try.prog) ids p0 at1 h R = denFn Go.Proofs.Try.prog Go.Proofs.Try.f68 H_deque_is [p0, at1] h R := by kernel_rfl
theorem C_deque_is {p0 at1 : Value} {h : Hp} {R : Value → Hp → Prop} (H : F_deque_is (Sys.of Go.Proofs.Try.prog) ids p0 at1 h R) : (Sys.of Go.Proofs.Try.prog).C ids.f_deque_is [p0, at1] h R :=
  cl_of_den Go.Proofs.Try.func68 (by kernel_rfl) mixed (E_deque_is p0 at1 h R) H

def H_deque_more : HT := .z
theorem E_deque_more (s0 at1 n2 : Value) (h : Hp) (R : Value → Hp → Prop) : F_deque_more (Sys.of Go.Proofs.Try.prog) ids s0 at1 n2 h R = denFn Go.Proofs.Try.prog Go.Proofs.Try.f69 H_deque_more [s0, at1, n2] h R := by kernel_rfl
theorem C_deque_more {s0 at1 n2 : Value} {h : Hp} {R : Value → Hp → Prop} (H : F_deque_more (Sys.of Go.Proofs.Try.prog) ids s0 at1 n2 h R) : (Sys.of Go.Proofs.Try.prog).C ids.f_deque_more [s0, at1, n2] h R :=
  cl_of_den Go.Proofs.Try.func69 (by kernel_rfl) mixed (E_deque_more s0 at1 n2 h R) H

def H_pool_Pool_Give : HT := (.s .z (.s (.s .z (.s .z (.c (.s .z .z) .z))) (.s .z (.s .z (.s .z (.s .z .z))))))
theorem E_pool_Pool_Give (p0 s1 at2 : Value) (h : Hp) (R : Value → Hp → Prop) : F_pool_Pool_Give (Sys.of Go.Proofs.Try.prog) ids p0 s1 at2 h R = denFn Go.Proofs.Try.prog Go.Proofs.Try.f70 H_pool_Pool_Give [p0, s1, at2] h R := by kernel_rfl
theorem C_pool_Pool_Give {p0 s1 at2 : Value} {h : Hp} {R : Value → Hp → Prop} (H : F_pool_Pool_Give (Sys.of Go.Proofs.Try.prog) ids p0 s1 at2 h R) : (Sys.of Go.Proofs.Try.prog).C ids.f_pool_Pool_Give [p0, s1, at2] h R :=
  cl_of_den Go.Proofs.Try.func70 (by kernel_rfl) mixed (E_pool_Pool_Give p0 s1 at2 h R) H

def H_pool_Pool_Check : HT := (.s .z (.s (.b (.j [3] [1, 58] .z (.c (.s .z .z) (.j [22] [1, 58] .z (.c (.s .z .z) (.j [35] [58] .z (.c (.s .z .z) .z))))))) (.s .z .z)))
theorem E_pool_Pool_Check (p0 : Value) (h : Hp) (R : Value → Hp → Prop) : F_pool_Pool_Check (Sys.of Go.Proofs.Try.prog) ids p0 h R = denFn Go.Proofs.Try.prog Go.Proofs.Try.f71 H_pool_Pool_Check [p0] h R := by kernel_rfl
theorem C_pool_Pool_Check {p0 : Value} {h : Hp} {R : Value → Hp → Prop} (H : F_pool_Pool_Check (Sys.of Go.Proofs.Try.prog) ids p0 h R) : (Sys.of Go.Proofs.Try.prog).C ids.f_pool_Pool_Check [p0] h R :=
  cl_of_den Go.Proofs.Try.func71 (by kernel_rfl) mixed (E_pool_Pool_Check p0 h R) H

def H_slices_Clone_api_Word_api_Word : HT := (.s .z (.s (.s .z (.c (.s .z .z) .z)) (.s .z .z)))
theorem E_slices_Clone_api_Word_api_Word (s0 : Value) (h : Hp) (R : Value → Hp → Prop) : F_slices_Clone_api_Word_api_Word (Sys.of Go.Proofs.Try.prog) ids s0 h R = denFn Go.Proofs.Try.prog Go.Proofs.Try.f72 H_slices_Clone_api_Word_api_Word [s0] h R := by kernel_rfl
theorem C_slices_Clone_api_Word_api_Word {s0 : Value} {h : Hp} {R : Value → Hp → Prop} (H : F_slices_Clone_api_Word_api_Word (Sys.of Go.Proofs.Try.prog) ids s0 h R) : (Sys.of Go.Proofs.Try.prog).C ids.f_slices_Clone_api_Word_api_Word [s0] h R :=
  cl_of_den Go.Proofs.Try.func72 (by kernel_rfl) mixed (E_slices_Clone_api_Word_api_Word s0 h R) H

def H_space_Space_reads : HT := (.s .z (.s (.s .z (.c (.s .z .z) .z)) (.s (.s .z (.s .z (.c (.s .z (.s .z .z)) .z))) (.s .z (.s .z .z)))))
theorem E_space_Space_reads (s0 at1 : Value) (h : Hp) (R : Value → Hp → Prop) : F_space_Space_reads (Sys.of Go.Proofs.Try.prog) ids s0 at1 h R = denFn Go.Proofs.Try.prog Go.Proofs.Try.f73 H_space_Space_reads [s0, at1] h R := by kernel_rfl
theorem C_space_Space_reads {s0 at1 : Value} {h : Hp} {R : Value → Hp → Prop} (H : F_space_Space_reads (Sys.of Go.Proofs.Try.prog) ids s0 at1 h R) : (Sys.of Go.Proofs.Try.prog).C ids.f_space_Space_reads [s0, at1] h R :=
  cl_of_den Go.Proofs.Try.func73 (by kernel_rfl) mixed (E_space_Space_reads s0 at1 h R) H

def H_space_Space_value : HT := (.s .z (.s (.s .z (.s .z (.c (.s .z .z) .z))) (.s .z .z)))
theorem E_space_Space_value (s0 at1 : Value) (h : Hp) (R : Value → Hp → Prop) : F_space_Space_value (Sys.of Go.Proofs.Try.prog) ids s0 at1 h R = denFn Go.Proofs.Try.prog Go.Proofs.Try.f74 H_space_Space_value [s0, at1] h R := by kernel_rfl
theorem C_space_Space_value {s0 at1 : Value} {h : Hp} {R : Value → Hp → Prop} (H : F_space_Space_value (Sys.of Go.Proofs.Try.prog) ids s0 at1 h R) : (Sys.of Go.Proofs.Try.prog).C ids.f_space_Space_value [s0, at1] h R :=
  cl_of_den Go.Proofs.Try.func74 (by kernel_rfl) mixed (E_space_Space_value s0 at1 h R) H

def H_entry_Check : HT := (.s .z (.s (.b (.s .z (.c (.s .z .z) (.s .z (.c (.s .z .z) .z))))) (.s (.s .z (.b (.l [16] [0, 14, 15, 32] (.s .z (.s (.c .z .z) (.s (.b (.s .z (.s (.s .z (.s .z (.c (.s .z .z) .z))) (.s .z (.c (.s .z .z) .z))))) .z)))))) (.s .z .z))))
theorem E_entry_Check (l0 : Value) (h : Hp) (R : Value → Hp → Prop) : F_entry_Check (Sys.of Go.Proofs.Try.prog) ids l0 h R = denFn Go.Proofs.Try.prog Go.Proofs.Try.f75 H_entry_Check [l0] h R := by kernel_rfl
theorem C_entry_Check {l0 : Value} {h : Hp} {R : Value → Hp → Prop} (H : F_entry_Check (Sys.of Go.Proofs.Try.prog) ids l0 h R) : (Sys.of Go.Proofs.Try.prog).C ids.f_entry_Check [l0] h R :=
  cl_of_den Go.Proofs.Try.func75 (by kernel_rfl) mixed (E_entry_Check l0 h R) H

def H_model_Model_Holds : HT := (.s .z (.s (.s .z (.b (.l [11] [2, 9, 10, 33] (.s .z (.s (.c .z .z) (.s (.b (.s .z (.s .z (.s .z (.j [31] [2, 9, 10, 11, 33] .z (.c (.s .z .z) .z)))))) .z)))))) (.s .z .z)))
theorem E_model_Model_Holds (m0 l1 : Value) (h : Hp) (R : Value → Hp → Prop) : F_model_Model_Holds (Sys.of Go.Proofs.Try.prog) ids m0 l1 h R = denFn Go.Proofs.Try.prog Go.Proofs.Try.f76 H_model_Model_Holds [m0, l1] h R := by kernel_rfl
theorem C_model_Model_Holds {m0 l1 : Value} {h : Hp} {R : Value → Hp → Prop} (H : F_model_Model_Holds (Sys.of Go.Proofs.Try.prog) ids m0 l1 h R) : (Sys.of Go.Proofs.Try.prog).C ids.f_model_Model_Holds [m0, l1] h R :=
  cl_of_den Go.Proofs.Try.func76 (by kernel_rfl) mixed (E_model_Model_Holds m0 l1 h R) H

def H_slices_pdqsortOrdered_api_Loc : HT := (.s .z (.s .z (.b (.l [1, 2, 3, 8, 9] [0, 134] (.b (.s .z (.s (.s .z (.c (.s .z .z) .z)) (.s (.s .z (.c (.s .z .z) .z)) (.j [3] [0, 1, 2, 8, 9, 10, 134] (.s .z (.c (.s .z .z) .z)) (.s .z (.j [11, 12] [0, 1, 2, 3, 8, 9, 10, 134] (.s .z (.c (.s .z (.s .z .z)) .z)) (.j [] [0, 1, 2, 3, 8, 9, 10, 11, 134] (.j [68] [0, 1, 2, 3, 8, 9, 10, 11, 134] .z (.c (.s .z (.c .z .z)) .z)) (.s (.j [87] [0, 1, 2, 3, 8, 9, 10, 11, 134] (.o (oc [0, 1, 2, 3, 4, 5, 6, 7, 8, 9, 10, 11, 12, 13, 14] .nil)) (.c (.s .z (.s .z .z)) .z)) (.s .z (.s .z (.s .z (.s .z (.s .z (.c (.s .z (.s .z .z)) (.s .z (.s .z .z)))))))))))))))))))))
theorem E_slices_pdqsortOrdered_api_Loc (data0 a1 b2 limit3 : Value) (h : Hp) (R : Value → Hp → Prop) : F_slices_pdqsortOrdered_api_Loc (Sys.of Go.Proofs.Try.prog) ids data0 a1 b2 limit3 h R = denFn Go.Proofs.Try.prog Go.Proofs.Try.f77 H_slices_pdqsortOrdered_api_Loc [data0, a1, b2, limit3] h R := by kernel_rfl
theorem C_slices_pdqsortOrdered_api_Loc {data0 a1 b2 limit3 : Value} {h : Hp} {R : Value → Hp → Prop} (H : F_slices_pdqsortOrdered_api_Loc (Sys.of Go.Proofs.Try.prog) ids data0 a1 b2 limit3 h R) : (Sys.of Go.Proofs.Try.prog).C ids.f_slices_pdqsortOrdered_api_Loc [data0, a1, b2, limit3] h R :=
  cl_of_den Go.Proofs.Try.func77 (by kernel_rfl) mixed (E_slices_pdqsortOrdered_api_Loc data0 a1 b2 limit3 h R) H

def H_math_bits_Len : HT := (.s .z (.s (.c (.s .z .z) .z) (.s .z .z)))
theorem E_math_bits_Len (x0 : Value) (h : Hp) (R : Value → Hp → Prop) : F_math_bits_Len (Sys.of Go.Proofs.Try.prog) ids x0 h R = denFn Go.Proofs.Try.prog Go.Proofs.Try.f78 H_math_bits_Len [x0] h R := by kernel_rfl
theorem C_math_bits_Len {x0 : Value} {h : Hp} {R : Value → Hp → Prop} (H : F_math_bits_Len (Sys.of Go.Proofs.Try.prog) ids x0 h R) : (Sys.of Go.Proofs.Try.prog).C ids.f_math_bits_Len [x0] h R :=
  cl_of_den Go.Proofs.Try.func78 (by kernel_rfl) mixed (E_math_bits_Len x0 h R) H

def H_space_Space_Back : HT := (.j [19] [0, 1, 30] .z (.c .z .z))
theorem E_space_Space_Back (s0 mark1 : Value) (h : Hp) (R : Value → Hp → Prop) : F_space_Space_Back (Sys.of Go.Proofs.Try.prog) ids s0 mark1 h R = denFn Go.Proofs.Try.prog Go.Proofs.Try.f79 H_space_Space_Back [s0, mark1] h R := by kernel_rfl
theorem C_space_Space_Back {s0 mark1 : Value} {h : Hp} {R : Value → Hp → Prop} (H : F_space_Space_Back (Sys.of Go.Proofs.Try.prog) ids s0 mark1 h R) : (Sys.of Go.Proofs.Try.prog).C ids.f_space_Space_Back [s0, mark1] h R :=
  cl_of_den Go.Proofs.Try.func79 (by kernel_rfl) mixed (E_space_Space_Back s0 mark1 h R) H

def H_pool_Pool_Node : HT := (.s .z (.s (.j [23] [1, 2, 34] .z (.c (.s .z .z) .z)) (.s .z (.s (.s .z (.c (.s .z .z) .z)) (.s .z .z)))))
theorem E_pool_Pool_Node (p0 at1 : Value) (h : Hp) (R : Value → Hp → Prop) : F_pool_Pool_Node (Sys.of Go.Proofs.Try.prog) ids p0 at1 h R = denFn Go.Proofs.Try.prog Go.Proofs.Try.f80 H_pool_Pool_Node [p0, at1] h R := by kernel_rfl
theorem C_pool_Pool_Node {p0 at1 : Value} {h : Hp} {R : Value → Hp → Prop} (H : F_pool_Pool_Node (Sys.of Go.Proofs.Try.prog) ids p0 at1 h R) : (Sys.of Go.Proofs.Try.prog).C ids.f_pool_Pool_Node [p0, at1] h R :=
  cl_of_den Go.Proofs.Try.func80 (by kernel_rfl) mixed (E_pool_Pool_Node p0 at1 h R) H

def H_pool_Pool_add : HT := (.s .z (.o (oc [0, 1, 2, 3, 4, 5, 6, 7, 8, 9, 11, 10, 12, 13] .nil)))
theorem E_pool_Pool_add (p0 s1 count2 n3 : Value) (h : Hp) (R : Value → Hp → Prop) : F_pool_Pool_add (Sys.of Go.Proofs.Try.prog) ids p0 s1 count2 n3 h R = denFn Go.Proofs.Try.prog Go.Proofs.Try.f81 H_pool_Pool_add [p0, s1, count2, n3] h R := by kernel_rfl
theorem C_pool_Pool_add {p0 s1 count2 n3 : Value} {h : Hp} {R : Value → Hp → Prop} (H : F_pool_Pool_add (Sys.of Go.Proofs.Try.prog) ids p0 s1 count2 n3 h R) : (Sys.of Go.Proofs.Try.prog).C ids.f_pool_Pool_add [p0, s1, count2, n3] h R :=
  cl_of_den Go.Proofs.Try.func81 (by kernel_rfl) mixed (E_pool_Pool_add p0 s1 count2 n3 h R) H

def H_space_Space_last : HT := (.s .z (.s (.s .z (.b (.l [5] [0, 1, 27] (.s (.s .z (.c .z .z)) (.s (.b (.s .z (.c (.s .z .z) .z))) .z))))) (.s .z .z)))
theorem E_space_Space_last (s0 at1 : Value) (h : Hp) (R : Value → Hp → Prop) : F_space_Space_last (Sys.of Go.Proofs.Try.prog) ids s0 at1 h R = denFn Go.Proofs.Try.prog Go.Proofs.Try.f82 H_space_Space_last [s0, at1] h R := by kernel_rfl
theorem C_space_Space_last {s0 at1 : Value} {h : Hp} {R : Value → Hp → Prop} (H : F_space_Space_last (Sys.of Go.Proofs.Try.prog) ids s0 at1 h R) : (Sys.of Go.Proofs.Try.prog).C ids.f_space_Space_last [s0, at1] h R :=
  cl_of_den Go.Proofs.Try.func82 (by kernel_rfl) mixed (E_space_Space_last s0 at1 h R) H

def H_entry_wrong : HT := (.s .z (.s (.b (.j [3] [1, 38] .z (.c (.s .z .z) (.s .z (.c (.s .z .z) (.j [17] [1, 38] .z (.c (.s .z .z) (.j [26] [38] .z (.c (.s .z .z) .z))))))))) (.s .z .z)))
theorem E_entry_wrong (x0 : Value) (h : Hp) (R : Value → Hp → Prop) : F_entry_wrong (Sys.of Go.Proofs.Try.prog) ids x0 h R = denFn Go.Proofs.Try.prog Go.Proofs.Try.f83 H_entry_wrong [x0] h R := by kernel_rfl
theorem C_entry_wrong {x0 : Value} {h : Hp} {R : Value → Hp → Prop} (H : F_entry_wrong (Sys.of Go.Proofs.Try.prog) ids x0 h R) : (Sys.of Go.Proofs.Try.prog).C ids.f_entry_wrong [x0] h R :=
  cl_of_den Go.Proofs.Try.func83 (by kernel_rfl) mixed (E_entry_wrong x0 h R) H

def H_slices_ContainsFunc_api_Entry_api_Entry : HT := (.s .z (.s .z .z))
theorem E_slices_ContainsFunc_api_Entry_api_Entry (s0 f1 : Value) (h : Hp) (R : Value → Hp → Prop) : F_slices_ContainsFunc_api_Entry_api_Entry (Sys.of Go.Proofs.Try.prog) ids s0 f1 h R = denFn Go.Proofs.Try.prog Go.Proofs.Try.f84 H_slices_ContainsFunc_api_Entry_api_Entry [s0, f1] h R := by kernel_rfl
theorem C_slices_ContainsFunc_api_Entry_api_Entry {s0 f1 : Value} {h : Hp} {R : Value → Hp → Prop} (H : F_slices_ContainsFunc_api_Entry_api_Entry (Sys.of Go.Proofs.Try.prog) ids s0 f1 h R) : (Sys.of Go.Proofs.Try.prog).C ids.f_slices_ContainsFunc_api_Entry_api_Entry [s0, f1] h R :=
  cl_of_den Go.Proofs.Try.func84 (by kernel_rfl) mixed (E_slices_ContainsFunc_api_Entry_api_Entry s0 f1 h R) H

def H_entry_Check_1 : HT := (.s .z (.s .z .z))
theorem E_entry_Check_1 (y0 v1 : Value) (h : Hp) (R : Value → Hp → Prop) : F_entry_Check_1 (Sys.of Go.Proofs.Try.prog) ids y0 v1 h R = denFn Go.Proofs.Try.prog Go.Proofs.Try.f85 H_entry_Check_1 [y0, v1] h R := by kernel_rfl
theorem C_entry_Check_1 {y0 v1 : Value} {h : Hp} {R : Value → Hp → Prop} (H : F_entry_Check_1 (Sys.of Go.Proofs.Try.prog) ids y0 v1 h R) : (Sys.of Go.Proofs.Try.prog).C ids.f_entry_Check_1 [y0, v1] h R :=
  cl_of_den Go.Proofs.Try.func85 (by kernel_rfl) mixed (E_entry_Check_1 y0 v1 h R) H

def H_slices_insertionSortOrdered_api_Loc : HT := (.s .z (.b (.l [6] [0, 1, 2, 49] (.s (.s .z (.c .z .z)) (.s (.b (.s .z (.b (.l [7] [0, 1, 2, 6, 49] (.s (.j [30] [0, 1, 2, 6, 7, 49] (.o (oc [0, 1, 2, 3, 4, 5, 6, 7, 8, 9, 10, 11, 12, 13, 14] .nil)) (.c .z .z)) (.s (.b (.o (oc [0, 1, 2, 3, 4, 5, 6, 7, 8, 9, 10, 11, 12, 13, 14, 15, 16, 17] .nil))) .z)))))) .z)))))
theorem E_slices_insertionSortOrdered_api_Loc (data0 a1 b2 : Value) (h : Hp) (R : Value → Hp → Prop) : F_slices_insertionSortOrdered_api_Loc (Sys.of Go.Proofs.Try.prog) ids data0 a1 b2 h R = denFn Go.Proofs.Try.prog Go.Proofs.Try.f86 H_slices_insertionSortOrdered_api_Loc [data0, a1, b2] h R := by kernel_rfl
theorem C_slices_insertionSortOrdered_api_Loc {data0 a1 b2 : Value} {h : Hp} {R : Value → Hp → Prop} (H : F_slices_insertionSortOrdered_api_Loc (Sys.of Go.Proofs.Try.prog) ids data0 a1 b2 h R) : (Sys.of Go.Proofs.Try.prog).C ids.f_slices_insertionSortOrdered_api_Loc [data0, a1, b2] h R :=
  cl_of_den Go.Proofs.Try.func86 (by kernel_rfl) mixed (E_slices_insertionSortOrdered_api_Loc data0 a1 b2 h R) H

def H_slices_heapSortOrdered_api_Loc : HT := (.s .z (.s .z (.s .z (.s (.s .z (.b (.l [9] [0, 6, 7, 8, 56] (.s (.s .z (.c .z .z)) (.s (.b .z) .z))))) (.s .z (.b (.l [10] [0, 6, 7, 56] (.s (.s .z (.c .z .z)) (.s (.b (.s (.o (oc [0, 1, 2, 3, 4, 5, 6, 7, 8, 9, 10, 11, 12, 13, 14, 15, 16, 17, 18, 19] .nil)) .z)) .z)))))))))
theorem E_slices_heapSortOrdered_api_Loc (data0 a1 b2 : Value) (h : Hp) (R : Value → Hp → Prop) : F_slices_heapSortOrdered_api_Loc (Sys.of Go.Proofs.Try.prog) ids data0 a1 b2 h R = denFn Go.Proofs.Try.prog Go.Proofs.Try.f87 H_slices_heapSortOrdered_api_Loc [data0, a1, b2] h R := by kernel_rfl
theorem C_slices_heapSortOrdered_api_Loc {data0 a1 b2 : Value} {h : Hp} {R : Value → Hp → Prop} (H : F_slices_heapSortOrdered_api_Loc (Sys.of Go.Proofs.Try.prog) ids data0 a1 b2 h R) : (Sys.of Go.Proofs.Try.prog).C ids.f_slices_heapSortOrdered_api_Loc [data0, a1, b2] h R :=
  cl_of_den Go.Proofs.Try.func87 (by kernel_rfl) mixed (E_slices_heapSortOrdered_api_Loc data0 a1 b2 h R) H

def H_slices_breakPatternsOrdered_api_Loc : HT := (.s .z (.s .z (.c (.s .z (.s .z (.s .z (.b (.l [9] [0, 1, 6, 7, 8, 65] (.s (.s .z (.c .z .z)) (.s (.b (.s .z (.j [10] [0, 1, 6, 7, 8, 9, 65] (.s .z (.c .z .z)) (.o (oc [0, 1, 2, 3, 4, 5, 6, 7, 8, 9, 10, 11, 12, 13, 14, 15, 16, 17, 18, 19] .nil))))) .z))))))) .z)))
theorem E_slices_breakPatternsOrdered_api_Loc (data0 a1 b2 : Value) (h : Hp) (R : Value → Hp → Prop) : F_slices_breakPatternsOrdered_api_Loc (Sys.of Go.Proofs.Try.prog) ids data0 a1 b2 h R = denFn Go.Proofs.Try.prog Go.Proofs.Try.f88 H_slices_breakPatternsOrdered_api_Loc [data0, a1, b2] h R := by kernel_rfl
theorem C_slices_breakPatternsOrdered_api_Loc {data0 a1 b2 : Value} {h : Hp} {R : Value → Hp → Prop} (H : F_slices_breakPatternsOrdered_api_Loc (Sys.of Go.Proofs.Try.prog) ids data0 a1 b2 h R) : (Sys.of Go.Proofs.Try.prog).C ids.f_slices_breakPatternsOrdered_api_Loc [data0, a1, b2] h R :=
  cl_of_den Go.Proofs.Try.func88 (by kernel_rfl) mixed (E_slices_breakPatternsOrdered_api_Loc data0 a1 b2 h R) H

def H_slices_choosePivotOrdered_api_Loc : HT := (.s .z (.s .z (.s .z (.s .z (.s .z (.s .z (.j [11] [9, 57] (.s .z (.c (.j [10, 11, 12] [0, 9, 57] (.s .z (.c (.s .z (.s .z .z)) .z)) .z) .z)) (.s .z (.b (.s .z (.c (.s .z .z) (.s .z (.c (.s .z .z) (.s .z .z))))))))))))))
theorem E_slices_choosePivotOrdered_api_Loc (data0 a1 b2 : Value) (h : Hp) (R : Value → Hp → Prop) : F_slices_choosePivotOrdered_api_Loc (Sys.of Go.Proofs.Try.prog) ids data0 a1 b2 h R = denFn Go.Proofs.Try.prog Go.Proofs.Try.f89 H_slices_choosePivotOrdered_api_Loc [data0, a1, b2] h R := by kernel_rfl
theorem C_slices_choosePivotOrdered_api_Loc {data0 a1 b2 : Value} {h : Hp} {R : Value → Hp → Prop} (H : F_slices_choosePivotOrdered_api_Loc (Sys.of Go.Proofs.Try.prog) ids data0 a1 b2 h R) : (Sys.of Go.Proofs.Try.prog).C ids.f_slices_choosePivotOrdered_api_Loc [data0, a1, b2] h R :=
  cl_of_den Go.Proofs.Try.func89 (by kernel_rfl) mixed (E_slices_choosePivotOrdered_api_Loc data0 a1 b2 h R) H

def H_slices_reverseRangeOrdered_api_Loc : HT := (.s .z (.s .z (.b (.l [6, 7] [0, 32] (.s (.s .z (.c .z .z)) (.b (.s (.o (oc [0, 1, 2, 3, 4, 5, 6, 7, 8, 9, 10, 11, 12, 13, 14, 15] .nil)) (.s .z .z))))))))
theorem E_slices_reverseRangeOrdered_api_Loc (data0 a1 b2 : Value) (h : Hp) (R : Value → Hp → Prop) : F_slices_reverseRangeOrdered_api_Loc (Sys.of Go.Proofs.Try.prog) ids data0 a1 b2 h R = denFn Go.Proofs.Try.prog Go.Proofs.Try.f90 H_slices_reverseRangeOrdered_api_Loc [data0, a1, b2] h R := by kernel_rfl
theorem C_slices_reverseRangeOrdered_api_Loc {data0 a1 b2 : Value} {h : Hp} {R : Value → Hp → Prop} (H : F_slices_reverseRangeOrdered_api_Loc (Sys.of Go.Proofs.Try.prog) ids data0 a1 b2 h R) : (Sys.of Go.Proofs.Try.prog).C ids.f_slices_reverseRangeOrdered_api_Loc [data0, a1, b2] h R :=
  cl_of_den Go.Proofs.Try.func90 (by kernel_rfl) mixed (E_slices_reverseRangeOrdered_api_Loc data0 a1 b2 h R) H

def H_slices_partialInsertionSortOrdered_api_Loc : HT := (.s .z (.s .z (.s (.s .z (.b (.l [7, 8] [0, 1, 2, 133] (.s (.s .z (.c .z .z)) (.j [7] [0, 1, 2, 8, 133] (.b (.s (.b (.l [7] [0, 1, 2, 8, 133] (.s (.j [32] [0, 1, 2, 7, 8, 133] (.o (oc [0, 1, 2, 3, 4, 5, 6, 7, 8, 9, 10, 11, 12, 13, 14, 15] .nil)) (.c .z .z)) (.b .z)))) (.s (.s .z (.c (.s .z .z) .z)) (.s (.s .z (.c (.s .z .z) .z)) (.s (.o (oc [0, 1, 2, 3, 4, 5, 6, 7, 8, 9, 10, 11, 12, 13, 14, 15, 16, 17] .nil)) (.j [] [0, 1, 2, 7, 8, 133] (.s .z (.c (.s .z (.b (.l [9] [0, 1, 2, 7, 8, 133] (.s (.s .z (.c .z .z)) (.s (.b (.s (.s (.o (oc [0, 1, 2, 3, 4, 5, 6, 7, 8, 9, 10] .nil)) (.c .z .z)) (.o (oc [0, 1, 2, 3, 4, 5, 6, 7, 8, 9, 10, 11, 12, 13, 14, 15, 16, 17] .nil)))) .z))))) .z)) (.s .z (.c (.s .z (.b (.l [10] [0, 1, 2, 7, 8, 133] (.s (.s .z (.c .z .z)) (.s (.b (.s (.s (.o (oc [0, 1, 2, 3, 4, 5, 6, 7, 8, 9, 10] .nil)) (.c .z .z)) (.o (oc [0, 1, 2, 3, 4, 5, 6, 7, 8, 9, 10, 11, 12, 13, 14, 15, 16, 17] .nil)))) .z))))) .z)))))))) .z))))) (.s .z .z))))
theorem E_slices_partialInsertionSortOrdered_api_Loc (data0 a1 b2 : Value) (h : Hp) (R : Value → Hp → Prop) : F_slices_partialInsertionSortOrdered_api_Loc (Sys.of Go.Proofs.Try.prog) ids data0 a1 b2 h R = denFn Go.Proofs.Try.prog Go.Proofs.Try.f91 H_slices_partialInsertionSortOrdered_api_Loc [data0, a1, b2] h R := by kernel_rfl
theorem C_slices_partialInsertionSortOrdered_api_Loc {data0 a1 b2 : Value} {h : Hp} {R : Value → Hp → Prop} (H : F_slices_partialInsertionSortOrdered_api_Loc (Sys.of Go.Proofs.Try.prog) ids data0 a1 b2 h R) : (Sys.of Go.Proofs.Try.prog).C ids.f_slices_partialInsertionSortOrdered_api_Loc [data0, a1, b2] h R :=
  cl_of_den Go.Proofs.Try.func91 (by kernel_rfl) mixed (E_slices_partialInsertionSortOrdered_api_Loc data0 a1 b2 h R) H

def H_cmp_Less_api_Loc : HT := (.s .z (.j [4] [17] .z .z))
theorem E_cmp_Less_api_Loc (x0 y1 : Value) (h : Hp) (R : Value → Hp → Prop) : F_cmp_Less_api_Loc (Sys.of Go.Proofs.Try.prog) ids x0 y1 h R = denFn Go.Proofs.Try.prog Go.Proofs.Try.f92 H_cmp_Less_api_Loc [x0, y1] h R := by kernel_rfl
theorem C_cmp_Less_api_Loc {x0 y1 : Value} {h : Hp} {R : Value → Hp → Prop} (H : F_cmp_Less_api_Loc (Sys.of Go.Proofs.Try.prog) ids x0 y1 h R) : (Sys.of Go.Proofs.Try.prog).C ids.f_cmp_Less_api_Loc [x0, y1] h R :=
  cl_of_den Go.Proofs.Try.func92 (by kernel_rfl) mixed (E_cmp_Less_api_Loc x0 y1 h R) H

def H_slices_partitionEqualOrdered_api_Loc : HT := (.s .z (.s (.o (oc [0, 1, 2, 3, 4, 5, 6, 7, 8, 9, 10, 11, 12, 13, 14, 15] .nil)) (.s .z (.s (.b (.l [9, 10] [0, 1, 84] (.b (.s (.b (.l [9] [0, 1, 10, 84] (.s (.j [43] [0, 1, 9, 10, 84] (.o (oc [0, 1, 2, 3, 4, 5, 6, 7, 8, 9, 10, 11, 12, 13, 14] .nil)) (.c .z .z)) (.b .z)))) (.s (.b (.l [10] [0, 1, 9, 84] (.s (.j [59] [0, 1, 9, 10, 84] (.o (oc [0, 1, 2, 3, 4, 5, 6, 7, 8, 9, 10, 11, 12, 13] .nil)) (.c .z .z)) (.b .z)))) (.s (.s .z (.c .z .z)) (.s (.o (oc [0, 1, 2, 3, 4, 5, 6, 7, 8, 9, 10, 11, 12, 13, 14, 15] .nil)) (.s .z .z)))))))) (.s .z .z)))))
theorem E_slices_partitionEqualOrdered_api_Loc (data0 a1 b2 pivot3 : Value) (h : Hp) (R : Value → Hp → Prop) : F_slices_partitionEqualOrdered_api_Loc (Sys.of Go.Proofs.Try.prog) ids data0 a1 b2 pivot3 h R = denFn Go.Proofs.Try.prog Go.Proofs.Try.f93 H_slices_partitionEqualOrdered_api_Loc [data0, a1, b2, pivot3] h R := by kernel_rfl
theorem C_slices_partitionEqualOrdered_api_Loc {data0 a1 b2 pivot3 : Value} {h : Hp} {R : Value → Hp → Prop} (H : F_slices_partitionEqualOrdered_api_Loc (Sys.of Go.Proofs.Try.prog) ids data0 a1 b2 pivot3 h R) : (Sys.of Go.Proofs.Try.prog).C ids.f_slices_partitionEqualOrdered_api_Loc [data0, a1, b2, pivot3] h R :=
  cl_of_den Go.Proofs.Try.func93 (by kernel_rfl) mixed (E_slices_partitionEqualOrdered_api_Loc data0 a1 b2 pivot3 h R) H

def H_slices_partitionOrdered_api_Loc : HT := (.s .z (.s (.o (oc [0, 1, 2, 3, 4, 5, 6, 7, 8, 9, 10, 11, 12, 13, 14, 15] .nil)) (.s .z (.s (.b (.l [10] [0, 1, 11, 168] (.s (.j [43] [0, 1, 10, 11, 168] (.o (oc [0, 1, 2, 3, 4, 5, 6, 7, 8, 9, 10, 11, 12, 13] .nil)) (.c .z .z)) (.b .z)))) (.s (.b (.l [11] [0, 1, 10, 168] (.s (.j [60] [0, 1, 10, 11, 168] (.o (oc [0, 1, 2, 3, 4, 5, 6, 7, 8, 9, 10, 11, 12, 13, 14] .nil)) (.c .z .z)) (.b .z)))) (.s (.s .z (.c (.s (.o (oc [0, 1, 2, 3, 4, 5, 6, 7, 8, 9, 10, 11, 12, 13, 14, 15] .nil)) (.s .z .z)) .z)) (.s (.o (oc [0, 1, 2, 3, 4, 5, 6, 7, 8, 9, 10, 11, 12, 13, 14, 15] .nil)) (.s .z (.s .z (.s (.b (.l [10, 11] [0, 1, 168] (.b (.s (.b (.l [10] [0, 1, 11, 168] (.s (.j [112] [0, 1, 10, 11, 168] (.o (oc [0, 1, 2, 3, 4, 5, 6, 7, 8, 9, 10, 11, 12, 13] .nil)) (.c .z .z)) (.b .z)))) (.s (.b (.l [11] [0, 1, 10, 168] (.s (.j [129] [0, 1, 10, 11, 168] (.o (oc [0, 1, 2, 3, 4, 5, 6, 7, 8, 9, 10, 11, 12, 13, 14] .nil)) (.c .z .z)) (.b .z)))) (.s (.s .z (.c .z .z)) (.s (.o (oc [0, 1, 2, 3, 4, 5, 6, 7, 8, 9, 10, 11, 12, 13, 14, 15] .nil)) (.s .z .z)))))))) (.s (.o (oc [0, 1, 2, 3, 4, 5, 6, 7, 8, 9, 10, 11, 12, 13, 14, 15] .nil)) (.s .z .z))))))))))))
theorem E_slices_partitionOrdered_api_Loc (data0 a1 b2 pivot3 : Value) (h : Hp) (R : Value → Hp → Prop) : F_slices_partitionOrdered_api_Loc (Sys.of Go.Proofs.Try.prog) ids data0 a1 b2 pivot3 h R = denFn Go.Proofs.Try.prog Go.Proofs.Try.f94 H_slices_partitionOrdered_api_Loc [data0, a1, b2, pivot3] h R := by kernel_rfl
theorem C_slices_partitionOrdered_api_Loc {data0 a1 b2 pivot3 : Value} {h : Hp} {R : Value → Hp → Prop} (H : F_slices_partitionOrdered_api_Loc (Sys.of Go.Proofs.Try.prog) ids data0 a1 b2 pivot3 h R) : (Sys.of Go.Proofs.Try.prog).C ids.f_slices_partitionOrdered_api_Loc [data0, a1, b2, pivot3] h R :=
  cl_of_den Go.Proofs.Try.func94 (by kernel_rfl) mixed (E_slices_partitionOrdered_api_Loc data0 a1 b2 pivot3 h R) H

def H_math_bits_Len32 : HT := (.s .z (.j [0, 2] [19] (.s .z (.c (.s .z .z) .z)) (.j [0, 2] [19] (.s .z (.c (.s .z .z) .z)) (.s .z .z))))
theorem E_math_bits_Len32 (x0 : Value) (h : Hp) (R : Value → Hp → Prop) : F_math_bits_Len32 (Sys.of Go.Proofs.Try.prog) ids x0 h R = denFn Go.Proofs.Try.prog Go.Proofs.Try.f95 H_math_bits_Len32 [x0] h R := by kernel_rfl
theorem C_math_bits_Len32 {x0 : Value} {h : Hp} {R : Value → Hp → Prop} (H : F_math_bits_Len32 (Sys.of Go.Proofs.Try.prog) ids x0 h R) : (Sys.of Go.Proofs.Try.prog).C ids.f_math_bits_Len32 [x0] h R :=
  cl_of_den Go.Proofs.Try.func95 (by kernel_rfl) mixed (E_math_bits_Len32 x0 h R) H

def H_math_bits_Len64 : HT := (.s .z (.j [0, 2] [25] (.s .z (.c (.s .z .z) .z)) (.j [0, 2] [25] (.s .z (.c (.s .z .z) .z)) (.j [0, 2] [25] (.s .z (.c (.s .z .z) .z)) (.s .z .z)))))
theorem E_math_bits_Len64 (x0 : Value) (h : Hp) (R : Value → Hp → Prop) : F_math_bits_Len64 (Sys.of Go.Proofs.Try.prog) ids x0 h R = denFn Go.Proofs.Try.prog Go.Proofs.Try.f96 H_math_bits_Len64 [x0] h R := by kernel_rfl
theorem C_math_bits_Len64 {x0 : Value} {h : Hp} {R : Value → Hp → Prop} (H : F_math_bits_Len64 (Sys.of Go.Proofs.Try.prog) ids x0 h R) : (Sys.of Go.Proofs.Try.prog).C ids.f_math_bits_Len64 [x0] h R :=
  cl_of_den Go.Proofs.Try.func96 (by kernel_rfl) mixed (E_math_bits_Len64 x0 h R) H

def H_word_Plain : HT := (.s .z (.s .z .z))
theorem E_word_Plain (w0 : Value) (h : Hp) (R : Value → Hp → Prop) : F_word_Plain (Sys.of Go.Proofs.Try.prog) ids w0 h R = denFn Go.Proofs.Try.prog Go.Proofs.Try.f97 H_word_Plain [w0] h R := by kernel_rfl
theorem C_word_Plain {w0 : Value} {h : Hp} {R : Value → Hp → Prop} (H : F_word_Plain (Sys.of Go.Proofs.Try.prog) ids w0 h R) : (Sys.of Go.Proofs.Try.prog).C ids.f_word_Plain [w0] h R :=
  cl_of_den Go.Proofs.Try.func97 (by kernel_rfl) mixed (E_word_Plain w0 h R) H

def H_slices_IndexFunc_api_Entry_api_Entry : HT := (.s .z (.s (.s .z (.b (.l [8] [0, 1, 7, 19] (.s .z (.s (.c .z .z) (.s (.b (.s .z (.s .z (.c (.s .z .z) .z)))) .z)))))) (.s .z .z)))
theorem E_slices_IndexFunc_api_Entry_api_Entry (s0 f1 : Value) (h : Hp) (R : Value → Hp → Prop) : F_slices_IndexFunc_api_Entry_api_Entry (Sys.of Go.Proofs.Try.prog) ids s0 f1 h R = denFn Go.Proofs.Try.prog Go.Proofs.Try.f98 H_slices_IndexFunc_api_Entry_api_Entry [s0, f1] h R := by kernel_rfl
theorem C_slices_IndexFunc_api_Entry_api_Entry {s0 f1 : Value} {h : Hp} {R : Value → Hp → Prop} (H : F_slices_IndexFunc_api_Entry_api_Entry (Sys.of Go.Proofs.Try.prog) ids s0 f1 h R) : (Sys.of Go.Proofs.Try.prog).C ids.f_slices_IndexFunc_api_Entry_api_Entry [s0, f1] h R :=
  cl_of_den Go.Proofs.Try.func98 (by kernel_rfl) mixed (E_slices_IndexFunc_api_Entry_api_Entry s0 f1 h R) H

def H_slices_siftDownOrdered_api_Loc : HT := (.s .z (.b (.l [8] [0, 2, 3, 76] (.b (.s .z (.s (.s .z (.c .z .z)) (.j [9] [0, 2, 3, 8, 76] (.j [36] [0, 2, 3, 8, 9, 76] (.o (oc [0, 1, 2, 3, 4, 5, 6, 7, 8, 9, 10, 11, 12, 13, 14, 15, 16, 17, 18, 19] .nil)) (.c .z .z)) (.s (.s (.o (oc [0, 1, 2, 3, 4, 5, 6, 7, 8, 9, 10, 11, 12, 13] .nil)) (.c .z .z)) (.s (.o (oc [0, 1, 2, 3, 4, 5, 6, 7, 8, 9, 10, 11, 12, 13, 14, 15, 16, 17, 18, 19, 20, 21, 22, 23] .nil)) .z)))))))))
theorem E_slices_siftDownOrdered_api_Loc (data0 lo1 hi2 first3 : Value) (h : Hp) (R : Value → Hp → Prop) : F_slices_siftDownOrdered_api_Loc (Sys.of Go.Proofs.Try.prog) ids data0 lo1 hi2 first3 h R = denFn Go.Proofs.Try.prog Go.Proofs.Try.f99 H_slices_siftDownOrdered_api_Loc [data0, lo1, hi2, first3] h R := by kernel_rfl
theorem C_slices_siftDownOrdered_api_Loc {data0 lo1 hi2 first3 : Value} {h : Hp} {R : Value → Hp → Prop} (H : F_slices_siftDownOrdered_api_Loc (Sys.of Go.Proofs.Try.prog) ids data0 lo1 hi2 first3 h R) : (Sys.of Go.Proofs.Try.prog).C ids.f_slices_siftDownOrdered_api_Loc [data0, lo1, hi2, first3] h R :=
  cl_of_den Go.Proofs.Try.func99 (by kernel_rfl) mixed (E_slices_siftDownOrdered_api_Loc data0 lo1 hi2 first3 h R) H

def H_slices_nextPowerOfTwo : HT := (.s .z (.s .z .z))
theorem E_slices_nextPowerOfTwo (length0 : Value) (h : Hp) (R : Value → Hp → Prop) : F_slices_nextPowerOfTwo (Sys.of Go.Proofs.Try.prog) ids length0 h R = denFn Go.Proofs.Try.prog Go.Proofs.Try.f100 H_slices_nextPowerOfTwo [length0] h R := by kernel_rfl
theorem C_slices_nextPowerOfTwo {length0 : Value} {h : Hp} {R : Value → Hp → Prop} (H : F_slices_nextPowerOfTwo (Sys.of Go.Proofs.Try.prog) ids length0 h R) : (Sys.of Go.Proofs.Try.prog).C ids.f_slices_nextPowerOfTwo [length0] h R :=
  cl_of_den Go.Proofs.Try.func100 (by kernel_rfl) mixed (E_slices_nextPowerOfTwo length0 h R) H

def H_slices_xorshift_Next : HT := (.s .z (.s (.o (oc [0, 1, 2, 3, 4, 5, 6, 7, 8, 9] .nil)) (.s (.o (oc [0, 1, 2, 3, 4, 5, 6, 7, 8, 9] .nil)) (.s (.o (oc [0, 1, 2, 3, 4, 5, 6, 7, 8, 9] .nil)) (.s .z .z)))))
theorem E_slices_xorshift_Next (r0 : Value) (h : Hp) (R : Value → Hp → Prop) : F_slices_xorshift_Next (Sys.of Go.Proofs.Try.prog) ids r0 h R = denFn Go.Proofs.Try.prog Go.Proofs.Try.f101 H_slices_xorshift_Next [r0] h R := by kernel_rfl
theorem C_slices_xorshift_Next {r0 : Value} {h : Hp} {R : Value → Hp → Prop} (H : F_slices_xorshift_Next (Sys.of Go.Proofs.Try.prog) ids r0 h R) : (Sys.of Go.Proofs.Try.prog).C ids.f_slices_xorshift_Next [r0] h R :=
  cl_of_den Go.Proofs.Try.func101 (by kernel_rfl) mixed (E_slices_xorshift_Next r0 h R) H

def H_slices_medianAdjacentOrdered_api_Loc : HT := (.s .z (.s .z .z))
theorem E_slices_medianAdjacentOrdered_api_Loc (data0 a1 swaps2 : Value) (h : Hp) (R : Value → Hp → Prop) : F_slices_medianAdjacentOrdered_api_Loc (Sys.of Go.Proofs.Try.prog) ids data0 a1 swaps2 h R = denFn Go.Proofs.Try.prog Go.Proofs.Try.f102 H_slices_medianAdjacentOrdered_api_Loc [data0, a1, swaps2] h R := by kernel_rfl
theorem C_slices_medianAdjacentOrdered_api_Loc {data0 a1 swaps2 : Value} {h : Hp} {R : Value → Hp → Prop} (H : F_slices_medianAdjacentOrdered_api_Loc (Sys.of Go.Proofs.Try.prog) ids data0 a1 swaps2 h R) : (Sys.of Go.Proofs.Try.prog).C ids.f_slices_medianAdjacentOrdered_api_Loc [data0, a1, swaps2] h R :=
  cl_of_den Go.Proofs.Try.func102 (by kernel_rfl) mixed (E_slices_medianAdjacentOrdered_api_Loc data0 a1 swaps2 h R) H

def H_slices_medianOrdered_api_Loc : HT := (.s .z (.s .z (.s .z (.s .z (.s .z .z)))))
theorem E_slices_medianOrdered_api_Loc (data0 a1 b2 c3 swaps4 : Value) (h : Hp) (R : Value → Hp → Prop) : F_slices_medianOrdered_api_Loc (Sys.of Go.Proofs.Try.prog) ids data0 a1 b2 c3 swaps4 h R = denFn Go.Proofs.Try.prog Go.Proofs.Try.f103 H_slices_medianOrdered_api_Loc [data0, a1, b2, c3, swaps4] h R := by kernel_rfl
theorem C_slices_medianOrdered_api_Loc {data0 a1 b2 c3 swaps4 : Value} {h : Hp} {R : Value → Hp → Prop} (H : F_slices_medianOrdered_api_Loc (Sys.of Go.Proofs.Try.prog) ids data0 a1 b2 c3 swaps4 h R) : (Sys.of Go.Proofs.Try.prog).C ids.f_slices_medianOrdered_api_Loc [data0, a1, b2, c3, swaps4] h R :=
  cl_of_den Go.Proofs.Try.func103 (by kernel_rfl) mixed (E_slices_medianOrdered_api_Loc data0 a1 b2 c3 swaps4 h R) H

def H_cmp_isNaN_api_Loc : HT := (.s .z (.s .z .z))
theorem E_cmp_isNaN_api_Loc (x0 : Value) (h : Hp) (R : Value → Hp → Prop) : F_cmp_isNaN_api_Loc (Sys.of Go.Proofs.Try.prog) ids x0 h R = denFn Go.Proofs.Try.prog Go.Proofs.Try.f104 H_cmp_isNaN_api_Loc [x0] h R := by kernel_rfl
theorem C_cmp_isNaN_api_Loc {x0 : Value} {h : Hp} {R : Value → Hp → Prop} (H : F_cmp_isNaN_api_Loc (Sys.of Go.Proofs.Try.prog) ids x0 h R) : (Sys.of Go.Proofs.Try.prog).C ids.f_cmp_isNaN_api_Loc [x0] h R :=
  cl_of_den Go.Proofs.Try.func104 (by kernel_rfl) mixed (E_cmp_isNaN_api_Loc x0 h R) H

def H_word_kind : HT := (.s .z (.s .z (.s (.b (.s .z (.c (.s .z .z) (.s .z (.c (.s .z .z) .z))))) (.s .z .z))))
theorem E_word_kind (w0 : Value) (h : Hp) (R : Value → Hp → Prop) : F_word_kind (Sys.of Go.Proofs.Try.prog) ids w0 h R = denFn Go.Proofs.Try.prog Go.Proofs.Try.f105 H_word_kind [w0] h R := by kernel_rfl
theorem C_word_kind {w0 : Value} {h : Hp} {R : Value → Hp → Prop} (H : F_word_kind (Sys.of Go.Proofs.Try.prog) ids w0 h R) : (Sys.of Go.Proofs.Try.prog).C ids.f_word_kind [w0] h R :=
  cl_of_den Go.Proofs.Try.func105 (by kernel_rfl) mixed (E_word_kind w0 h R) H

def H_slices_order2Ordered_api_Loc : HT := (.s .z (.s (.s (.o (oc [0, 1, 2, 3, 4, 5, 6, 7, 8] .nil)) (.c (.s .z (.s .z .z)) .z)) (.s .z .z)))
theorem E_slices_order2Ordered_api_Loc (data0 a1 b2 swaps3 : Value) (h : Hp) (R : Value → Hp → Prop) : F_slices_order2Ordered_api_Loc (Sys.of Go.Proofs.Try.prog) ids data0 a1 b2 swaps3 h R = denFn Go.Proofs.Try.prog Go.Proofs.Try.f106 H_slices_order2Ordered_api_Loc [data0, a1, b2, swaps3] h R := by kernel_rfl
theorem C_slices_order2Ordered_api_Loc {data0 a1 b2 swaps3 : Value} {h : Hp} {R : Value → Hp → Prop} (H : F_slices_order2Ordered_api_Loc (Sys.of Go.Proofs.Try.prog) ids data0 a1 b2 swaps3 h R) : (Sys.of Go.Proofs.Try.prog).C ids.f_slices_order2Ordered_api_Loc [data0, a1, b2, swaps3] h R :=
  cl_of_den Go.Proofs.Try.func106 (by kernel_rfl) mixed (E_slices_order2Ordered_api_Loc data0 a1 b2 swaps3 h R) H

def H_word_Who : HT := (.s .z (.s .z (.s (.s .z (.s .z (.c (.s .z .z) .z))) (.s .z .z))))
theorem E_word_Who (ref0 : Value) (h : Hp) (R : Value → Hp → Prop) : F_word_Who (Sys.of Go.Proofs.Try.prog) ids ref0 h R = denFn Go.Proofs.Try.prog Go.Proofs.Try.f107 H_word_Who [ref0] h R := by kernel_rfl
theorem C_word_Who {ref0 : Value} {h : Hp} {R : Value → Hp → Prop} (H : F_word_Who (Sys.of Go.Proofs.Try.prog) ids ref0 h R) : (Sys.of Go.Proofs.Try.prog).C ids.f_word_Who [ref0] h R :=
  cl_of_den Go.Proofs.Try.func107 (by kernel_rfl) mixed (E_word_Who ref0 h R) H

def H_word_Ref : HT := (.s .z (.s (.j [19] [0, 1, 26] .z (.c (.s .z .z) .z)) (.s .z .z)))
theorem E_word_Ref (who0 seq1 : Value) (h : Hp) (R : Value → Hp → Prop) : F_word_Ref (Sys.of Go.Proofs.Try.prog) ids who0 seq1 h R = denFn Go.Proofs.Try.prog Go.Proofs.Try.f108 H_word_Ref [who0, seq1] h R := by kernel_rfl
theorem C_word_Ref {who0 seq1 : Value} {h : Hp} {R : Value → Hp → Prop} (H : F_word_Ref (Sys.of Go.Proofs.Try.prog) ids who0 seq1 h R) : (Sys.of Go.Proofs.Try.prog).C ids.f_word_Ref [who0, seq1] h R :=
  cl_of_den Go.Proofs.Try.func108 (by kernel_rfl) mixed (E_word_Ref who0 seq1 h R) H

end Go.En
