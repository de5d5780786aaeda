/-
  The clean texts are what the engine reads off the program: by the kernel.
-/
import Derived.Test.YtalhmlnmbgpleaaDoorXT
import Derived.Test.YtalhmlnmbgpleaaDoorProg
import Derived.KernelRfl
namespace Go.En
set_option maxRecDepth 100000

/-- the numbers in this translation -/
def ids : Ids := { f_simulcastlaw33_StackPlays := 3, f_simulcastlaw33_StackFew := 4, f_simulcastlaw33_StackBroken := 5, f_simulcastlaw33_StackTurns := 6, f_simulcastlaw33_StackNeeds := 7, f_simulcastlaw33_StackNodes := 8, f_simulcastlaw33_great := 9, f_simulcastlaw33_awake := 10, f_simulcastlaw33_played := 11, f_simulcastlaw33_step := 12, f_simulcastlaw33_Fresh := 13, f_simulcastlaw33_Nodes := 14, f_simulcastlaw33_World_Done := 15, f_simulcastlaw33_StackBroken_1 := 16, f_stack_Push := 17, f_stack_Pop := 18, f_simulcastlaw33_StackBroken_2 := 19, f_stack_Walk := 20, f_simulcastlaw33_Alike := 21, f_pool_Pool_Node := 22, f_slices_Equal_int64_int64 := 23, f_simulcastlaw33_StackTurns_1 := 24, f_pool_Pool_Left := 25, f_simulcastlaw33_StackTurns_2 := 26, f_simulcastlaw33_is := 27, f_simulcastlaw33_StackNeeds_1 := 28, f_space_New := 29, f_space_Space_Entries := 30, f_space_Space_Need := 31, f_slices_Equal_api_Entry_api_Entry := 32, f_pool_Pool_Free := 33, f_simulcastlaw33_StackNodes_1 := 34, f_simulcastlaw33_step_1 := 35, f_simulcastref33_Push := 36, f_simulcastref33_Pop := 37, f_space_Space_Writes := 38, f_space_Space_Get := 39, f_space_Space_Ended := 40, f_stack_undo := 41, f_space_Space_Mark := 42, f_pool_Pool_Take := 43, f_space_Space_Put := 44, f_stack_more := 45, f_pool_Pool_Give := 46, f_pool_Pool_Check := 47, f_simulcastlaw33_is_1 := 48, f_simulcastlaw33_is_2 := 49, f_stack_Top := 50, f_simulcastref33_Walk := 51, f_stack_Len := 52, f_space_Space_Reads := 53, f_space_Space_value := 54, f_entry_Check := 55, f_slices_Sort_api_Loc_api_Loc := 56, f_slices_Compact_api_Loc_api_Loc := 57, f_space_Space_reads := 58, f_space_Space_Back := 59, f_pool_Pool_add := 60, f_space_Space_last := 61, f_entry_wrong := 62, f_slices_ContainsFunc_api_Entry_api_Entry := 63, f_entry_Check_1 := 64, f_slices_pdqsortOrdered_api_Loc := 65, f_math_bits_Len := 66, f_word_Plain := 67, f_slices_IndexFunc_api_Entry_api_Entry := 68, f_slices_insertionSortOrdered_api_Loc := 69, f_slices_heapSortOrdered_api_Loc := 70, f_slices_breakPatternsOrdered_api_Loc := 71, f_slices_choosePivotOrdered_api_Loc := 72, f_slices_reverseRangeOrdered_api_Loc := 73, f_slices_partialInsertionSortOrdered_api_Loc := 74, f_cmp_Less_api_Loc := 75, f_slices_partitionEqualOrdered_api_Loc := 76, f_slices_partitionOrdered_api_Loc := 77, f_math_bits_Len32 := 78, f_math_bits_Len64 := 79, f_word_kind := 80, f_slices_siftDownOrdered_api_Loc := 81, f_slices_nextPowerOfTwo := 82, f_slices_xorshift_Next := 83, f_slices_medianAdjacentOrdered_api_Loc := 84, f_slices_medianOrdered_api_Loc := 85, f_cmp_isNaN_api_Loc := 86, f_word_Who := 87, f_slices_order2Ordered_api_Loc := 88, f_word_Ref := 89, t_int64 := 2, t_int := 3, t_bool := 4, t_api_Loc := 27, t_pool_Pool := 29, t_s_int64 := 30, t_simulcastlaw33_state := 33, t_simulcastlaw33_Call := 38, t_api_Word := 46, t_api_Errno := 49, t_api_Entry := 75, t_space_Space := 103, t_space_put := 108, t_slices_xorshift := 134 }
theorem mixed : Go.Proofs.Tryd.prog.follows .mixedOrders = true := by kernel_rfl

def H_simulcastlaw33_StackPlays : HT := (.s .z (.s (.s .z (.c (.s .z .z) .z)) (.s .z (.j [4] [20] .z .z))))
theorem E_simulcastlaw33_StackPlays (n0 l1 : Value) (h : Hp) (R : Value → Hp → Prop) : F_simulcastlaw33_StackPlays (Sys.of Go.Proofs.Tryd.prog) ids n0 l1 h R = denFn Go.Proofs.Tryd.prog Go.Proofs.Tryd.f3 H_simulcastlaw33_StackPlays [n0, l1] h R := by kernel_rfl
theorem C_simulcastlaw33_StackPlays {n0 l1 : Value} {h : Hp} {R : Value → Hp → Prop} (H : F_simulcastlaw33_StackPlays (Sys.of Go.Proofs.Tryd.prog) ids n0 l1 h R) : (Sys.of Go.Proofs.Tryd.prog).C ids.f_simulcastlaw33_StackPlays [n0, l1] h R :=
  cl_of_den Go.Proofs.Tryd.func3 (by kernel_rfl) mixed (E_simulcastlaw33_StackPlays n0 l1 h R) H

def H_simulcastlaw33_StackFew : HT := (.s .z (.s (.s .z (.c (.s .z .z) .z)) (.s .z (.s .z (.j [6] [40] .z .z)))))
theorem E_simulcastlaw33_StackFew (n0 l1 c2 : Value) (h : Hp) (R : Value → Hp → Prop) : F_simulcastlaw33_StackFew (Sys.of Go.Proofs.Tryd.prog) ids n0 l1 c2 h R = denFn Go.Proofs.Tryd.prog Go.Proofs.Tryd.f4 H_simulcastlaw33_StackFew [n0, l1, c2] h R := by kernel_rfl
theorem C_simulcastlaw33_StackFew {n0 l1 c2 : Value} {h : Hp} {R : Value → Hp → Prop} (H : F_simulcastlaw33_StackFew (Sys.of Go.Proofs.Tryd.prog) ids n0 l1 c2 h R) : (Sys.of Go.Proofs.Tryd.prog).C ids.f_simulcastlaw33_StackFew [n0, l1, c2] h R :=
  cl_of_den Go.Proofs.Tryd.func4 (by kernel_rfl) mixed (E_simulcastlaw33_StackFew n0 l1 c2 h R) H

def H_simulcastlaw33_StackBroken : HT := (.s .z (.s (.s .z (.c (.s .z .z) .z)) (.s .z (.s (.s .z (.b (.l [33] [1, 5, 7, 31, 32, 140] (.s .z (.s (.c .z .z) (.s (.b (.s .z .z)) .z)))))) (.s .z (.s .z (.s .z (.s .z (.s .z (.s .z (.s (.j [81] [7, 10, 11, 13, 14, 140] .z (.c (.s .z .z) .z)) (.s .z (.s .z (.s .z (.s (.b (.l [21, 22, 23] [7, 10, 13, 14, 140] (.s (.j [91] [7, 10, 13, 14, 21, 22, 23, 140] .z (.c .z .z)) (.b (.s .z (.j [106] [7, 10, 13, 14, 21, 22, 23, 140] .z (.c .z (.s .z .z)))))))) (.s (.s .z (.c (.j [6] [140] .z .z) .z)) (.j [6] [140] .z .z)))))))))))))))))
theorem E_simulcastlaw33_StackBroken (vals0 n1 c2 : Value) (h : Hp) (R : Value → Hp → Prop) : F_simulcastlaw33_StackBroken (Sys.of Go.Proofs.Tryd.prog) ids vals0 n1 c2 h R = denFn Go.Proofs.Tryd.prog Go.Proofs.Tryd.f5 H_simulcastlaw33_StackBroken [vals0, n1, c2] h R := by kernel_rfl
theorem C_simulcastlaw33_StackBroken {vals0 n1 c2 : Value} {h : Hp} {R : Value → Hp → Prop} (H : F_simulcastlaw33_StackBroken (Sys.of Go.Proofs.Tryd.prog) ids vals0 n1 c2 h R) : (Sys.of Go.Proofs.Tryd.prog).C ids.f_simulcastlaw33_StackBroken [vals0, n1, c2] h R :=
  cl_of_den Go.Proofs.Tryd.func5 (by kernel_rfl) mixed (E_simulcastlaw33_StackBroken vals0 n1 c2 h R) H

def H_simulcastlaw33_StackTurns : HT := (.s .z (.s (.j [30] [0, 1, 2, 122] .z (.c (.s .z .z) .z)) (.s .z (.s (.s .z (.c (.s .z .z) .z)) (.s .z (.s .z (.s .z (.s (.s .z (.b (.l [9, 10, 44] [7, 11, 42, 43, 122] (.s .z (.s (.c .z .z) (.j [9, 10] [7, 11, 42, 43, 44, 122] (.b (.s .z (.s .z (.s .z (.s (.j [77] [7, 9, 11, 13, 14, 15, 42, 43, 44, 122] .z (.c (.s .z .z) .z)) (.s .z (.s .z (.c .z .z)))))))) .z)))))) (.s (.s .z (.b (.l [10, 18] [7, 9, 122] (.s (.s .z (.c .z .z)) (.s (.b (.s .z (.s .z (.s .z (.s (.j [113] [7, 9, 18, 21, 122] (.o (oc [0, 1, 2, 3, 4, 5, 6, 7, 8, 9, 10, 11, 12, 13] .nil)) (.c (.s .z .z) .z)) .z))))) .z))))) (.s .z (.j [6] [122] .z .z)))))))))))
theorem E_simulcastlaw33_StackTurns (n0 l1 vs2 : Value) (h : Hp) (R : Value → Hp → Prop) : F_simulcastlaw33_StackTurns (Sys.of Go.Proofs.Tryd.prog) ids n0 l1 vs2 h R = denFn Go.Proofs.Tryd.prog Go.Proofs.Tryd.f6 H_simulcastlaw33_StackTurns [n0, l1, vs2] h R := by kernel_rfl
theorem C_simulcastlaw33_StackTurns {n0 l1 vs2 : Value} {h : Hp} {R : Value → Hp → Prop} (H : F_simulcastlaw33_StackTurns (Sys.of Go.Proofs.Tryd.prog) ids n0 l1 vs2 h R) : (Sys.of Go.Proofs.Tryd.prog).C ids.f_simulcastlaw33_StackTurns [n0, l1, vs2] h R :=
  cl_of_den Go.Proofs.Tryd.func6 (by kernel_rfl) mixed (E_simulcastlaw33_StackTurns n0 l1 vs2 h R) H

def H_simulcastlaw33_StackNeeds : HT := (.s .z (.s (.s .z (.c (.s .z .z) .z)) (.s .z (.s (.s .z (.c (.s .z .z) .z)) (.s .z (.s .z (.s .z (.s .z (.s .z (.s (.s .z (.b (.l [52] [7, 9, 11, 12, 13, 15, 110] (.s .z (.s (.c .z .z) (.s (.b (.s .z (.s .z (.s .z (.s (.s .z (.c (.s .z (.j [6] [7, 9, 11, 12, 13, 15, 110] .z .z)) .z)) (.s (.s .z (.s .z (.c (.s .z .z) .z))) .z)))))) .z)))))) (.s .z .z)))))))))))
theorem E_simulcastlaw33_StackNeeds (n0 l1 c2 : Value) (h : Hp) (R : Value → Hp → Prop) : F_simulcastlaw33_StackNeeds (Sys.of Go.Proofs.Tryd.prog) ids n0 l1 c2 h R = denFn Go.Proofs.Tryd.prog Go.Proofs.Tryd.f7 H_simulcastlaw33_StackNeeds [n0, l1, c2] h R := by kernel_rfl
theorem C_simulcastlaw33_StackNeeds {n0 l1 c2 : Value} {h : Hp} {R : Value → Hp → Prop} (H : F_simulcastlaw33_StackNeeds (Sys.of Go.Proofs.Tryd.prog) ids n0 l1 c2 h R) : (Sys.of Go.Proofs.Tryd.prog).C ids.f_simulcastlaw33_StackNeeds [n0, l1, c2] h R :=
  cl_of_den Go.Proofs.Tryd.func7 (by kernel_rfl) mixed (E_simulcastlaw33_StackNeeds n0 l1 c2 h R) H

def H_simulcastlaw33_StackNodes : HT := (.s .z (.s (.s .z (.c (.s .z .z) .z)) (.s .z (.s (.s .z (.c (.s .z .z) .z)) (.s .z (.s (.s .z (.c (.s .z .z) .z)) (.s .z (.s (.s .z (.b (.l [40] [5, 7, 9, 38, 39, 108] (.s .z (.s (.c .z .z) (.s (.b (.s .z .z)) .z)))))) (.s (.s .z (.b (.l [48] [5, 7, 9, 47, 108] (.s .z (.s (.c .z .z) (.s (.b (.s .z (.s .z (.s (.s .z (.b (.l [14, 62] [5, 7, 9, 47, 48, 61, 108] (.s .z (.s (.c .z .z) (.s (.b (.s .z (.s (.j [77] [5, 7, 9, 14, 15, 47, 48, 61, 62, 108] .z (.c (.s .z .z) .z)) (.s .z .z)))) .z)))))) (.s .z (.c (.s .z .z) .z)))))) .z)))))) (.j [4] [108] .z .z))))))))))
theorem E_simulcastlaw33_StackNodes (n0 l1 : Value) (h : Hp) (R : Value → Hp → Prop) : F_simulcastlaw33_StackNodes (Sys.of Go.Proofs.Tryd.prog) ids n0 l1 h R = denFn Go.Proofs.Tryd.prog Go.Proofs.Tryd.f8 H_simulcastlaw33_StackNodes [n0, l1] h R := by kernel_rfl
theorem C_simulcastlaw33_StackNodes {n0 l1 : Value} {h : Hp} {R : Value → Hp → Prop} (H : F_simulcastlaw33_StackNodes (Sys.of Go.Proofs.Tryd.prog) ids n0 l1 h R) : (Sys.of Go.Proofs.Tryd.prog).C ids.f_simulcastlaw33_StackNodes [n0, l1] h R :=
  cl_of_den Go.Proofs.Tryd.func8 (by kernel_rfl) mixed (E_simulcastlaw33_StackNodes n0 l1 h R) H

def H_simulcastlaw33_great : HT := (.s .z (.s .z .z))
theorem E_simulcastlaw33_great (l0 : Value) (h : Hp) (R : Value → Hp → Prop) : F_simulcastlaw33_great (Sys.of Go.Proofs.Tryd.prog) ids l0 h R = denFn Go.Proofs.Tryd.prog Go.Proofs.Tryd.f9 H_simulcastlaw33_great [l0] h R := by kernel_rfl
theorem C_simulcastlaw33_great {l0 : Value} {h : Hp} {R : Value → Hp → Prop} (H : F_simulcastlaw33_great (Sys.of Go.Proofs.Tryd.prog) ids l0 h R) : (Sys.of Go.Proofs.Tryd.prog).C ids.f_simulcastlaw33_great [l0] h R :=
  cl_of_den Go.Proofs.Tryd.func9 (by kernel_rfl) mixed (E_simulcastlaw33_great l0 h R) H

def H_simulcastlaw33_awake : HT := (.s .z (.s .z (.s (.s .z (.c (.s .z .z) .z)) (.s .z (.s .z (.s .z (.j [0] [76] .z .z)))))))
theorem E_simulcastlaw33_awake (h : Hp) (R : Value → Hp → Prop) : F_simulcastlaw33_awake (Sys.of Go.Proofs.Tryd.prog) ids h R = denFn Go.Proofs.Tryd.prog Go.Proofs.Tryd.f10 H_simulcastlaw33_awake [] h R := by kernel_rfl
theorem C_simulcastlaw33_awake {h : Hp} {R : Value → Hp → Prop} (H : F_simulcastlaw33_awake (Sys.of Go.Proofs.Tryd.prog) ids h R) : (Sys.of Go.Proofs.Tryd.prog).C ids.f_simulcastlaw33_awake [] h R :=
  cl_of_den Go.Proofs.Tryd.func10 (by kernel_rfl) mixed (E_simulcastlaw33_awake h R) H

def H_simulcastlaw33_played : HT := (.s .z (.s .z (.s (.s .z (.b (.l [18] [4, 6, 16, 17, 40] (.s .z (.s (.c .z .z) (.s (.b (.s .z (.s .z (.s (.j [35] [4, 6, 9, 16, 17, 18, 40] .z (.c (.s .z .z) .z)) .z)))) .z)))))) (.s .z .z))))
theorem E_simulcastlaw33_played (n0 l1 : Value) (h : Hp) (R : Value → Hp → Prop) : F_simulcastlaw33_played (Sys.of Go.Proofs.Tryd.prog) ids n0 l1 h R = denFn Go.Proofs.Tryd.prog Go.Proofs.Tryd.f11 H_simulcastlaw33_played [n0, l1] h R := by kernel_rfl
theorem C_simulcastlaw33_played {n0 l1 : Value} {h : Hp} {R : Value → Hp → Prop} (H : F_simulcastlaw33_played (Sys.of Go.Proofs.Tryd.prog) ids n0 l1 h R) : (Sys.of Go.Proofs.Tryd.prog).C ids.f_simulcastlaw33_played [n0, l1] h R :=
  cl_of_den Go.Proofs.Tryd.func11 (by kernel_rfl) mixed (E_simulcastlaw33_played n0 l1 h R) H

def H_simulcastlaw33_step : HT := (.s .z (.s .z (.s .z (.s .z (.s .z (.s .z (.j [5, 6] [4, 46] .z .z)))))))
theorem E_simulcastlaw33_step (x0 c1 : Value) (h : Hp) (R : Value → Hp → Prop) : F_simulcastlaw33_step (Sys.of Go.Proofs.Tryd.prog) ids x0 c1 h R = denFn Go.Proofs.Tryd.prog Go.Proofs.Tryd.f12 H_simulcastlaw33_step [x0, c1] h R := by kernel_rfl
theorem C_simulcastlaw33_step {x0 c1 : Value} {h : Hp} {R : Value → Hp → Prop} (H : F_simulcastlaw33_step (Sys.of Go.Proofs.Tryd.prog) ids x0 c1 h R) : (Sys.of Go.Proofs.Tryd.prog).C ids.f_simulcastlaw33_step [x0, c1] h R :=
  cl_of_den Go.Proofs.Tryd.func12 (by kernel_rfl) mixed (E_simulcastlaw33_step x0 c1 h R) H

def H_simulcastlaw33_Fresh : HT := (.s .z (.s .z (.s (.s .z (.b (.l [7] [3, 6, 15] (.s .z (.s (.c .z .z) (.s (.b (.s .z .z)) .z)))))) (.s .z .z))))
theorem E_simulcastlaw33_Fresh (n0 : Value) (h : Hp) (R : Value → Hp → Prop) : F_simulcastlaw33_Fresh (Sys.of Go.Proofs.Tryd.prog) ids n0 h R = denFn Go.Proofs.Tryd.prog Go.Proofs.Tryd.f13 H_simulcastlaw33_Fresh [n0] h R := by kernel_rfl
theorem C_simulcastlaw33_Fresh {n0 : Value} {h : Hp} {R : Value → Hp → Prop} (H : F_simulcastlaw33_Fresh (Sys.of Go.Proofs.Tryd.prog) ids n0 h R) : (Sys.of Go.Proofs.Tryd.prog).C ids.f_simulcastlaw33_Fresh [n0] h R :=
  cl_of_den Go.Proofs.Tryd.func13 (by kernel_rfl) mixed (E_simulcastlaw33_Fresh n0 h R) H

def H_simulcastlaw33_Nodes : HT := (.s .z (.s .z .z))
theorem E_simulcastlaw33_Nodes (n0 : Value) (h : Hp) (R : Value → Hp → Prop) : F_simulcastlaw33_Nodes (Sys.of Go.Proofs.Tryd.prog) ids n0 h R = denFn Go.Proofs.Tryd.prog Go.Proofs.Tryd.f14 H_simulcastlaw33_Nodes [n0] h R := by kernel_rfl
theorem C_simulcastlaw33_Nodes {n0 : Value} {h : Hp} {R : Value → Hp → Prop} (H : F_simulcastlaw33_Nodes (Sys.of Go.Proofs.Tryd.prog) ids n0 h R) : (Sys.of Go.Proofs.Tryd.prog).C ids.f_simulcastlaw33_Nodes [n0] h R :=
  cl_of_den Go.Proofs.Tryd.func14 (by kernel_rfl) mixed (E_simulcastlaw33_Nodes n0 h R) H

def H_simulcastlaw33_World_Done : HT := (.s .z (.s .z (.s .z (.s .z (.s .z (.s (.s .z (.b (.l [] [0, 7, 8, 9, 10, 31, 112] (.s .z (.s (.c .z .z) (.b (.s .z .z))))))) (.s (.s .z (.b (.l [42] [0, 7, 8, 9, 10, 40, 41, 112] (.s .z (.s (.c .z .z) (.j [] [0, 7, 8, 9, 10, 40, 41, 42, 112] (.b (.s .z (.s (.s .z (.j [63] [0, 7, 8, 9, 10, 14, 40, 41, 42, 112] .z (.c (.s .z .z) .z))) (.s .z (.c .z .z))))) .z)))))) (.j [] [7, 8, 9, 10, 112] (.s .z (.c (.s .z (.b (.l [83] [0, 7, 8, 9, 10, 81, 82, 112] (.s .z (.s (.c .z .z) (.s (.b (.s .z (.o (oc [0, 1, 2, 3, 5, 6, 7, 8, 9, 4, 10, 11] .nil)))) .z)))))) .z)) (.j [4, 5, 6] [112] .z .z)))))))))
theorem E_simulcastlaw33_World_Done (w0 do1 : Value) (h : Hp) (R : Value → Hp → Prop) : F_simulcastlaw33_World_Done (Sys.of Go.Proofs.Tryd.prog) ids w0 do1 h R = denFn Go.Proofs.Tryd.prog Go.Proofs.Tryd.f15 H_simulcastlaw33_World_Done [w0, do1] h R := by kernel_rfl
theorem C_simulcastlaw33_World_Done {w0 do1 : Value} {h : Hp} {R : Value → Hp → Prop} (H : F_simulcastlaw33_World_Done (Sys.of Go.Proofs.Tryd.prog) ids w0 do1 h R) : (Sys.of Go.Proofs.Tryd.prog).C ids.f_simulcastlaw33_World_Done [w0, do1] h R :=
  cl_of_den Go.Proofs.Tryd.func15 (by kernel_rfl) mixed (E_simulcastlaw33_World_Done w0 do1 h R) H

def H_simulcastlaw33_StackBroken_1 : HT := (.s .z (.c .z .z))
theorem E_simulcastlaw33_StackBroken_1 (s0 v1 v2 v3 v4 : Value) (h : Hp) (R : Value → Hp → Prop) : F_simulcastlaw33_StackBroken_1 (Sys.of Go.Proofs.Tryd.prog) ids s0 v1 v2 v3 v4 h R = denFn Go.Proofs.Tryd.prog Go.Proofs.Tryd.f16 H_simulcastlaw33_StackBroken_1 [s0, v1, v2, v3, v4] h R := by kernel_rfl
theorem C_simulcastlaw33_StackBroken_1 {s0 v1 v2 v3 v4 : Value} {h : Hp} {R : Value → Hp → Prop} (H : F_simulcastlaw33_StackBroken_1 (Sys.of Go.Proofs.Tryd.prog) ids s0 v1 v2 v3 v4 h R) : (Sys.of Go.Proofs.Tryd.prog).C ids.f_simulcastlaw33_StackBroken_1 [s0, v1, v2, v3, v4] h R :=
  cl_of_den Go.Proofs.Tryd.func16 (by kernel_rfl) mixed (E_simulcastlaw33_StackBroken_1 s0 v1 v2 v3 v4 h R) H

def H_stack_Push : HT := (.s .z (.s .z (.s .z (.s (.s .z (.c (.s .z .z) .z)) (.s .z (.s .z (.s .z (.s .z (.s .z .z)))))))))
theorem E_stack_Push (s0 p1 root2 v3 : Value) (h : Hp) (R : Value → Hp → Prop) : F_stack_Push (Sys.of Go.Proofs.Tryd.prog) ids s0 p1 root2 v3 h R = denFn Go.Proofs.Tryd.prog Go.Proofs.Tryd.f17 H_stack_Push [s0, p1, root2, v3] h R := by kernel_rfl
theorem C_stack_Push {s0 p1 root2 v3 : Value} {h : Hp} {R : Value → Hp → Prop} (H : F_stack_Push (Sys.of Go.Proofs.Tryd.prog) ids s0 p1 root2 v3 h R) : (Sys.of Go.Proofs.Tryd.prog).C ids.f_stack_Push [s0, p1, root2, v3] h R :=
  cl_of_den Go.Proofs.Tryd.func17 (by kernel_rfl) mixed (E_stack_Push s0 p1 root2 v3 h R) H

def H_stack_Pop : HT := (.s .z (.s .z (.s .z (.s (.s .z (.c (.s .z .z) .z)) (.s (.s .z (.s .z (.c (.s .z .z) .z))) (.s .z (.s (.s .z (.s .z (.c (.s .z .z) .z))) (.s .z (.s .z (.s .z .z))))))))))
theorem E_stack_Pop (s0 p1 root2 : Value) (h : Hp) (R : Value → Hp → Prop) : F_stack_Pop (Sys.of Go.Proofs.Tryd.prog) ids s0 p1 root2 h R = denFn Go.Proofs.Tryd.prog Go.Proofs.Tryd.f18 H_stack_Pop [s0, p1, root2] h R := by kernel_rfl
theorem C_stack_Pop {s0 p1 root2 : Value} {h : Hp} {R : Value → Hp → Prop} (H : F_stack_Pop (Sys.of Go.Proofs.Tryd.prog) ids s0 p1 root2 h R) : (Sys.of Go.Proofs.Tryd.prog).C ids.f_stack_Pop [s0, p1, root2] h R :=
  cl_of_den Go.Proofs.Tryd.func18 (by kernel_rfl) mixed (E_stack_Pop s0 p1 root2 h R) H

def H_simulcastlaw33_StackBroken_2 : HT := .z
theorem E_simulcastlaw33_StackBroken_2 (s0 v1 v2 v3 v4 : Value) (h : Hp) (R : Value → Hp → Prop) : F_simulcastlaw33_StackBroken_2 (Sys.of Go.Proofs.Tryd.prog) ids s0 v1 v2 v3 v4 h R = denFn Go.Proofs.Tryd.prog Go.Proofs.Tryd.f19 H_simulcastlaw33_StackBroken_2 [s0, v1, v2, v3, v4] h R := by kernel_rfl
theorem C_simulcastlaw33_StackBroken_2 {s0 v1 v2 v3 v4 : Value} {h : Hp} {R : Value → Hp → Prop} (H : F_simulcastlaw33_StackBroken_2 (Sys.of Go.Proofs.Tryd.prog) ids s0 v1 v2 v3 v4 h R) : (Sys.of Go.Proofs.Tryd.prog).C ids.f_simulcastlaw33_StackBroken_2 [s0, v1, v2, v3, v4] h R :=
  cl_of_den Go.Proofs.Tryd.func19 (by kernel_rfl) mixed (E_simulcastlaw33_StackBroken_2 s0 v1 v2 v3 v4 h R) H

def H_stack_Walk : HT := (.s .z (.s .z (.s .z (.s .z (.s (.b (.l [8, 9] [0, 4, 47] (.b (.s .z (.s (.b (.s .z (.c .z (.j [25] [0, 4, 8, 9, 47] .z (.c (.s .z .z) .z))))) (.s .z .z)))))) (.s .z .z))))))
theorem E_stack_Walk (s0 p1 root2 : Value) (h : Hp) (R : Value → Hp → Prop) : F_stack_Walk (Sys.of Go.Proofs.Tryd.prog) ids s0 p1 root2 h R = denFn Go.Proofs.Tryd.prog Go.Proofs.Tryd.f20 H_stack_Walk [s0, p1, root2] h R := by kernel_rfl
theorem C_stack_Walk {s0 p1 root2 : Value} {h : Hp} {R : Value → Hp → Prop} (H : F_stack_Walk (Sys.of Go.Proofs.Tryd.prog) ids s0 p1 root2 h R) : (Sys.of Go.Proofs.Tryd.prog).C ids.f_stack_Walk [s0, p1, root2] h R :=
  cl_of_den Go.Proofs.Tryd.func20 (by kernel_rfl) mixed (E_stack_Walk s0 p1 root2 h R) H

def H_simulcastlaw33_Alike : HT := (.s .z (.s (.s .z (.c (.s .z .z) .z)) (.s (.s .z (.b (.l [] [1, 13, 26] (.s .z (.s (.c .z .z) (.b (.s .z (.s .z (.c (.s .z .z) .z))))))))) (.s .z .z))))
theorem E_simulcastlaw33_Alike (a0 b1 : Value) (h : Hp) (R : Value → Hp → Prop) : F_simulcastlaw33_Alike (Sys.of Go.Proofs.Tryd.prog) ids a0 b1 h R = denFn Go.Proofs.Tryd.prog Go.Proofs.Tryd.f21 H_simulcastlaw33_Alike [a0, b1] h R := by kernel_rfl
theorem C_simulcastlaw33_Alike {a0 b1 : Value} {h : Hp} {R : Value → Hp → Prop} (H : F_simulcastlaw33_Alike (Sys.of Go.Proofs.Tryd.prog) ids a0 b1 h R) : (Sys.of Go.Proofs.Tryd.prog).C ids.f_simulcastlaw33_Alike [a0, b1] h R :=
  cl_of_den Go.Proofs.Tryd.func21 (by kernel_rfl) mixed (E_simulcastlaw33_Alike a0 b1 h R) H

def H_pool_Pool_Node : HT := (.s .z (.s (.j [23] [1, 2, 34] .z (.c (.s .z .z) .z)) (.s .z (.s (.s .z (.c (.s .z .z) .z)) (.s .z .z)))))
theorem E_pool_Pool_Node (p0 at1 : Value) (h : Hp) (R : Value → Hp → Prop) : F_pool_Pool_Node (Sys.of Go.Proofs.Tryd.prog) ids p0 at1 h R = denFn Go.Proofs.Tryd.prog Go.Proofs.Tryd.f22 H_pool_Pool_Node [p0, at1] h R := by kernel_rfl
theorem C_pool_Pool_Node {p0 at1 : Value} {h : Hp} {R : Value → Hp → Prop} (H : F_pool_Pool_Node (Sys.of Go.Proofs.Tryd.prog) ids p0 at1 h R) : (Sys.of Go.Proofs.Tryd.prog).C ids.f_pool_Pool_Node [p0, at1] h R :=
  cl_of_den Go.Proofs.Tryd.func22 (by kernel_rfl) mixed (E_pool_Pool_Node p0 at1 h R) H

def H_slices_Equal_int64_int64 : HT := (.s .z (.s (.s .z (.c (.s .z .z) .z)) (.s (.s .z (.b (.l [13] [0, 1, 12, 26] (.s .z (.s (.c .z .z) (.s (.b (.s .z (.s (.o (oc [0, 1, 2, 3, 4, 5, 6, 7, 8] .nil)) (.c (.s .z .z) .z)))) .z)))))) (.s .z .z))))
theorem E_slices_Equal_int64_int64 (s10 s21 : Value) (h : Hp) (R : Value → Hp → Prop) : F_slices_Equal_int64_int64 (Sys.of Go.Proofs.Tryd.prog) ids s10 s21 h R = denFn Go.Proofs.Tryd.prog Go.Proofs.Tryd.f23 H_slices_Equal_int64_int64 [s10, s21] h R := by kernel_rfl
theorem C_slices_Equal_int64_int64 {s10 s21 : Value} {h : Hp} {R : Value → Hp → Prop} (H : F_slices_Equal_int64_int64 (Sys.of Go.Proofs.Tryd.prog) ids s10 s21 h R) : (Sys.of Go.Proofs.Tryd.prog).C ids.f_slices_Equal_int64_int64 [s10, s21] h R :=
  cl_of_den Go.Proofs.Tryd.func23 (by kernel_rfl) mixed (E_slices_Equal_int64_int64 s10 s21 h R) H

def H_simulcastlaw33_StackTurns_1 : HT := (.s .z .z)
theorem E_simulcastlaw33_StackTurns_1 (s0 v1 v2 v3 v4 : Value) (h : Hp) (R : Value → Hp → Prop) : F_simulcastlaw33_StackTurns_1 (Sys.of Go.Proofs.Tryd.prog) ids s0 v1 v2 v3 v4 h R = denFn Go.Proofs.Tryd.prog Go.Proofs.Tryd.f24 H_simulcastlaw33_StackTurns_1 [s0, v1, v2, v3, v4] h R := by kernel_rfl
theorem C_simulcastlaw33_StackTurns_1 {s0 v1 v2 v3 v4 : Value} {h : Hp} {R : Value → Hp → Prop} (H : F_simulcastlaw33_StackTurns_1 (Sys.of Go.Proofs.Tryd.prog) ids s0 v1 v2 v3 v4 h R) : (Sys.of Go.Proofs.Tryd.prog).C ids.f_simulcastlaw33_StackTurns_1 [s0, v1, v2, v3, v4] h R :=
  cl_of_den Go.Proofs.Tryd.func24 (by kernel_rfl) mixed (E_simulcastlaw33_StackTurns_1 s0 v1 v2 v3 v4 h R) H

def H_pool_Pool_Left : HT := (.s .z (.s (.s .z (.c (.s .z .z) .z)) (.s (.o (oc [0, 1, 2, 3, 5, 6, 8, 9, 10, 11, 4, 7, 12, 13, 14, 15] .nil)) .z)))
theorem E_pool_Pool_Left (p0 s1 : Value) (h : Hp) (R : Value → Hp → Prop) : F_pool_Pool_Left (Sys.of Go.Proofs.Tryd.prog) ids p0 s1 h R = denFn Go.Proofs.Tryd.prog Go.Proofs.Tryd.f25 H_pool_Pool_Left [p0, s1] h R := by kernel_rfl
theorem C_pool_Pool_Left {p0 s1 : Value} {h : Hp} {R : Value → Hp → Prop} (H : F_pool_Pool_Left (Sys.of Go.Proofs.Tryd.prog) ids p0 s1 h R) : (Sys.of Go.Proofs.Tryd.prog).C ids.f_pool_Pool_Left [p0, s1] h R :=
  cl_of_den Go.Proofs.Tryd.func25 (by kernel_rfl) mixed (E_pool_Pool_Left p0 s1 h R) H

def H_simulcastlaw33_StackTurns_2 : HT := .z
theorem E_simulcastlaw33_StackTurns_2 (s0 v1 v2 v3 : Value) (h : Hp) (R : Value → Hp → Prop) : F_simulcastlaw33_StackTurns_2 (Sys.of Go.Proofs.Tryd.prog) ids s0 v1 v2 v3 h R = denFn Go.Proofs.Tryd.prog Go.Proofs.Tryd.f26 H_simulcastlaw33_StackTurns_2 [s0, v1, v2, v3] h R := by kernel_rfl
theorem C_simulcastlaw33_StackTurns_2 {s0 v1 v2 v3 : Value} {h : Hp} {R : Value → Hp → Prop} (H : F_simulcastlaw33_StackTurns_2 (Sys.of Go.Proofs.Tryd.prog) ids s0 v1 v2 v3 h R) : (Sys.of Go.Proofs.Tryd.prog).C ids.f_simulcastlaw33_StackTurns_2 [s0, v1, v2, v3] h R :=
  cl_of_den Go.Proofs.Tryd.func26 (by kernel_rfl) mixed (E_simulcastlaw33_StackTurns_2 s0 v1 v2 v3 h R) H

def H_simulcastlaw33_is : HT := (.s .z (.s .z (.s .z (.s (.s .z (.b (.l [20] [1, 5, 6, 19, 47] (.s .z (.s (.c .z .z) (.j [] [1, 5, 6, 19, 20, 47] (.b (.s .z (.s .z .z))) .z)))))) (.j [2] [47] .z .z)))))
theorem E_simulcastlaw33_is (x0 : Value) (h : Hp) (R : Value → Hp → Prop) : F_simulcastlaw33_is (Sys.of Go.Proofs.Tryd.prog) ids x0 h R = denFn Go.Proofs.Tryd.prog Go.Proofs.Tryd.f27 H_simulcastlaw33_is [x0] h R := by kernel_rfl
theorem C_simulcastlaw33_is {x0 : Value} {h : Hp} {R : Value → Hp → Prop} (H : F_simulcastlaw33_is (Sys.of Go.Proofs.Tryd.prog) ids x0 h R) : (Sys.of Go.Proofs.Tryd.prog).C ids.f_simulcastlaw33_is [x0] h R :=
  cl_of_den Go.Proofs.Tryd.func27 (by kernel_rfl) mixed (E_simulcastlaw33_is x0 h R) H

def H_simulcastlaw33_StackNeeds_1 : HT := (.s .z (.s (.s .z (.c (.s (.o (oc [0, 1, 2, 3, 4, 5, 6, 7, 8, 9, 10, 11, 12] .nil)) .z) .z)) (.s (.o (oc [0, 1, 2, 3, 4, 5, 6, 7, 8, 9, 10, 11, 12] .nil)) .z)))
theorem E_simulcastlaw33_StackNeeds_1 (s0 v1 v2 : Value) (h : Hp) (R : Value → Hp → Prop) : F_simulcastlaw33_StackNeeds_1 (Sys.of Go.Proofs.Tryd.prog) ids s0 v1 v2 h R = denFn Go.Proofs.Tryd.prog Go.Proofs.Tryd.f28 H_simulcastlaw33_StackNeeds_1 [s0, v1, v2] h R := by kernel_rfl
theorem C_simulcastlaw33_StackNeeds_1 {s0 v1 v2 : Value} {h : Hp} {R : Value → Hp → Prop} (H : F_simulcastlaw33_StackNeeds_1 (Sys.of Go.Proofs.Tryd.prog) ids s0 v1 v2 h R) : (Sys.of Go.Proofs.Tryd.prog).C ids.f_simulcastlaw33_StackNeeds_1 [s0, v1, v2] h R :=
  cl_of_den Go.Proofs.Tryd.func28 (by kernel_rfl) mixed (E_simulcastlaw33_StackNeeds_1 s0 v1 v2 h R) H

def H_space_New : HT := (.s .z (.s .z (.s (.s .z (.b (.l [] [3, 11, 27] (.s .z (.s (.c .z .z) (.b (.s .z (.s .z (.c (.o (oc [0, 1, 2, 3, 4, 5, 6] .nil)) .z))))))))) (.s .z .z))))
theorem E_space_New (known0 : Value) (h : Hp) (R : Value → Hp → Prop) : F_space_New (Sys.of Go.Proofs.Tryd.prog) ids known0 h R = denFn Go.Proofs.Tryd.prog Go.Proofs.Tryd.f29 H_space_New [known0] h R := by kernel_rfl
theorem C_space_New {known0 : Value} {h : Hp} {R : Value → Hp → Prop} (H : F_space_New (Sys.of Go.Proofs.Tryd.prog) ids known0 h R) : (Sys.of Go.Proofs.Tryd.prog).C ids.f_space_New [known0] h R :=
  cl_of_den Go.Proofs.Tryd.func29 (by kernel_rfl) mixed (E_space_New known0 h R) H

def H_space_Space_Entries : HT := (.s .z (.s (.s .z (.c (.s .z .z) .z)) (.s .z (.s (.s .z (.b (.l [4, 15] [0, 13, 14, 48] (.s .z (.s (.c .z .z) (.s (.b (.s .z (.s .z .z))) .z)))))) (.s (.s .z (.c (.s .z .z) .z)) (.s (.s .z (.s .z (.c (.s .z .z) .z))) (.s .z .z)))))))
theorem E_space_Space_Entries (s0 : Value) (h : Hp) (R : Value → Hp → Prop) : F_space_Space_Entries (Sys.of Go.Proofs.Tryd.prog) ids s0 h R = denFn Go.Proofs.Tryd.prog Go.Proofs.Tryd.f30 H_space_Space_Entries [s0] h R := by kernel_rfl
theorem C_space_Space_Entries {s0 : Value} {h : Hp} {R : Value → Hp → Prop} (H : F_space_Space_Entries (Sys.of Go.Proofs.Tryd.prog) ids s0 h R) : (Sys.of Go.Proofs.Tryd.prog).C ids.f_space_Space_Entries [s0] h R :=
  cl_of_den Go.Proofs.Tryd.func30 (by kernel_rfl) mixed (E_space_Space_Entries s0 h R) H

def H_space_Space_Need : HT := (.s .z (.s (.j [12] [0, 17] .z (.c (.s .z .z) .z)) (.s .z .z)))
theorem E_space_Space_Need (s0 : Value) (h : Hp) (R : Value → Hp → Prop) : F_space_Space_Need (Sys.of Go.Proofs.Tryd.prog) ids s0 h R = denFn Go.Proofs.Tryd.prog Go.Proofs.Tryd.f31 H_space_Space_Need [s0] h R := by kernel_rfl
theorem C_space_Space_Need {s0 : Value} {h : Hp} {R : Value → Hp → Prop} (H : F_space_Space_Need (Sys.of Go.Proofs.Tryd.prog) ids s0 h R) : (Sys.of Go.Proofs.Tryd.prog).C ids.f_space_Space_Need [s0] h R :=
  cl_of_den Go.Proofs.Tryd.func31 (by kernel_rfl) mixed (E_space_Space_Need s0 h R) H

def H_slices_Equal_api_Entry_api_Entry : HT := (.s .z (.s (.s .z (.c (.s .z .z) .z)) (.s (.s .z (.b (.l [13] [0, 1, 12, 26] (.s .z (.s (.c .z .z) (.s (.b (.s .z (.s (.o (oc [0, 1, 2, 3, 4, 5, 6, 7, 8] .nil)) (.c (.s .z .z) .z)))) .z)))))) (.s .z .z))))
theorem E_slices_Equal_api_Entry_api_Entry (s10 s21 : Value) (h : Hp) (R : Value → Hp → Prop) : F_slices_Equal_api_Entry_api_Entry (Sys.of Go.Proofs.Tryd.prog) ids s10 s21 h R = denFn Go.Proofs.Tryd.prog Go.Proofs.Tryd.f32 H_slices_Equal_api_Entry_api_Entry [s10, s21] h R := by kernel_rfl
theorem C_slices_Equal_api_Entry_api_Entry {s10 s21 : Value} {h : Hp} {R : Value → Hp → Prop} (H : F_slices_Equal_api_Entry_api_Entry (Sys.of Go.Proofs.Tryd.prog) ids s10 s21 h R) : (Sys.of Go.Proofs.Tryd.prog).C ids.f_slices_Equal_api_Entry_api_Entry [s10, s21] h R :=
  cl_of_den Go.Proofs.Tryd.func32 (by kernel_rfl) mixed (E_slices_Equal_api_Entry_api_Entry s10 s21 h R) H

def H_pool_Pool_Free : HT := (.s .z (.s (.s .z (.s .z (.c (.s .z .z) .z))) (.s .z (.s .z (.s .z (.s (.b (.l [7, 8] [1, 2, 47] (.b (.s .z (.s (.b (.s .z (.c .z (.j [29] [1, 2, 7, 8, 9, 47] .z (.c (.s .z .z) .z))))) (.s .z .z)))))) (.s .z .z)))))))
theorem E_pool_Pool_Free (p0 w1 : Value) (h : Hp) (R : Value → Hp → Prop) : F_pool_Pool_Free (Sys.of Go.Proofs.Tryd.prog) ids p0 w1 h R = denFn Go.Proofs.Tryd.prog Go.Proofs.Tryd.f33 H_pool_Pool_Free [p0, w1] h R := by kernel_rfl
theorem C_pool_Pool_Free {p0 w1 : Value} {h : Hp} {R : Value → Hp → Prop} (H : F_pool_Pool_Free (Sys.of Go.Proofs.Tryd.prog) ids p0 w1 h R) : (Sys.of Go.Proofs.Tryd.prog).C ids.f_pool_Pool_Free [p0, w1] h R :=
  cl_of_den Go.Proofs.Tryd.func33 (by kernel_rfl) mixed (E_pool_Pool_Free p0 w1 h R) H

def H_simulcastlaw33_StackNodes_1 : HT := (.s .z (.s .z .z))
theorem E_simulcastlaw33_StackNodes_1 (at0 v1 : Value) (h : Hp) (R : Value → Hp → Prop) : F_simulcastlaw33_StackNodes_1 (Sys.of Go.Proofs.Tryd.prog) ids at0 v1 h R = denFn Go.Proofs.Tryd.prog Go.Proofs.Tryd.f34 H_simulcastlaw33_StackNodes_1 [at0, v1] h R := by kernel_rfl
theorem C_simulcastlaw33_StackNodes_1 {at0 v1 : Value} {h : Hp} {R : Value → Hp → Prop} (H : F_simulcastlaw33_StackNodes_1 (Sys.of Go.Proofs.Tryd.prog) ids at0 v1 h R) : (Sys.of Go.Proofs.Tryd.prog).C ids.f_simulcastlaw33_StackNodes_1 [at0, v1] h R :=
  cl_of_den Go.Proofs.Tryd.func34 (by kernel_rfl) mixed (E_simulcastlaw33_StackNodes_1 at0 v1 h R) H

def H_simulcastlaw33_step_1 : HT := (.s (.s .z (.c (.s (.o (oc [0, 1, 2, 3, 4, 5, 6, 7, 8, 9, 10, 11, 12] .nil)) (.s (.o (oc [0, 1, 2, 3, 4, 5, 6, 7, 9, 8, 10, 11] .nil)) (.s .z .z))) .z)) (.s .z (.s (.o (oc [0, 1, 2, 3, 4, 5, 6, 7, 8, 9, 10, 11] .nil)) (.j [] [2, 3, 9, 75] .z .z))))
theorem E_simulcastlaw33_step_1 (s0 v1 v2 v3 v4 v5 : Value) (h : Hp) (R : Value → Hp → Prop) : F_simulcastlaw33_step_1 (Sys.of Go.Proofs.Tryd.prog) ids s0 v1 v2 v3 v4 v5 h R = denFn Go.Proofs.Tryd.prog Go.Proofs.Tryd.f35 H_simulcastlaw33_step_1 [s0, v1, v2, v3, v4, v5] h R := by kernel_rfl
theorem C_simulcastlaw33_step_1 {s0 v1 v2 v3 v4 v5 : Value} {h : Hp} {R : Value → Hp → Prop} (H : F_simulcastlaw33_step_1 (Sys.of Go.Proofs.Tryd.prog) ids s0 v1 v2 v3 v4 v5 h R) : (Sys.of Go.Proofs.Tryd.prog).C ids.f_simulcastlaw33_step_1 [s0, v1, v2, v3, v4, v5] h R :=
  cl_of_den Go.Proofs.Tryd.func35 (by kernel_rfl) mixed (E_simulcastlaw33_step_1 s0 v1 v2 v3 v4 v5 h R) H

def H_simulcastref33_Push : HT := (.s .z (.s (.s .z (.c (.s .z .z) .z)) (.s .z (.s .z (.s .z .z)))))
theorem E_simulcastref33_Push (l0 v1 left2 : Value) (h : Hp) (R : Value → Hp → Prop) : F_simulcastref33_Push (Sys.of Go.Proofs.Tryd.prog) ids l0 v1 left2 h R = denFn Go.Proofs.Tryd.prog Go.Proofs.Tryd.f36 H_simulcastref33_Push [l0, v1, left2] h R := by kernel_rfl
theorem C_simulcastref33_Push {l0 v1 left2 : Value} {h : Hp} {R : Value → Hp → Prop} (H : F_simulcastref33_Push (Sys.of Go.Proofs.Tryd.prog) ids l0 v1 left2 h R) : (Sys.of Go.Proofs.Tryd.prog).C ids.f_simulcastref33_Push [l0, v1, left2] h R :=
  cl_of_den Go.Proofs.Tryd.func36 (by kernel_rfl) mixed (E_simulcastref33_Push l0 v1 left2 h R) H

def H_simulcastref33_Pop : HT := (.s .z (.s (.s .z (.c (.s .z .z) .z)) (.s (.o (oc [0, 1, 2, 3, 4, 5, 6, 7, 8, 9, 10, 11, 12, 13] .nil)) .z)))
theorem E_simulcastref33_Pop (l0 : Value) (h : Hp) (R : Value → Hp → Prop) : F_simulcastref33_Pop (Sys.of Go.Proofs.Tryd.prog) ids l0 h R = denFn Go.Proofs.Tryd.prog Go.Proofs.Tryd.f37 H_simulcastref33_Pop [l0] h R := by kernel_rfl
theorem C_simulcastref33_Pop {l0 : Value} {h : Hp} {R : Value → Hp → Prop} (H : F_simulcastref33_Pop (Sys.of Go.Proofs.Tryd.prog) ids l0 h R) : (Sys.of Go.Proofs.Tryd.prog).C ids.f_simulcastref33_Pop [l0] h R :=
  cl_of_den Go.Proofs.Tryd.func37 (by kernel_rfl) mixed (E_simulcastref33_Pop l0 h R) H

def H_space_Space_Writes : HT := (.s .z (.s .z (.s (.s .z (.c (.s .z .z) .z)) (.s (.s .z (.b (.l [3, 14] [12, 13, 28] (.s .z (.s (.c .z .z) (.s (.b (.s .z .z)) .z)))))) (.s .z (.s .z .z))))))
theorem E_space_Space_Writes (s0 : Value) (h : Hp) (R : Value → Hp → Prop) : F_space_Space_Writes (Sys.of Go.Proofs.Tryd.prog) ids s0 h R = denFn Go.Proofs.Tryd.prog Go.Proofs.Tryd.f38 H_space_Space_Writes [s0] h R := by kernel_rfl
theorem C_space_Space_Writes {s0 : Value} {h : Hp} {R : Value → Hp → Prop} (H : F_space_Space_Writes (Sys.of Go.Proofs.Tryd.prog) ids s0 h R) : (Sys.of Go.Proofs.Tryd.prog).C ids.f_space_Space_Writes [s0] h R :=
  cl_of_den Go.Proofs.Tryd.func38 (by kernel_rfl) mixed (E_space_Space_Writes s0 h R) H

def H_space_Space_Get : HT := (.s .z (.s (.s .z (.c (.s .z .z) .z)) (.s .z (.s .z .z))))
theorem E_space_Space_Get (s0 at1 : Value) (h : Hp) (R : Value → Hp → Prop) : F_space_Space_Get (Sys.of Go.Proofs.Tryd.prog) ids s0 at1 h R = denFn Go.Proofs.Tryd.prog Go.Proofs.Tryd.f39 H_space_Space_Get [s0, at1] h R := by kernel_rfl
theorem C_space_Space_Get {s0 at1 : Value} {h : Hp} {R : Value → Hp → Prop} (H : F_space_Space_Get (Sys.of Go.Proofs.Tryd.prog) ids s0 at1 h R) : (Sys.of Go.Proofs.Tryd.prog).C ids.f_space_Space_Get [s0, at1] h R :=
  cl_of_den Go.Proofs.Tryd.func39 (by kernel_rfl) mixed (E_space_Space_Get s0 at1 h R) H

def H_space_Space_Ended : HT := (.s .z (.j [2] [11] .z .z))
theorem E_space_Space_Ended (s0 : Value) (h : Hp) (R : Value → Hp → Prop) : F_space_Space_Ended (Sys.of Go.Proofs.Tryd.prog) ids s0 h R = denFn Go.Proofs.Tryd.prog Go.Proofs.Tryd.f40 H_space_Space_Ended [s0] h R := by kernel_rfl
theorem C_space_Space_Ended {s0 : Value} {h : Hp} {R : Value → Hp → Prop} (H : F_space_Space_Ended (Sys.of Go.Proofs.Tryd.prog) ids s0 h R) : (Sys.of Go.Proofs.Tryd.prog).C ids.f_space_Space_Ended [s0] h R :=
  cl_of_den Go.Proofs.Tryd.func40 (by kernel_rfl) mixed (E_space_Space_Ended s0 h R) H

def H_stack_undo : HT := (.s .z (.c .z .z))
theorem E_stack_undo (s0 mark1 e2 : Value) (h : Hp) (R : Value → Hp → Prop) : F_stack_undo (Sys.of Go.Proofs.Tryd.prog) ids s0 mark1 e2 h R = denFn Go.Proofs.Tryd.prog Go.Proofs.Tryd.f41 H_stack_undo [s0, mark1, e2] h R := by kernel_rfl
theorem C_stack_undo {s0 mark1 e2 : Value} {h : Hp} {R : Value → Hp → Prop} (H : F_stack_undo (Sys.of Go.Proofs.Tryd.prog) ids s0 mark1 e2 h R) : (Sys.of Go.Proofs.Tryd.prog).C ids.f_stack_undo [s0, mark1, e2] h R :=
  cl_of_den Go.Proofs.Tryd.func41 (by kernel_rfl) mixed (E_stack_undo s0 mark1 e2 h R) H
theorem E0_stack_undo (s0 mark1 e2 : Value) (h : Hp) (R : Hp → Prop) : F_stack_undo (Sys.of Go.Proofs.Tryd.prog) ids s0 mark1 e2 h (fun _ h => R h) = denFn0 Go.Proofs.Tryd.prog Go.Proofs.Tryd.f41 H_stack_undo [s0, mark1, e2] h (fun _ h => R h) := by kernel_rfl
theorem D_stack_undo {s0 mark1 e2 : Value} {h : Hp} {R : Hp → Prop} (H : F_stack_undo (Sys.of Go.Proofs.Tryd.prog) ids s0 mark1 e2 h (fun _ h => R h)) : (Sys.of Go.Proofs.Tryd.prog).D ids.f_stack_undo [s0, mark1, e2] h R :=
  spd_of_denFn Go.Proofs.Tryd.func41 mixed (E0_stack_undo s0 mark1 e2 h R) H

def H_space_Space_Mark : HT := (.s .z (.s (.s .z (.c (.s .z .z) .z)) (.s .z .z)))
theorem E_space_Space_Mark (s0 : Value) (h : Hp) (R : Value → Hp → Prop) : F_space_Space_Mark (Sys.of Go.Proofs.Tryd.prog) ids s0 h R = denFn Go.Proofs.Tryd.prog Go.Proofs.Tryd.f42 H_space_Space_Mark [s0] h R := by kernel_rfl
theorem C_space_Space_Mark {s0 : Value} {h : Hp} {R : Value → Hp → Prop} (H : F_space_Space_Mark (Sys.of Go.Proofs.Tryd.prog) ids s0 h R) : (Sys.of Go.Proofs.Tryd.prog).C ids.f_space_Space_Mark [s0] h R :=
  cl_of_den Go.Proofs.Tryd.func42 (by kernel_rfl) mixed (E_space_Space_Mark s0 h R) H

def H_pool_Pool_Take : HT := (.s .z (.s (.s .z (.s .z (.c (.s .z .z) .z))) (.s (.s .z (.s .z (.c (.s .z (.s (.s .z (.s .z (.c (.s .z .z) .z))) (.s (.o (oc [0, 1, 2, 3, 4, 5, 6] .nil)) (.s .z (.s .z .z))))) .z))) (.s .z (.s (.j [55] [1, 2, 11, 68] .z (.c (.s .z .z) .z)) (.s .z (.s .z .z)))))))
theorem E_pool_Pool_Take (p0 s1 : Value) (h : Hp) (R : Value → Hp → Prop) : F_pool_Pool_Take (Sys.of Go.Proofs.Tryd.prog) ids p0 s1 h R = denFn Go.Proofs.Tryd.prog Go.Proofs.Tryd.f43 H_pool_Pool_Take [p0, s1] h R := by kernel_rfl
theorem C_pool_Pool_Take {p0 s1 : Value} {h : Hp} {R : Value → Hp → Prop} (H : F_pool_Pool_Take (Sys.of Go.Proofs.Tryd.prog) ids p0 s1 h R) : (Sys.of Go.Proofs.Tryd.prog).C ids.f_pool_Pool_Take [p0, s1] h R :=
  cl_of_den Go.Proofs.Tryd.func43 (by kernel_rfl) mixed (E_pool_Pool_Take p0 s1 h R) H

def H_space_Space_Put : HT := (.s .z (.c .z .z))
theorem E_space_Space_Put (s0 at1 v2 : Value) (h : Hp) (R : Value → Hp → Prop) : F_space_Space_Put (Sys.of Go.Proofs.Tryd.prog) ids s0 at1 v2 h R = denFn Go.Proofs.Tryd.prog Go.Proofs.Tryd.f44 H_space_Space_Put [s0, at1, v2] h R := by kernel_rfl
theorem C_space_Space_Put {s0 at1 v2 : Value} {h : Hp} {R : Value → Hp → Prop} (H : F_space_Space_Put (Sys.of Go.Proofs.Tryd.prog) ids s0 at1 v2 h R) : (Sys.of Go.Proofs.Tryd.prog).C ids.f_space_Space_Put [s0, at1, v2] h R :=
  cl_of_den Go.Proofs.Tryd.func44 (by kernel_rfl) mixed (E_space_Space_Put s0 at1 v2 h R) H

def H_stack_more : HT := (.s .z .z)
theorem E_stack_more (s0 root1 n2 : Value) (h : Hp) (R : Value → Hp → Prop) : F_stack_more (Sys.of Go.Proofs.Tryd.prog) ids s0 root1 n2 h R = denFn Go.Proofs.Tryd.prog Go.Proofs.Tryd.f45 H_stack_more [s0, root1, n2] h R := by kernel_rfl
theorem C_stack_more {s0 root1 n2 : Value} {h : Hp} {R : Value → Hp → Prop} (H : F_stack_more (Sys.of Go.Proofs.Tryd.prog) ids s0 root1 n2 h R) : (Sys.of Go.Proofs.Tryd.prog).C ids.f_stack_more [s0, root1, n2] h R :=
  cl_of_den Go.Proofs.Tryd.func45 (by kernel_rfl) mixed (E_stack_more s0 root1 n2 h R) H

def H_pool_Pool_Give : HT := (.s .z (.s (.s .z (.s .z (.c (.s .z .z) .z))) (.s .z (.s .z (.s .z (.s .z .z))))))
theorem E_pool_Pool_Give (p0 s1 at2 : Value) (h : Hp) (R : Value → Hp → Prop) : F_pool_Pool_Give (Sys.of Go.Proofs.Tryd.prog) ids p0 s1 at2 h R = denFn Go.Proofs.Tryd.prog Go.Proofs.Tryd.f46 H_pool_Pool_Give [p0, s1, at2] h R := by kernel_rfl
theorem C_pool_Pool_Give {p0 s1 at2 : Value} {h : Hp} {R : Value → Hp → Prop} (H : F_pool_Pool_Give (Sys.of Go.Proofs.Tryd.prog) ids p0 s1 at2 h R) : (Sys.of Go.Proofs.Tryd.prog).C ids.f_pool_Pool_Give [p0, s1, at2] h R :=
  cl_of_den Go.Proofs.Tryd.func46 (by kernel_rfl) mixed (E_pool_Pool_Give p0 s1 at2 h R) H

def H_pool_Pool_Check : HT := (.s .z (.s (.b (.j [3] [1, 58] .z (.c (.s .z .z) (.j [22] [1, 58] .z (.c (.s .z .z) (.j [35] [58] .z (.c (.s .z .z) .z))))))) (.s .z .z)))
theorem E_pool_Pool_Check (p0 : Value) (h : Hp) (R : Value → Hp → Prop) : F_pool_Pool_Check (Sys.of Go.Proofs.Tryd.prog) ids p0 h R = denFn Go.Proofs.Tryd.prog Go.Proofs.Tryd.f47 H_pool_Pool_Check [p0] h R := by kernel_rfl
theorem C_pool_Pool_Check {p0 : Value} {h : Hp} {R : Value → Hp → Prop} (H : F_pool_Pool_Check (Sys.of Go.Proofs.Tryd.prog) ids p0 h R) : (Sys.of Go.Proofs.Tryd.prog).C ids.f_pool_Pool_Check [p0] h R :=
  cl_of_den Go.Proofs.Tryd.func47 (by kernel_rfl) mixed (E_pool_Pool_Check p0 h R) H

def H_simulcastlaw33_is_1 : HT := .z
theorem E_simulcastlaw33_is_1 (s0 : Value) (h : Hp) (R : Value → Hp → Prop) : F_simulcastlaw33_is_1 (Sys.of Go.Proofs.Tryd.prog) ids s0 h R = denFn Go.Proofs.Tryd.prog Go.Proofs.Tryd.f48 H_simulcastlaw33_is_1 [s0] h R := by kernel_rfl
theorem C_simulcastlaw33_is_1 {s0 : Value} {h : Hp} {R : Value → Hp → Prop} (H : F_simulcastlaw33_is_1 (Sys.of Go.Proofs.Tryd.prog) ids s0 h R) : (Sys.of Go.Proofs.Tryd.prog).C ids.f_simulcastlaw33_is_1 [s0] h R :=
  cl_of_den Go.Proofs.Tryd.func48 (by kernel_rfl) mixed (E_simulcastlaw33_is_1 s0 h R) H

def H_simulcastlaw33_is_2 : HT := (.s .z (.s .z (.s .z (.o (oc [0, 1, 2, 3, 4, 5, 6, 7, 8, 9, 10, 11, 12, 13, 14, 15, 16, 17, 18, 19, 20, 21, 22, 23, 24, 25, 26, 28, 29, 30, 31, 32, 27, 33, 34, 35, 36, 37, 38, 40, 41, 42, 43, 44, 39, 45, 46, 47, 48, 49, 50, 51, 52, 53] .nil)))))
theorem E_simulcastlaw33_is_2 (s0 v1 v2 v3 v4 : Value) (h : Hp) (R : Value → Hp → Prop) : F_simulcastlaw33_is_2 (Sys.of Go.Proofs.Tryd.prog) ids s0 v1 v2 v3 v4 h R = denFn Go.Proofs.Tryd.prog Go.Proofs.Tryd.f49 H_simulcastlaw33_is_2 [s0, v1, v2, v3, v4] h R := by kernel_rfl
theorem C_simulcastlaw33_is_2 {s0 v1 v2 v3 v4 : Value} {h : Hp} {R : Value → Hp → Prop} (H : F_simulcastlaw33_is_2 (Sys.of Go.Proofs.Tryd.prog) ids s0 v1 v2 v3 v4 h R) : (Sys.of Go.Proofs.Tryd.prog).C ids.f_simulcastlaw33_is_2 [s0, v1, v2, v3, v4] h R :=
  cl_of_den Go.Proofs.Tryd.func49 (by kernel_rfl) mixed (E_simulcastlaw33_is_2 s0 v1 v2 v3 v4 h R) H

def H_stack_Top : HT := (.s .z (.s .z (.s (.s .z (.c (.s .z .z) .z)) (.s .z .z))))
theorem E_stack_Top (s0 root1 : Value) (h : Hp) (R : Value → Hp → Prop) : F_stack_Top (Sys.of Go.Proofs.Tryd.prog) ids s0 root1 h R = denFn Go.Proofs.Tryd.prog Go.Proofs.Tryd.f50 H_stack_Top [s0, root1] h R := by kernel_rfl
theorem C_stack_Top {s0 root1 : Value} {h : Hp} {R : Value → Hp → Prop} (H : F_stack_Top (Sys.of Go.Proofs.Tryd.prog) ids s0 root1 h R) : (Sys.of Go.Proofs.Tryd.prog).C ids.f_stack_Top [s0, root1] h R :=
  cl_of_den Go.Proofs.Tryd.func50 (by kernel_rfl) mixed (E_stack_Top s0 root1 h R) H

def H_simulcastref33_Walk : HT := (.s .z (.s .z (.s (.s .z (.b (.l [3, 4] [0, 20] (.s (.s .z (.c .z .z)) (.s (.b .z) .z))))) (.s .z .z))))
theorem E_simulcastref33_Walk (l0 : Value) (h : Hp) (R : Value → Hp → Prop) : F_simulcastref33_Walk (Sys.of Go.Proofs.Tryd.prog) ids l0 h R = denFn Go.Proofs.Tryd.prog Go.Proofs.Tryd.f51 H_simulcastref33_Walk [l0] h R := by kernel_rfl
theorem C_simulcastref33_Walk {l0 : Value} {h : Hp} {R : Value → Hp → Prop} (H : F_simulcastref33_Walk (Sys.of Go.Proofs.Tryd.prog) ids l0 h R) : (Sys.of Go.Proofs.Tryd.prog).C ids.f_simulcastref33_Walk [l0] h R :=
  cl_of_den Go.Proofs.Tryd.func51 (by kernel_rfl) mixed (E_simulcastref33_Walk l0 h R) H

def H_stack_Len : HT := (.s .z (.s .z .z))
theorem E_stack_Len (s0 root1 : Value) (h : Hp) (R : Value → Hp → Prop) : F_stack_Len (Sys.of Go.Proofs.Tryd.prog) ids s0 root1 h R = denFn Go.Proofs.Tryd.prog Go.Proofs.Tryd.f52 H_stack_Len [s0, root1] h R := by kernel_rfl
theorem C_stack_Len {s0 root1 : Value} {h : Hp} {R : Value → Hp → Prop} (H : F_stack_Len (Sys.of Go.Proofs.Tryd.prog) ids s0 root1 h R) : (Sys.of Go.Proofs.Tryd.prog).C ids.f_stack_Len [s0, root1] h R :=
  cl_of_den Go.Proofs.Tryd.func52 (by kernel_rfl) mixed (E_stack_Len s0 root1 h R) H

def H_space_Space_Reads : HT := (.s .z (.s .z (.s (.s .z (.c (.s .z .z) .z)) (.s (.s .z (.b (.l [3] [12, 24] (.s .z (.s (.c .z .z) (.b (.s .z .z))))))) (.s .z (.s .z .z))))))
theorem E_space_Space_Reads (s0 : Value) (h : Hp) (R : Value → Hp → Prop) : F_space_Space_Reads (Sys.of Go.Proofs.Tryd.prog) ids s0 h R = denFn Go.Proofs.Tryd.prog Go.Proofs.Tryd.f53 H_space_Space_Reads [s0] h R := by kernel_rfl
theorem C_space_Space_Reads {s0 : Value} {h : Hp} {R : Value → Hp → Prop} (H : F_space_Space_Reads (Sys.of Go.Proofs.Tryd.prog) ids s0 h R) : (Sys.of Go.Proofs.Tryd.prog).C ids.f_space_Space_Reads [s0] h R :=
  cl_of_den Go.Proofs.Tryd.func53 (by kernel_rfl) mixed (E_space_Space_Reads s0 h R) H

def H_space_Space_value : HT := (.s .z (.s (.s .z (.s .z (.c (.s .z .z) .z))) (.s .z .z)))
theorem E_space_Space_value (s0 at1 : Value) (h : Hp) (R : Value → Hp → Prop) : F_space_Space_value (Sys.of Go.Proofs.Tryd.prog) ids s0 at1 h R = denFn Go.Proofs.Tryd.prog Go.Proofs.Tryd.f54 H_space_Space_value [s0, at1] h R := by kernel_rfl
theorem C_space_Space_value {s0 at1 : Value} {h : Hp} {R : Value → Hp → Prop} (H : F_space_Space_value (Sys.of Go.Proofs.Tryd.prog) ids s0 at1 h R) : (Sys.of Go.Proofs.Tryd.prog).C ids.f_space_Space_value [s0, at1] h R :=
  cl_of_den Go.Proofs.Tryd.func54 (by kernel_rfl) mixed (E_space_Space_value s0 at1 h R) H

def H_entry_Check : HT := (.s .z (.s (.b (.s .z (.c (.s .z .z) (.s .z (.c (.s .z .z) .z))))) (.s (.s .z (.b (.l [16] [0, 14, 15, 32] (.s .z (.s (.c .z .z) (.s (.b (.s .z (.s (.s .z (.s .z (.c (.s .z .z) .z))) (.s .z (.c (.s .z .z) .z))))) .z)))))) (.s .z .z))))
theorem E_entry_Check (l0 : Value) (h : Hp) (R : Value → Hp → Prop) : F_entry_Check (Sys.of Go.Proofs.Tryd.prog) ids l0 h R = denFn Go.Proofs.Tryd.prog Go.Proofs.Tryd.f55 H_entry_Check [l0] h R := by kernel_rfl
theorem C_entry_Check {l0 : Value} {h : Hp} {R : Value → Hp → Prop} (H : F_entry_Check (Sys.of Go.Proofs.Tryd.prog) ids l0 h R) : (Sys.of Go.Proofs.Tryd.prog).C ids.f_entry_Check [l0] h R :=
  cl_of_den Go.Proofs.Tryd.func55 (by kernel_rfl) mixed (E_entry_Check l0 h R) H

def H_slices_Sort_api_Loc_api_Loc : HT := (.s .z .z)
theorem E_slices_Sort_api_Loc_api_Loc (x0 : Value) (h : Hp) (R : Value → Hp → Prop) : F_slices_Sort_api_Loc_api_Loc (Sys.of Go.Proofs.Tryd.prog) ids x0 h R = denFn Go.Proofs.Tryd.prog Go.Proofs.Tryd.f56 H_slices_Sort_api_Loc_api_Loc [x0] h R := by kernel_rfl
theorem C_slices_Sort_api_Loc_api_Loc {x0 : Value} {h : Hp} {R : Value → Hp → Prop} (H : F_slices_Sort_api_Loc_api_Loc (Sys.of Go.Proofs.Tryd.prog) ids x0 h R) : (Sys.of Go.Proofs.Tryd.prog).C ids.f_slices_Sort_api_Loc_api_Loc [x0] h R :=
  cl_of_den Go.Proofs.Tryd.func56 (by kernel_rfl) mixed (E_slices_Sort_api_Loc_api_Loc x0 h R) H

def H_slices_Compact_api_Loc_api_Loc : HT := (.s .z (.s (.s .z (.c (.s .z .z) .z)) (.s (.s .z (.b (.l [3] [0, 61] (.s (.s .z (.c .z .z)) (.s (.b (.s (.o (oc [0, 1, 2, 3, 4, 5, 6, 7, 8, 9] .nil)) (.c (.s .z (.s (.s .z (.b (.l [3, 5] [0, 4, 61] (.s (.s .z (.c .z .z)) (.j [3] [0, 4, 5, 61] (.b (.s (.o (oc [0, 1, 2, 3, 4, 5, 6, 7, 8, 9] .nil)) (.c (.s .z .z) .z))) .z))))) (.s .z (.s .z .z)))) .z))) .z))))) (.s .z .z))))
theorem E_slices_Compact_api_Loc_api_Loc (s0 : Value) (h : Hp) (R : Value → Hp → Prop) : F_slices_Compact_api_Loc_api_Loc (Sys.of Go.Proofs.Tryd.prog) ids s0 h R = denFn Go.Proofs.Tryd.prog Go.Proofs.Tryd.f57 H_slices_Compact_api_Loc_api_Loc [s0] h R := by kernel_rfl
theorem C_slices_Compact_api_Loc_api_Loc {s0 : Value} {h : Hp} {R : Value → Hp → Prop} (H : F_slices_Compact_api_Loc_api_Loc (Sys.of Go.Proofs.Tryd.prog) ids s0 h R) : (Sys.of Go.Proofs.Tryd.prog).C ids.f_slices_Compact_api_Loc_api_Loc [s0] h R :=
  cl_of_den Go.Proofs.Tryd.func57 (by kernel_rfl) mixed (E_slices_Compact_api_Loc_api_Loc s0 h R) H

def H_space_Space_reads : HT := (.s .z (.s (.s .z (.c (.s .z .z) .z)) (.s (.s .z (.s .z (.c (.s .z (.s .z .z)) .z))) (.s .z (.s .z .z)))))
theorem E_space_Space_reads (s0 at1 : Value) (h : Hp) (R : Value → Hp → Prop) : F_space_Space_reads (Sys.of Go.Proofs.Tryd.prog) ids s0 at1 h R = denFn Go.Proofs.Tryd.prog Go.Proofs.Tryd.f58 H_space_Space_reads [s0, at1] h R := by kernel_rfl
theorem C_space_Space_reads {s0 at1 : Value} {h : Hp} {R : Value → Hp → Prop} (H : F_space_Space_reads (Sys.of Go.Proofs.Tryd.prog) ids s0 at1 h R) : (Sys.of Go.Proofs.Tryd.prog).C ids.f_space_Space_reads [s0, at1] h R :=
  cl_of_den Go.Proofs.Tryd.func58 (by kernel_rfl) mixed (E_space_Space_reads s0 at1 h R) H

def H_space_Space_Back : HT := (.j [19] [0, 1, 30] .z (.c .z .z))
theorem E_space_Space_Back (s0 mark1 : Value) (h : Hp) (R : Value → Hp → Prop) : F_space_Space_Back (Sys.of Go.Proofs.Tryd.prog) ids s0 mark1 h R = denFn Go.Proofs.Tryd.prog Go.Proofs.Tryd.f59 H_space_Space_Back [s0, mark1] h R := by kernel_rfl
theorem C_space_Space_Back {s0 mark1 : Value} {h : Hp} {R : Value → Hp → Prop} (H : F_space_Space_Back (Sys.of Go.Proofs.Tryd.prog) ids s0 mark1 h R) : (Sys.of Go.Proofs.Tryd.prog).C ids.f_space_Space_Back [s0, mark1] h R :=
  cl_of_den Go.Proofs.Tryd.func59 (by kernel_rfl) mixed (E_space_Space_Back s0 mark1 h R) H

def H_pool_Pool_add : HT := (.s .z (.o (oc [0, 1, 2, 3, 4, 5, 6, 7, 8, 9, 11, 10, 12, 13] .nil)))
theorem E_pool_Pool_add (p0 s1 count2 n3 : Value) (h : Hp) (R : Value → Hp → Prop) : F_pool_Pool_add (Sys.of Go.Proofs.Tryd.prog) ids p0 s1 count2 n3 h R = denFn Go.Proofs.Tryd.prog Go.Proofs.Tryd.f60 H_pool_Pool_add [p0, s1, count2, n3] h R := by kernel_rfl
theorem C_pool_Pool_add {p0 s1 count2 n3 : Value} {h : Hp} {R : Value → Hp → Prop} (H : F_pool_Pool_add (Sys.of Go.Proofs.Tryd.prog) ids p0 s1 count2 n3 h R) : (Sys.of Go.Proofs.Tryd.prog).C ids.f_pool_Pool_add [p0, s1, count2, n3] h R :=
  cl_of_den Go.Proofs.Tryd.func60 (by kernel_rfl) mixed (E_pool_Pool_add p0 s1 count2 n3 h R) H

def H_space_Space_last : HT := (.s .z (.s (.s .z (.b (.l [5] [0, 1, 27] (.s (.s .z (.c .z .z)) (.s (.b (.s .z (.c (.s .z .z) .z))) .z))))) (.s .z .z)))
theorem E_space_Space_last (s0 at1 : Value) (h : Hp) (R : Value → Hp → Prop) : F_space_Space_last (Sys.of Go.Proofs.Tryd.prog) ids s0 at1 h R = denFn Go.Proofs.Tryd.prog Go.Proofs.Tryd.f61 H_space_Space_last [s0, at1] h R := by kernel_rfl
theorem C_space_Space_last {s0 at1 : Value} {h : Hp} {R : Value → Hp → Prop} (H : F_space_Space_last (Sys.of Go.Proofs.Tryd.prog) ids s0 at1 h R) : (Sys.of Go.Proofs.Tryd.prog).C ids.f_space_Space_last [s0, at1] h R :=
  cl_of_den Go.Proofs.Tryd.func61 (by kernel_rfl) mixed (E_space_Space_last s0 at1 h R) H

def H_entry_wrong : HT := (.s .z (.s (.b (.j [3] [1, 38] .z (.c (.s .z .z) (.s .z (.c (.s .z .z) (.j [17] [1, 38] .z (.c (.s .z .z) (.j [26] [38] .z (.c (.s .z .z) .z))))))))) (.s .z .z)))
theorem E_entry_wrong (x0 : Value) (h : Hp) (R : Value → Hp → Prop) : F_entry_wrong (Sys.of Go.Proofs.Tryd.prog) ids x0 h R = denFn Go.Proofs.Tryd.prog Go.Proofs.Tryd.f62 H_entry_wrong [x0] h R := by kernel_rfl
theorem C_entry_wrong {x0 : Value} {h : Hp} {R : Value → Hp → Prop} (H : F_entry_wrong (Sys.of Go.Proofs.Tryd.prog) ids x0 h R) : (Sys.of Go.Proofs.Tryd.prog).C ids.f_entry_wrong [x0] h R :=
  cl_of_den Go.Proofs.Tryd.func62 (by kernel_rfl) mixed (E_entry_wrong x0 h R) H

def H_slices_ContainsFunc_api_Entry_api_Entry : HT := (.s .z (.s .z .z))
theorem E_slices_ContainsFunc_api_Entry_api_Entry (s0 f1 : Value) (h : Hp) (R : Value → Hp → Prop) : F_slices_ContainsFunc_api_Entry_api_Entry (Sys.of Go.Proofs.Tryd.prog) ids s0 f1 h R = denFn Go.Proofs.Tryd.prog Go.Proofs.Tryd.f63 H_slices_ContainsFunc_api_Entry_api_Entry [s0, f1] h R := by kernel_rfl
theorem C_slices_ContainsFunc_api_Entry_api_Entry {s0 f1 : Value} {h : Hp} {R : Value → Hp → Prop} (H : F_slices_ContainsFunc_api_Entry_api_Entry (Sys.of Go.Proofs.Tryd.prog) ids s0 f1 h R) : (Sys.of Go.Proofs.Tryd.prog).C ids.f_slices_ContainsFunc_api_Entry_api_Entry [s0, f1] h R :=
  cl_of_den Go.Proofs.Tryd.func63 (by kernel_rfl) mixed (E_slices_ContainsFunc_api_Entry_api_Entry s0 f1 h R) H

def H_entry_Check_1 : HT := (.s .z (.s .z .z))
theorem E_entry_Check_1 (y0 v1 : Value) (h : Hp) (R : Value → Hp → Prop) : F_entry_Check_1 (Sys.of Go.Proofs.Tryd.prog) ids y0 v1 h R = denFn Go.Proofs.Tryd.prog Go.Proofs.Tryd.f64 H_entry_Check_1 [y0, v1] h R := by kernel_rfl
theorem C_entry_Check_1 {y0 v1 : Value} {h : Hp} {R : Value → Hp → Prop} (H : F_entry_Check_1 (Sys.of Go.Proofs.Tryd.prog) ids y0 v1 h R) : (Sys.of Go.Proofs.Tryd.prog).C ids.f_entry_Check_1 [y0, v1] h R :=
  cl_of_den Go.Proofs.Tryd.func64 (by kernel_rfl) mixed (E_entry_Check_1 y0 v1 h R) H

def H_slices_pdqsortOrdered_api_Loc : HT := (.s .z (.s .z (.b (.l [1, 2, 3, 8, 9] [0, 134] (.b (.s .z (.s (.s .z (.c (.s .z .z) .z)) (.s (.s .z (.c (.s .z .z) .z)) (.j [3] [0, 1, 2, 8, 9, 10, 134] (.s .z (.c (.s .z .z) .z)) (.s .z (.j [11, 12] [0, 1, 2, 3, 8, 9, 10, 134] (.s .z (.c (.s .z (.s .z .z)) .z)) (.j [] [0, 1, 2, 3, 8, 9, 10, 11, 134] (.j [68] [0, 1, 2, 3, 8, 9, 10, 11, 134] .z (.c (.s .z (.c .z .z)) .z)) (.s (.j [87] [0, 1, 2, 3, 8, 9, 10, 11, 134] (.o (oc [0, 1, 2, 3, 4, 5, 6, 7, 8, 9, 10, 11, 12, 13, 14] .nil)) (.c (.s .z (.s .z .z)) .z)) (.s .z (.s .z (.s .z (.s .z (.s .z (.c (.s .z (.s .z .z)) (.s .z (.s .z .z)))))))))))))))))))))
theorem E_slices_pdqsortOrdered_api_Loc (data0 a1 b2 limit3 : Value) (h : Hp) (R : Value → Hp → Prop) : F_slices_pdqsortOrdered_api_Loc (Sys.of Go.Proofs.Tryd.prog) ids data0 a1 b2 limit3 h R = denFn Go.Proofs.Tryd.prog Go.Proofs.Tryd.f65 H_slices_pdqsortOrdered_api_Loc [data0, a1, b2, limit3] h R := by kernel_rfl
theorem C_slices_pdqsortOrdered_api_Loc {data0 a1 b2 limit3 : Value} {h : Hp} {R : Value → Hp → Prop} (H : F_slices_pdqsortOrdered_api_Loc (Sys.of Go.Proofs.Tryd.prog) ids data0 a1 b2 limit3 h R) : (Sys.of Go.Proofs.Tryd.prog).C ids.f_slices_pdqsortOrdered_api_Loc [data0, a1, b2, limit3] h R :=
  cl_of_den Go.Proofs.Tryd.func65 (by kernel_rfl) mixed (E_slices_pdqsortOrdered_api_Loc data0 a1 b2 limit3 h R) H

def H_math_bits_Len : HT := (.s .z (.s (.c (.s .z .z) .z) (.s .z .z)))
theorem E_math_bits_Len (x0 : Value) (h : Hp) (R : Value → Hp → Prop) : F_math_bits_Len (Sys.of Go.Proofs.Tryd.prog) ids x0 h R = denFn Go.Proofs.Tryd.prog Go.Proofs.Tryd.f66 H_math_bits_Len [x0] h R := by kernel_rfl
theorem C_math_bits_Len {x0 : Value} {h : Hp} {R : Value → Hp → Prop} (H : F_math_bits_Len (Sys.of Go.Proofs.Tryd.prog) ids x0 h R) : (Sys.of Go.Proofs.Tryd.prog).C ids.f_math_bits_Len [x0] h R :=
  cl_of_den Go.Proofs.Tryd.func66 (by kernel_rfl) mixed (E_math_bits_Len x0 h R) H

def H_word_Plain : HT := (.s .z (.s .z .z))
theorem E_word_Plain (w0 : Value) (h : Hp) (R : Value → Hp → Prop) : F_word_Plain (Sys.of Go.Proofs.Tryd.prog) ids w0 h R = denFn Go.Proofs.Tryd.prog Go.Proofs.Tryd.f67 H_word_Plain [w0] h R := by kernel_rfl
theorem C_word_Plain {w0 : Value} {h : Hp} {R : Value → Hp → Prop} (H : F_word_Plain (Sys.of Go.Proofs.Tryd.prog) ids w0 h R) : (Sys.of Go.Proofs.Tryd.prog).C ids.f_word_Plain [w0] h R :=
  cl_of_den Go.Proofs.Tryd.func67 (by kernel_rfl) mixed (E_word_Plain w0 h R) H

def H_slices_IndexFunc_api_Entry_api_Entry : HT := (.s .z (.s (.s .z (.b (.l [8] [0, 1, 7, 19] (.s .z (.s (.c .z .z) (.s (.b (.s .z (.s .z (.c (.s .z .z) .z)))) .z)))))) (.s .z .z)))
theorem E_slices_IndexFunc_api_Entry_api_Entry (s0 f1 : Value) (h : Hp) (R : Value → Hp → Prop) : F_slices_IndexFunc_api_Entry_api_Entry (Sys.of Go.Proofs.Tryd.prog) ids s0 f1 h R = denFn Go.Proofs.Tryd.prog Go.Proofs.Tryd.f68 H_slices_IndexFunc_api_Entry_api_Entry [s0, f1] h R := by kernel_rfl
theorem C_slices_IndexFunc_api_Entry_api_Entry {s0 f1 : Value} {h : Hp} {R : Value → Hp → Prop} (H : F_slices_IndexFunc_api_Entry_api_Entry (Sys.of Go.Proofs.Tryd.prog) ids s0 f1 h R) : (Sys.of Go.Proofs.Tryd.prog).C ids.f_slices_IndexFunc_api_Entry_api_Entry [s0, f1] h R :=
  cl_of_den Go.Proofs.Tryd.func68 (by kernel_rfl) mixed (E_slices_IndexFunc_api_Entry_api_Entry s0 f1 h R) H

def H_slices_insertionSortOrdered_api_Loc : HT := (.s .z (.b (.l [6] [0, 1, 2, 49] (.s (.s .z (.c .z .z)) (.s (.b (.s .z (.b (.l [7] [0, 1, 2, 6, 49] (.s (.j [30] [0, 1, 2, 6, 7, 49] (.o (oc [0, 1, 2, 3, 4, 5, 6, 7, 8, 9, 10, 11, 12, 13, 14] .nil)) (.c .z .z)) (.s (.b (.o (oc [0, 1, 2, 3, 4, 5, 6, 7, 8, 9, 10, 11, 12, 13, 14, 15, 16, 17] .nil))) .z)))))) .z)))))
theorem E_slices_insertionSortOrdered_api_Loc (data0 a1 b2 : Value) (h : Hp) (R : Value → Hp → Prop) : F_slices_insertionSortOrdered_api_Loc (Sys.of Go.Proofs.Tryd.prog) ids data0 a1 b2 h R = denFn Go.Proofs.Tryd.prog Go.Proofs.Tryd.f69 H_slices_insertionSortOrdered_api_Loc [data0, a1, b2] h R := by kernel_rfl
theorem C_slices_insertionSortOrdered_api_Loc {data0 a1 b2 : Value} {h : Hp} {R : Value → Hp → Prop} (H : F_slices_insertionSortOrdered_api_Loc (Sys.of Go.Proofs.Tryd.prog) ids data0 a1 b2 h R) : (Sys.of Go.Proofs.Tryd.prog).C ids.f_slices_insertionSortOrdered_api_Loc [data0, a1, b2] h R :=
  cl_of_den Go.Proofs.Tryd.func69 (by kernel_rfl) mixed (E_slices_insertionSortOrdered_api_Loc data0 a1 b2 h R) H

def H_slices_heapSortOrdered_api_Loc : HT := (.s .z (.s .z (.s .z (.s (.s .z (.b (.l [9] [0, 6, 7, 8, 56] (.s (.s .z (.c .z .z)) (.s (.b .z) .z))))) (.s .z (.b (.l [10] [0, 6, 7, 56] (.s (.s .z (.c .z .z)) (.s (.b (.s (.o (oc [0, 1, 2, 3, 4, 5, 6, 7, 8, 9, 10, 11, 12, 13, 14, 15, 16, 17, 18, 19] .nil)) .z)) .z)))))))))
theorem E_slices_heapSortOrdered_api_Loc (data0 a1 b2 : Value) (h : Hp) (R : Value → Hp → Prop) : F_slices_heapSortOrdered_api_Loc (Sys.of Go.Proofs.Tryd.prog) ids data0 a1 b2 h R = denFn Go.Proofs.Tryd.prog Go.Proofs.Tryd.f70 H_slices_heapSortOrdered_api_Loc [data0, a1, b2] h R := by kernel_rfl
theorem C_slices_heapSortOrdered_api_Loc {data0 a1 b2 : Value} {h : Hp} {R : Value → Hp → Prop} (H : F_slices_heapSortOrdered_api_Loc (Sys.of Go.Proofs.Tryd.prog) ids data0 a1 b2 h R) : (Sys.of Go.Proofs.Tryd.prog).C ids.f_slices_heapSortOrdered_api_Loc [data0, a1, b2] h R :=
  cl_of_den Go.Proofs.Tryd.func70 (by kernel_rfl) mixed (E_slices_heapSortOrdered_api_Loc data0 a1 b2 h R) H

def H_slices_breakPatternsOrdered_api_Loc : HT := (.s .z (.s .z (.c (.s .z (.s .z (.s .z (.b (.l [9] [0, 1, 6, 7, 8, 65] (.s (.s .z (.c .z .z)) (.s (.b (.s .z (.j [10] [0, 1, 6, 7, 8, 9, 65] (.s .z (.c .z .z)) (.o (oc [0, 1, 2, 3, 4, 5, 6, 7, 8, 9, 10, 11, 12, 13, 14, 15, 16, 17, 18, 19] .nil))))) .z))))))) .z)))
theorem E_slices_breakPatternsOrdered_api_Loc (data0 a1 b2 : Value) (h : Hp) (R : Value → Hp → Prop) : F_slices_breakPatternsOrdered_api_Loc (Sys.of Go.Proofs.Tryd.prog) ids data0 a1 b2 h R = denFn Go.Proofs.Tryd.prog Go.Proofs.Tryd.f71 H_slices_breakPatternsOrdered_api_Loc [data0, a1, b2] h R := by kernel_rfl
theorem C_slices_breakPatternsOrdered_api_Loc {data0 a1 b2 : Value} {h : Hp} {R : Value → Hp → Prop} (H : F_slices_breakPatternsOrdered_api_Loc (Sys.of Go.Proofs.Tryd.prog) ids data0 a1 b2 h R) : (Sys.of Go.Proofs.Tryd.prog).C ids.f_slices_breakPatternsOrdered_api_Loc [data0, a1, b2] h R :=
  cl_of_den Go.Proofs.Tryd.func71 (by kernel_rfl) mixed (E_slices_breakPatternsOrdered_api_Loc data0 a1 b2 h R) H

def H_slices_choosePivotOrdered_api_Loc : HT := (.s .z (.s .z (.s .z (.s .z (.s .z (.s .z (.j [11] [9, 57] (.s .z (.c (.j [10, 11, 12] [0, 9, 57] (.s .z (.c (.s .z (.s .z .z)) .z)) .z) .z)) (.s .z (.b (.s .z (.c (.s .z .z) (.s .z (.c (.s .z .z) (.s .z .z))))))))))))))
theorem E_slices_choosePivotOrdered_api_Loc (data0 a1 b2 : Value) (h : Hp) (R : Value → Hp → Prop) : F_slices_choosePivotOrdered_api_Loc (Sys.of Go.Proofs.Tryd.prog) ids data0 a1 b2 h R = denFn Go.Proofs.Tryd.prog Go.Proofs.Tryd.f72 H_slices_choosePivotOrdered_api_Loc [data0, a1, b2] h R := by kernel_rfl
theorem C_slices_choosePivotOrdered_api_Loc {data0 a1 b2 : Value} {h : Hp} {R : Value → Hp → Prop} (H : F_slices_choosePivotOrdered_api_Loc (Sys.of Go.Proofs.Tryd.prog) ids data0 a1 b2 h R) : (Sys.of Go.Proofs.Tryd.prog).C ids.f_slices_choosePivotOrdered_api_Loc [data0, a1, b2] h R :=
  cl_of_den Go.Proofs.Tryd.func72 (by kernel_rfl) mixed (E_slices_choosePivotOrdered_api_Loc data0 a1 b2 h R) H

def H_slices_reverseRangeOrdered_api_Loc : HT := (.s .z (.s .z (.b (.l [6, 7] [0, 32] (.s (.s .z (.c .z .z)) (.b (.s (.o (oc [0, 1, 2, 3, 4, 5, 6, 7, 8, 9, 10, 11, 12, 13, 14, 15] .nil)) (.s .z .z))))))))
theorem E_slices_reverseRangeOrdered_api_Loc (data0 a1 b2 : Value) (h : Hp) (R : Value → Hp → Prop) : F_slices_reverseRangeOrdered_api_Loc (Sys.of Go.Proofs.Tryd.prog) ids data0 a1 b2 h R = denFn Go.Proofs.Tryd.prog Go.Proofs.Tryd.f73 H_slices_reverseRangeOrdered_api_Loc [data0, a1, b2] h R := by kernel_rfl
theorem C_slices_reverseRangeOrdered_api_Loc {data0 a1 b2 : Value} {h : Hp} {R : Value → Hp → Prop} (H : F_slices_reverseRangeOrdered_api_Loc (Sys.of Go.Proofs.Tryd.prog) ids data0 a1 b2 h R) : (Sys.of Go.Proofs.Tryd.prog).C ids.f_slices_reverseRangeOrdered_api_Loc [data0, a1, b2] h R :=
  cl_of_den Go.Proofs.Tryd.func73 (by kernel_rfl) mixed (E_slices_reverseRangeOrdered_api_Loc data0 a1 b2 h R) H

def H_slices_partialInsertionSortOrdered_api_Loc : HT := (.s .z (.s .z (.s (.s .z (.b (.l [7, 8] [0, 1, 2, 133] (.s (.s .z (.c .z .z)) (.j [7] [0, 1, 2, 8, 133] (.b (.s (.b (.l [7] [0, 1, 2, 8, 133] (.s (.j [32] [0, 1, 2, 7, 8, 133] (.o (oc [0, 1, 2, 3, 4, 5, 6, 7, 8, 9, 10, 11, 12, 13, 14, 15] .nil)) (.c .z .z)) (.b .z)))) (.s (.s .z (.c (.s .z .z) .z)) (.s (.s .z (.c (.s .z .z) .z)) (.s (.o (oc [0, 1, 2, 3, 4, 5, 6, 7, 8, 9, 10, 11, 12, 13, 14, 15, 16, 17] .nil)) (.j [] [0, 1, 2, 7, 8, 133] (.s .z (.c (.s .z (.b (.l [9] [0, 1, 2, 7, 8, 133] (.s (.s .z (.c .z .z)) (.s (.b (.s (.s (.o (oc [0, 1, 2, 3, 4, 5, 6, 7, 8, 9, 10] .nil)) (.c .z .z)) (.o (oc [0, 1, 2, 3, 4, 5, 6, 7, 8, 9, 10, 11, 12, 13, 14, 15, 16, 17] .nil)))) .z))))) .z)) (.s .z (.c (.s .z (.b (.l [10] [0, 1, 2, 7, 8, 133] (.s (.s .z (.c .z .z)) (.s (.b (.s (.s (.o (oc [0, 1, 2, 3, 4, 5, 6, 7, 8, 9, 10] .nil)) (.c .z .z)) (.o (oc [0, 1, 2, 3, 4, 5, 6, 7, 8, 9, 10, 11, 12, 13, 14, 15, 16, 17] .nil)))) .z))))) .z)))))))) .z))))) (.s .z .z))))
theorem E_slices_partialInsertionSortOrdered_api_Loc (data0 a1 b2 : Value) (h : Hp) (R : Value → Hp → Prop) : F_slices_partialInsertionSortOrdered_api_Loc (Sys.of Go.Proofs.Tryd.prog) ids data0 a1 b2 h R = denFn Go.Proofs.Tryd.prog Go.Proofs.Tryd.f74 H_slices_partialInsertionSortOrdered_api_Loc [data0, a1, b2] h R := by kernel_rfl
theorem C_slices_partialInsertionSortOrdered_api_Loc {data0 a1 b2 : Value} {h : Hp} {R : Value → Hp → Prop} (H : F_slices_partialInsertionSortOrdered_api_Loc (Sys.of Go.Proofs.Tryd.prog) ids data0 a1 b2 h R) : (Sys.of Go.Proofs.Tryd.prog).C ids.f_slices_partialInsertionSortOrdered_api_Loc [data0, a1, b2] h R :=
  cl_of_den Go.Proofs.Tryd.func74 (by kernel_rfl) mixed (E_slices_partialInsertionSortOrdered_api_Loc data0 a1 b2 h R) H

def H_cmp_Less_api_Loc : HT := (.s .z (.j [4] [17] .z .z))
theorem E_cmp_Less_api_Loc (x0 y1 : Value) (h : Hp) (R : Value → Hp → Prop) : F_cmp_Less_api_Loc (Sys.of Go.Proofs.Tryd.prog) ids x0 y1 h R = denFn Go.Proofs.Tryd.prog Go.Proofs.Tryd.f75 H_cmp_Less_api_Loc [x0, y1] h R := by kernel_rfl
theorem C_cmp_Less_api_Loc {x0 y1 : Value} {h : Hp} {R : Value → Hp → Prop} (H : F_cmp_Less_api_Loc (Sys.of Go.Proofs.Tryd.prog) ids x0 y1 h R) : (Sys.of Go.Proofs.Tryd.prog).C ids.f_cmp_Less_api_Loc [x0, y1] h R :=
  cl_of_den Go.Proofs.Tryd.func75 (by kernel_rfl) mixed (E_cmp_Less_api_Loc x0 y1 h R) H

def H_slices_partitionEqualOrdered_api_Loc : HT := (.s .z (.s (.o (oc [0, 1, 2, 3, 4, 5, 6, 7, 8, 9, 10, 11, 12, 13, 14, 15] .nil)) (.s .z (.s (.b (.l [9, 10] [0, 1, 84] (.b (.s (.b (.l [9] [0, 1, 10, 84] (.s (.j [43] [0, 1, 9, 10, 84] (.o (oc [0, 1, 2, 3, 4, 5, 6, 7, 8, 9, 10, 11, 12, 13, 14] .nil)) (.c .z .z)) (.b .z)))) (.s (.b (.l [10] [0, 1, 9, 84] (.s (.j [59] [0, 1, 9, 10, 84] (.o (oc [0, 1, 2, 3, 4, 5, 6, 7, 8, 9, 10, 11, 12, 13] .nil)) (.c .z .z)) (.b .z)))) (.s (.s .z (.c .z .z)) (.s (.o (oc [0, 1, 2, 3, 4, 5, 6, 7, 8, 9, 10, 11, 12, 13, 14, 15] .nil)) (.s .z .z)))))))) (.s .z .z)))))
theorem E_slices_partitionEqualOrdered_api_Loc (data0 a1 b2 pivot3 : Value) (h : Hp) (R : Value → Hp → Prop) : F_slices_partitionEqualOrdered_api_Loc (Sys.of Go.Proofs.Tryd.prog) ids data0 a1 b2 pivot3 h R = denFn Go.Proofs.Tryd.prog Go.Proofs.Tryd.f76 H_slices_partitionEqualOrdered_api_Loc [data0, a1, b2, pivot3] h R := by kernel_rfl
theorem C_slices_partitionEqualOrdered_api_Loc {data0 a1 b2 pivot3 : Value} {h : Hp} {R : Value → Hp → Prop} (H : F_slices_partitionEqualOrdered_api_Loc (Sys.of Go.Proofs.Tryd.prog) ids data0 a1 b2 pivot3 h R) : (Sys.of Go.Proofs.Tryd.prog).C ids.f_slices_partitionEqualOrdered_api_Loc [data0, a1, b2, pivot3] h R :=
  cl_of_den Go.Proofs.Tryd.func76 (by kernel_rfl) mixed (E_slices_partitionEqualOrdered_api_Loc data0 a1 b2 pivot3 h R) H

def H_slices_partitionOrdered_api_Loc : HT := (.s .z (.s (.o (oc [0, 1, 2, 3, 4, 5, 6, 7, 8, 9, 10, 11, 12, 13, 14, 15] .nil)) (.s .z (.s (.b (.l [10] [0, 1, 11, 168] (.s (.j [43] [0, 1, 10, 11, 168] (.o (oc [0, 1, 2, 3, 4, 5, 6, 7, 8, 9, 10, 11, 12, 13] .nil)) (.c .z .z)) (.b .z)))) (.s (.b (.l [11] [0, 1, 10, 168] (.s (.j [60] [0, 1, 10, 11, 168] (.o (oc [0, 1, 2, 3, 4, 5, 6, 7, 8, 9, 10, 11, 12, 13, 14] .nil)) (.c .z .z)) (.b .z)))) (.s (.s .z (.c (.s (.o (oc [0, 1, 2, 3, 4, 5, 6, 7, 8, 9, 10, 11, 12, 13, 14, 15] .nil)) (.s .z .z)) .z)) (.s (.o (oc [0, 1, 2, 3, 4, 5, 6, 7, 8, 9, 10, 11, 12, 13, 14, 15] .nil)) (.s .z (.s .z (.s (.b (.l [10, 11] [0, 1, 168] (.b (.s (.b (.l [10] [0, 1, 11, 168] (.s (.j [112] [0, 1, 10, 11, 168] (.o (oc [0, 1, 2, 3, 4, 5, 6, 7, 8, 9, 10, 11, 12, 13] .nil)) (.c .z .z)) (.b .z)))) (.s (.b (.l [11] [0, 1, 10, 168] (.s (.j [129] [0, 1, 10, 11, 168] (.o (oc [0, 1, 2, 3, 4, 5, 6, 7, 8, 9, 10, 11, 12, 13, 14] .nil)) (.c .z .z)) (.b .z)))) (.s (.s .z (.c .z .z)) (.s (.o (oc [0, 1, 2, 3, 4, 5, 6, 7, 8, 9, 10, 11, 12, 13, 14, 15] .nil)) (.s .z .z)))))))) (.s (.o (oc [0, 1, 2, 3, 4, 5, 6, 7, 8, 9, 10, 11, 12, 13, 14, 15] .nil)) (.s .z .z))))))))))))
theorem E_slices_partitionOrdered_api_Loc (data0 a1 b2 pivot3 : Value) (h : Hp) (R : Value → Hp → Prop) : F_slices_partitionOrdered_api_Loc (Sys.of Go.Proofs.Tryd.prog) ids data0 a1 b2 pivot3 h R = denFn Go.Proofs.Tryd.prog Go.Proofs.Tryd.f77 H_slices_partitionOrdered_api_Loc [data0, a1, b2, pivot3] h R := by kernel_rfl
theorem C_slices_partitionOrdered_api_Loc {data0 a1 b2 pivot3 : Value} {h : Hp} {R : Value → Hp → Prop} (H : F_slices_partitionOrdered_api_Loc (Sys.of Go.Proofs.Tryd.prog) ids data0 a1 b2 pivot3 h R) : (Sys.of Go.Proofs.Tryd.prog).C ids.f_slices_partitionOrdered_api_Loc [data0, a1, b2, pivot3] h R :=
  cl_of_den Go.Proofs.Tryd.func77 (by kernel_rfl) mixed (E_slices_partitionOrdered_api_Loc data0 a1 b2 pivot3 h R) H

def H_math_bits_Len32 : HT := (.s .z (.j [0, 2] [19] (.s .z (.c (.s .z .z) .z)) (.j [0, 2] [19] (.s .z (.c (.s .z .z) .z)) (.s .z .z))))
theorem E_math_bits_Len32 (x0 : Value) (h : Hp) (R : Value → Hp → Prop) : F_math_bits_Len32 (Sys.of Go.Proofs.Tryd.prog) ids x0 h R = denFn Go.Proofs.Tryd.prog Go.Proofs.Tryd.f78 H_math_bits_Len32 [x0] h R := by kernel_rfl
theorem C_math_bits_Len32 {x0 : Value} {h : Hp} {R : Value → Hp → Prop} (H : F_math_bits_Len32 (Sys.of Go.Proofs.Tryd.prog) ids x0 h R) : (Sys.of Go.Proofs.Tryd.prog).C ids.f_math_bits_Len32 [x0] h R :=
  cl_of_den Go.Proofs.Tryd.func78 (by kernel_rfl) mixed (E_math_bits_Len32 x0 h R) H

def H_math_bits_Len64 : HT := (.s .z (.j [0, 2] [25] (.s .z (.c (.s .z .z) .z)) (.j [0, 2] [25] (.s .z (.c (.s .z .z) .z)) (.j [0, 2] [25] (.s .z (.c (.s .z .z) .z)) (.s .z .z)))))
theorem E_math_bits_Len64 (x0 : Value) (h : Hp) (R : Value → Hp → Prop) : F_math_bits_Len64 (Sys.of Go.Proofs.Tryd.prog) ids x0 h R = denFn Go.Proofs.Tryd.prog Go.Proofs.Tryd.f79 H_math_bits_Len64 [x0] h R := by kernel_rfl
theorem C_math_bits_Len64 {x0 : Value} {h : Hp} {R : Value → Hp → Prop} (H : F_math_bits_Len64 (Sys.of Go.Proofs.Tryd.prog) ids x0 h R) : (Sys.of Go.Proofs.Tryd.prog).C ids.f_math_bits_Len64 [x0] h R :=
  cl_of_den Go.Proofs.Tryd.func79 (by kernel_rfl) mixed (E_math_bits_Len64 x0 h R) H

def H_word_kind : HT := (.s .z (.s .z (.s (.b (.s .z (.c (.s .z .z) (.s .z (.c (.s .z .z) .z))))) (.s .z .z))))
theorem E_word_kind (w0 : Value) (h : Hp) (R : Value → Hp → Prop) : F_word_kind (Sys.of Go.Proofs.Tryd.prog) ids w0 h R = denFn Go.Proofs.Tryd.prog Go.Proofs.Tryd.f80 H_word_kind [w0] h R := by kernel_rfl
theorem C_word_kind {w0 : Value} {h : Hp} {R : Value → Hp → Prop} (H : F_word_kind (Sys.of Go.Proofs.Tryd.prog) ids w0 h R) : (Sys.of Go.Proofs.Tryd.prog).C ids.f_word_kind [w0] h R :=
  cl_of_den Go.Proofs.Tryd.func80 (by kernel_rfl) mixed (E_word_kind w0 h R) H

def H_slices_siftDownOrdered_api_Loc : HT := (.s .z (.b (.l [8] [0, 2, 3, 76] (.b (.s .z (.s (.s .z (.c .z .z)) (.j [9] [0, 2, 3, 8, 76] (.j [36] [0, 2, 3, 8, 9, 76] (.o (oc [0, 1, 2, 3, 4, 5, 6, 7, 8, 9, 10, 11, 12, 13, 14, 15, 16, 17, 18, 19] .nil)) (.c .z .z)) (.s (.s (.o (oc [0, 1, 2, 3, 4, 5, 6, 7, 8, 9, 10, 11, 12, 13] .nil)) (.c .z .z)) (.s (.o (oc [0, 1, 2, 3, 4, 5, 6, 7, 8, 9, 10, 11, 12, 13, 14, 15, 16, 17, 18, 19, 20, 21, 22, 23] .nil)) .z)))))))))
theorem E_slices_siftDownOrdered_api_Loc (data0 lo1 hi2 first3 : Value) (h : Hp) (R : Value → Hp → Prop) : F_slices_siftDownOrdered_api_Loc (Sys.of Go.Proofs.Tryd.prog) ids data0 lo1 hi2 first3 h R = denFn Go.Proofs.Tryd.prog Go.Proofs.Tryd.f81 H_slices_siftDownOrdered_api_Loc [data0, lo1, hi2, first3] h R := by kernel_rfl
theorem C_slices_siftDownOrdered_api_Loc {data0 lo1 hi2 first3 : Value} {h : Hp} {R : Value → Hp → Prop} (H : F_slices_siftDownOrdered_api_Loc (Sys.of Go.Proofs.Tryd.prog) ids data0 lo1 hi2 first3 h R) : (Sys.of Go.Proofs.Tryd.prog).C ids.f_slices_siftDownOrdered_api_Loc [data0, lo1, hi2, first3] h R :=
  cl_of_den Go.Proofs.Tryd.func81 (by kernel_rfl) mixed (E_slices_siftDownOrdered_api_Loc data0 lo1 hi2 first3 h R) H

def H_slices_nextPowerOfTwo : HT := (.s .z (.s .z .z))
theorem E_slices_nextPowerOfTwo (length0 : Value) (h : Hp) (R : Value → Hp → Prop) : F_slices_nextPowerOfTwo (Sys.of Go.Proofs.Tryd.prog) ids length0 h R = denFn Go.Proofs.Tryd.prog Go.Proofs.Tryd.f82 H_slices_nextPowerOfTwo [length0] h R := by kernel_rfl
theorem C_slices_nextPowerOfTwo {length0 : Value} {h : Hp} {R : Value → Hp → Prop} (H : F_slices_nextPowerOfTwo (Sys.of Go.Proofs.Tryd.prog) ids length0 h R) : (Sys.of Go.Proofs.Tryd.prog).C ids.f_slices_nextPowerOfTwo [length0] h R :=
  cl_of_den Go.Proofs.Tryd.func82 (by kernel_rfl) mixed (E_slices_nextPowerOfTwo length0 h R) H

def H_slices_xorshift_Next : HT := (.s .z (.s (.o (oc [0, 1, 2, 3, 4, 5, 6, 7, 8, 9] .nil)) (.s (.o (oc [0, 1, 2, 3, 4, 5, 6, 7, 8, 9] .nil)) (.s (.o (oc [0, 1, 2, 3, 4, 5, 6, 7, 8, 9] .nil)) (.s .z .z)))))
theorem E_slices_xorshift_Next (r0 : Value) (h : Hp) (R : Value → Hp → Prop) : F_slices_xorshift_Next (Sys.of Go.Proofs.Tryd.prog) ids r0 h R = denFn Go.Proofs.Tryd.prog Go.Proofs.Tryd.f83 H_slices_xorshift_Next [r0] h R := by kernel_rfl
theorem C_slices_xorshift_Next {r0 : Value} {h : Hp} {R : Value → Hp → Prop} (H : F_slices_xorshift_Next (Sys.of Go.Proofs.Tryd.prog) ids r0 h R) : (Sys.of Go.Proofs.Tryd.prog).C ids.f_slices_xorshift_Next [r0] h R :=
  cl_of_den Go.Proofs.Tryd.func83 (by kernel_rfl) mixed (E_slices_xorshift_Next r0 h R) H

def H_slices_medianAdjacentOrdered_api_Loc : HT := (.s .z (.s .z .z))
theorem E_slices_medianAdjacentOrdered_api_Loc (data0 a1 swaps2 : Value) (h : Hp) (R : Value → Hp → Prop) : F_slices_medianAdjacentOrdered_api_Loc (Sys.of Go.Proofs.Tryd.prog) ids data0 a1 swaps2 h R = denFn Go.Proofs.Tryd.prog Go.Proofs.Tryd.f84 H_slices_medianAdjacentOrdered_api_Loc [data0, a1, swaps2] h R := by kernel_rfl
theorem C_slices_medianAdjacentOrdered_api_Loc {data0 a1 swaps2 : Value} {h : Hp} {R : Value → Hp → Prop} (H : F_slices_medianAdjacentOrdered_api_Loc (Sys.of Go.Proofs.Tryd.prog) ids data0 a1 swaps2 h R) : (Sys.of Go.Proofs.Tryd.prog).C ids.f_slices_medianAdjacentOrdered_api_Loc [data0, a1, swaps2] h R :=
  cl_of_den Go.Proofs.Tryd.func84 (by kernel_rfl) mixed (E_slices_medianAdjacentOrdered_api_Loc data0 a1 swaps2 h R) H

def H_slices_medianOrdered_api_Loc : HT := (.s .z (.s .z (.s .z (.s .z (.s .z .z)))))
theorem E_slices_medianOrdered_api_Loc (data0 a1 b2 c3 swaps4 : Value) (h : Hp) (R : Value → Hp → Prop) : F_slices_medianOrdered_api_Loc (Sys.of Go.Proofs.Tryd.prog) ids data0 a1 b2 c3 swaps4 h R = denFn Go.Proofs.Tryd.prog Go.Proofs.Tryd.f85 H_slices_medianOrdered_api_Loc [data0, a1, b2, c3, swaps4] h R := by kernel_rfl
theorem C_slices_medianOrdered_api_Loc {data0 a1 b2 c3 swaps4 : Value} {h : Hp} {R : Value → Hp → Prop} (H : F_slices_medianOrdered_api_Loc (Sys.of Go.Proofs.Tryd.prog) ids data0 a1 b2 c3 swaps4 h R) : (Sys.of Go.Proofs.Tryd.prog).C ids.f_slices_medianOrdered_api_Loc [data0, a1, b2, c3, swaps4] h R :=
  cl_of_den Go.Proofs.Tryd.func85 (by kernel_rfl) mixed (E_slices_medianOrdered_api_Loc data0 a1 b2 c3 swaps4 h R) H

def H_cmp_isNaN_api_Loc : HT := (.s .z (.s .z .z))
theorem E_cmp_isNaN_api_Loc (x0 : Value) (h : Hp) (R : Value → Hp → Prop) : F_cmp_isNaN_api_Loc (Sys.of Go.Proofs.Tryd.prog) ids x0 h R = denFn Go.Proofs.Tryd.prog Go.Proofs.Tryd.f86 H_cmp_isNaN_api_Loc [x0] h R := by kernel_rfl
theorem C_cmp_isNaN_api_Loc {x0 : Value} {h : Hp} {R : Value → Hp → Prop} (H : F_cmp_isNaN_api_Loc (Sys.of Go.Proofs.Tryd.prog) ids x0 h R) : (Sys.of Go.Proofs.Tryd.prog).C ids.f_cmp_isNaN_api_Loc [x0] h R :=
  cl_of_den Go.Proofs.Tryd.func86 (by kernel_rfl) mixed (E_cmp_isNaN_api_Loc x0 h R) H

def H_word_Who : HT := (.s .z (.s .z (.s (.s .z (.s .z (.c (.s .z .z) .z))) (.s .z .z))))
theorem E_word_Who (ref0 : Value) (h : Hp) (R : Value → Hp → Prop) : F_word_Who (Sys.of Go.Proofs.Tryd.prog) ids ref0 h R = denFn Go.Proofs.Tryd.prog Go.Proofs.Tryd.f87 H_word_Who [ref0] h R := by kernel_rfl
theorem C_word_Who {ref0 : Value} {h : Hp} {R : Value → Hp → Prop} (H : F_word_Who (Sys.of Go.Proofs.Tryd.prog) ids ref0 h R) : (Sys.of Go.Proofs.Tryd.prog).C ids.f_word_Who [ref0] h R :=
  cl_of_den Go.Proofs.Tryd.func87 (by kernel_rfl) mixed (E_word_Who ref0 h R) H

def H_slices_order2Ordered_api_Loc : HT := (.s .z (.s (.s (.o (oc [0, 1, 2, 3, 4, 5, 6, 7, 8] .nil)) (.c (.s .z (.s .z .z)) .z)) (.s .z .z)))
theorem E_slices_order2Ordered_api_Loc (data0 a1 b2 swaps3 : Value) (h : Hp) (R : Value → Hp → Prop) : F_slices_order2Ordered_api_Loc (Sys.of Go.Proofs.Tryd.prog) ids data0 a1 b2 swaps3 h R = denFn Go.Proofs.Tryd.prog Go.Proofs.Tryd.f88 H_slices_order2Ordered_api_Loc [data0, a1, b2, swaps3] h R := by kernel_rfl
theorem C_slices_order2Ordered_api_Loc {data0 a1 b2 swaps3 : Value} {h : Hp} {R : Value → Hp → Prop} (H : F_slices_order2Ordered_api_Loc (Sys.of Go.Proofs.Tryd.prog) ids data0 a1 b2 swaps3 h R) : (Sys.of Go.Proofs.Tryd.prog).C ids.f_slices_order2Ordered_api_Loc [data0, a1, b2, swaps3] h R :=
  cl_of_den Go.Proofs.Tryd.func88 (by kernel_rfl) mixed (E_slices_order2Ordered_api_Loc data0 a1 b2 swaps3 h R) H

def H_word_Ref : HT := (.s .z (.s (.j [19] [0, 1, 26] .z (.c (.s .z .z) .z)) (.s .z .z)))
theorem E_word_Ref (who0 seq1 : Value) (h : Hp) (R : Value → Hp → Prop) : F_word_Ref (Sys.of Go.Proofs.Tryd.prog) ids who0 seq1 h R = denFn Go.Proofs.Tryd.prog Go.Proofs.Tryd.f89 H_word_Ref [who0, seq1] h R := by kernel_rfl
theorem C_word_Ref {who0 seq1 : Value} {h : Hp} {R : Value → Hp → Prop} (H : F_word_Ref (Sys.of Go.Proofs.Tryd.prog) ids who0 seq1 h R) : (Sys.of Go.Proofs.Tryd.prog).C ids.f_word_Ref [who0, seq1] h R :=
  cl_of_den Go.Proofs.Tryd.func89 (by kernel_rfl) mixed (E_word_Ref who0 seq1 h R) H

end Go.En
