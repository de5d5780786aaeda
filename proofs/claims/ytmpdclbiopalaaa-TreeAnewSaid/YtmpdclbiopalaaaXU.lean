/-
  The clean texts are what the engine reads off the program: by the kernel.
-/
import Derived.Test.YtmpdclbiopalaaaXT
import Derived.Test.YtmpdclbiopalaaaProg
import Derived.KernelRfl
namespace Go.En
set_option maxRecDepth 100000

/-- the numbers in this translation -/
def ids : Ids := { f_simulcastlaw40_GraphBoth := 3, f_simulcastlaw40_GraphWeighs := 4, f_simulcastlaw40_GraphPlays := 5, f_simulcastlaw40_GraphLost := 6, f_simulcastlaw40_GraphVanishes := 7, f_simulcastlaw37_TreeShaped := 8, f_simulcastlaw37_TreePlays := 9, f_simulcastlaw37_TreeLost := 10, f_simulcastlaw40_GraphAnew := 11, f_simulcastlaw37_TreeOrders := 12, f_simulcastlaw37_TreeAnew := 13, f_simulcastlaw40_awake := 14, f_simulcastlaw40_played := 15, f_graph_Graph_Vertices := 16, f_graph_Graph_Out := 17, f_graph_Graph_In := 18, f_graph_Graph_Edges := 19, f_simulcastlaw40_handle := 20, f_graph_Graph_Weight := 21, f_simulcastref40_Weight := 22, f_graph_Graph_Label := 23, f_simulcastref40_Has := 24, f_simulcastref40_Label := 25, f_simulcastlaw40_made := 26, f_simulcastlaw40_empty := 27, f_simulcastlaw40_do := 28, f_simulcastlaw40_same := 29, f_space_New := 30, f_space_Space_Mark := 31, f_graph_Graph_Add := 32, f_graph_Graph_Link := 33, f_graph_Graph_Cut := 34, f_graph_Graph_Drop := 35, f_space_Space_Ended := 36, f_simulcastref40_Out := 37, f_simulcastref40_In := 38, f_pool_Pool_Free := 39, f_space_Space_Get := 40, f_simulcastlaw37_awake := 41, f_simulcastlaw37_made := 42, f_simulcastlaw37_empty := 43, f_simulcastlaw37_do := 44, f_simulcastlaw37_shaped := 45, f_simulcastlaw37_same := 46, f_tree_Tree_Drop := 47, f_tree_Tree_Get := 48, f_tree_Tree_Sum := 49, f_tree_Tree_Count := 50, f_tree_Tree_Next := 51, f_tree_Tree_Nth := 52, f_tree_Tree_Put := 53, f_tree_Tree_Walk := 54, f_space_Space_Need := 55, f_space_Space_Writes := 56, f_simulcastlaw37_reads := 57, f_tree_Tree_Len := 58, f_simulcastref40_Same := 59, f_graph_Graph_through := 60, f_graph_Graph_all := 61, f_graph_Graph_edges := 62, f_graph_Graph_out := 63, f_graph_Graph_in := 64, f_graph_Graph_vertex := 65, f_graph_Graph_find := 66, f_graph_at := 67, f_pool_Pool_Node := 68, f_simulcastref40_Add := 69, f_simulcastref40_Is := 70, f_simulcastref40_Link := 71, f_simulcastref40_Cut := 72, f_simulcastref40_Drop := 73, f_graph_undo := 74, f_pool_Pool_Take := 75, f_graph_Graph_vertexMark := 76, f_space_Space_Put := 77, f_graph_Graph_link := 78, f_graph_more := 79, f_graph_Graph_edgeMark := 80, f_graph_Graph_edge := 81, f_graph_Graph_cut := 82, f_graph_Graph_empty := 83, f_graph_Graph_unlink := 84, f_pool_Pool_Give := 85, f_pool_Pool_Check := 86, f_space_Space_reads := 87, f_space_Space_value := 88, f_simulcastref37_Get := 89, f_simulcastref37_Drop := 90, f_simulcastref37_Range := 91, f_simulcastref37_Next := 92, f_simulcastref37_Nth := 93, f_simulcastref37_Put := 94, f_simulcastref37_Top := 95, f_tree_undo := 96, f_tree_Tree_work := 97, f_tree_work_path := 98, f_tree_work_get := 99, f_tree_work_hang := 100, f_tree_work_merge := 101, f_tree_work_add := 102, f_tree_work_way := 103, f_tree_Tree_between := 104, f_tree_Tree_Sum_1 := 105, f_tree_Tree_Count_1 := 106, f_tree_work_is := 107, f_tree_work_of := 108, f_tree_work_put := 109, f_tree_rank := 110, f_tree_work_split := 111, f_tree_work_refresh := 112, f_tree_walker_below := 113, f_slices_Sort_api_Loc_api_Loc := 114, f_slices_Compact_api_Loc_api_Loc := 115, f_space_Space_Reads := 116, f_graph_Graph_through_1 := 117, f_graph_Graph_node := 118, f_space_Space_Back := 119, f_pool_Pool_add := 120, f_space_Space_last := 121, f_simulcastref37_find := 122, f_simulcastref37_Rank := 123, f_tree_kid := 124, f_tree_work_way_1 := 125, f_tree_Tree_until := 126, f_slices_pdqsortOrdered_api_Loc := 127, f_math_bits_Len := 128, f_slices_insertionSortOrdered_api_Loc := 129, f_slices_heapSortOrdered_api_Loc := 130, f_slices_breakPatternsOrdered_api_Loc := 131, f_slices_choosePivotOrdered_api_Loc := 132, f_slices_reverseRangeOrdered_api_Loc := 133, f_slices_partialInsertionSortOrdered_api_Loc := 134, f_cmp_Less_api_Loc := 135, f_slices_partitionEqualOrdered_api_Loc := 136, f_slices_partitionOrdered_api_Loc := 137, f_math_bits_Len32 := 138, f_math_bits_Len64 := 139, f_slices_siftDownOrdered_api_Loc := 140, f_slices_nextPowerOfTwo := 141, f_slices_xorshift_Next := 142, f_slices_medianAdjacentOrdered_api_Loc := 143, f_slices_medianOrdered_api_Loc := 144, f_cmp_isNaN_api_Loc := 145, f_slices_order2Ordered_api_Loc := 146, t_int64 := 2, t_int := 3, t_bool := 4, t_api_Loc := 24, t_pool_Pool := 26, t_graph_Graph := 28, t_p_space_Space := 29, t_simulcastref40_Graph := 33, t_s_int64 := 34, t_api_Errno := 37, t_s_2_int64 := 40, t_2_int64 := 43, t_simulcastlaw40_Call := 62, t_api_Word := 68, t_tree_Tree := 81, t_simulcastlaw37_Call := 88, t_graph_list := 115, t_p_api_Errno := 117, t_simulcastref40_Edge := 124, t_simulcastref40_Vertex := 126, t_space_Space := 135, t_simulcastref37_Pair := 156, t_p_tree_work := 157, t_s_tree_step := 159, t_tree_work := 163, t_tree_step := 165, t_tree_walker := 181, t_space_put := 184, t_slices_xorshift := 207 }
theorem mixed : Go.Proofs.Try.prog.follows .mixedOrders = true := by kernel_rfl

def H_simulcastlaw40_GraphBoth : HT := (.s .z (.s (.s .z (.c (.s .z .z) .z)) (.s (.s .z (.c (.s .z .z) .z)) (.s .z (.s .z (.s (.s .z (.c (.s .z .z) .z)) (.s .z (.s (.s .z (.b (.l [10, 11, 12] [3, 4, 8, 139] (.s (.s .z (.c .z .z)) (.s (.b (.s (.o (oc [0, 1, 2, 3, 4, 5, 6, 7, 8, 9, 10, 11] .nil)) (.s (.o (oc [0, 1, 2, 3, 4, 5, 6, 7, 8, 9, 10, 11] .nil)) (.s (.j [74] [3, 4, 8, 10, 11, 12, 13, 15, 139] .z (.c (.s .z .z) .z)) (.s .z (.s .z (.s .z (.b (.l [17] [3, 4, 8, 10, 11, 12, 13, 139] (.s (.s .z (.c .z .z)) (.s (.b (.s (.o (oc [0, 1, 2, 3, 4, 5, 6, 7, 8, 9, 10, 11, 12] .nil)) (.s .z (.s (.s .z (.b (.l [20, 21] [3, 4, 8, 10, 11, 12, 13, 17, 18, 19, 139] (.s (.s .z (.c .z .z)) (.j [20] [3, 4, 8, 10, 11, 12, 13, 17, 18, 19, 21, 139] (.b (.s (.o (oc [0, 1, 2, 3, 4, 5, 6, 7, 8, 9, 10, 11, 12, 13, 14] .nil)) (.c .z .z))) .z))))) (.j [128] [3, 4, 8, 10, 11, 12, 13, 17, 139] .z (.c (.s .z .z) .z)))))) .z))))))))))) .z))))) (.j [2] [139] .z .z)))))))))
theorem E_simulcastlaw40_GraphBoth (l0 : Value) (h : Hp) (R : Value → Hp → Prop) : F_simulcastlaw40_GraphBoth (Sys.of Go.Proofs.Try.prog) ids l0 h R = denFn Go.Proofs.Try.prog Go.Proofs.Try.f3 H_simulcastlaw40_GraphBoth [l0] h R := by kernel_rfl
theorem C_simulcastlaw40_GraphBoth {l0 : Value} {h : Hp} {R : Value → Hp → Prop} (H : F_simulcastlaw40_GraphBoth (Sys.of Go.Proofs.Try.prog) ids l0 h R) : (Sys.of Go.Proofs.Try.prog).C ids.f_simulcastlaw40_GraphBoth [l0] h R :=
  cl_of_den Go.Proofs.Try.func3 (by kernel_rfl) mixed (E_simulcastlaw40_GraphBoth l0 h R) H

def H_simulcastlaw40_GraphWeighs : HT := (.s .z (.s (.s .z (.c (.s .z .z) .z)) (.s (.s .z (.c (.s .z .z) .z)) (.s .z (.s (.s .z (.c (.s .z .z) .z)) (.s .z (.s .z (.s .z (.s (.j [67] [7, 8, 9, 12, 133] .z (.c (.s .z .z) .z)) (.s .z (.s .z (.s .z (.s (.s .z (.c (.j [6] [133] .z .z) .z)) (.j [6] [133] .z .z))))))))))))))
theorem E_simulcastlaw40_GraphWeighs (l0 a1 b2 : Value) (h : Hp) (R : Value → Hp → Prop) : F_simulcastlaw40_GraphWeighs (Sys.of Go.Proofs.Try.prog) ids l0 a1 b2 h R = denFn Go.Proofs.Try.prog Go.Proofs.Try.f4 H_simulcastlaw40_GraphWeighs [l0, a1, b2] h R := by kernel_rfl
theorem C_simulcastlaw40_GraphWeighs {l0 a1 b2 : Value} {h : Hp} {R : Value → Hp → Prop} (H : F_simulcastlaw40_GraphWeighs (Sys.of Go.Proofs.Try.prog) ids l0 a1 b2 h R) : (Sys.of Go.Proofs.Try.prog).C ids.f_simulcastlaw40_GraphWeighs [l0, a1, b2] h R :=
  cl_of_den Go.Proofs.Try.func4 (by kernel_rfl) mixed (E_simulcastlaw40_GraphWeighs l0 a1 b2 h R) H

def H_simulcastlaw40_GraphPlays : HT := (.s .z (.s (.s .z (.c (.s .z .z) .z)) (.s (.s .z (.c (.s .z .z) .z)) (.s .z (.s .z (.s .z (.s .z (.s (.s .z (.b (.l [9, 10] [0, 5, 7, 8, 59] (.s (.s .z (.c .z .z)) (.s (.b (.j [11, 12, 13] [0, 5, 7, 8, 10, 59] (.o (oc [0, 1, 2, 3, 4, 5, 6, 7] (.alt (oc [8, 9, 10, 11, 12, 13, 14, 15, 16] .nil) (oc [13, 8, 9, 10, 11, 12, 14, 15, 16] .nil)))) (.s (.j [56] [0, 5, 7, 8, 10, 11, 12, 59] .z (.c (.s .z .z) .z)) .z))) .z))))) (.s .z .z)))))))))
theorem E_simulcastlaw40_GraphPlays (l0 nodes1 : Value) (h : Hp) (R : Value → Hp → Prop) : F_simulcastlaw40_GraphPlays (Sys.of Go.Proofs.Try.prog) ids l0 nodes1 h R = denFn Go.Proofs.Try.prog Go.Proofs.Try.f5 H_simulcastlaw40_GraphPlays [l0, nodes1] h R := by kernel_rfl
theorem C_simulcastlaw40_GraphPlays {l0 nodes1 : Value} {h : Hp} {R : Value → Hp → Prop} (H : F_simulcastlaw40_GraphPlays (Sys.of Go.Proofs.Try.prog) ids l0 nodes1 h R) : (Sys.of Go.Proofs.Try.prog).C ids.f_simulcastlaw40_GraphPlays [l0, nodes1] h R :=
  cl_of_den Go.Proofs.Try.func5 (by kernel_rfl) mixed (E_simulcastlaw40_GraphPlays l0 nodes1 h R) H

def H_simulcastlaw40_GraphLost : HT := (.s .z (.s (.s .z (.c (.s .z .z) .z)) (.s (.j [31] [0, 1, 203] .z (.c (.s .z .z) .z)) (.s .z (.s .z (.s (.s .z (.b (.l [8] [0, 1, 5, 6, 7, 203] (.s (.s .z (.c .z .z)) (.j [] [0, 1, 5, 6, 7, 8, 203] (.b (.s .z (.s .z (.c .z .z)))) .z))))) (.s .z (.s (.s .z (.b (.l [10] [1, 5, 9, 203] (.s (.s .z (.c .z .z)) (.s (.b (.s .z (.s (.o (oc [0, 1, 2, 3, 4, 5, 6, 7, 8, 9, 10, 11, 12, 13, 14, 15, 16, 17, 18, 19] .nil)) (.s .z (.j [14, 15] [1, 5, 9, 10, 11, 12, 13, 203] (.s .z (.b (.j [90] [1, 5, 9, 10, 11, 12, 13, 14, 15, 89, 203] (.s .z (.c .z .z)) (.c (.o (oc [0, 1, 2, 3, 4, 5, 6, 7, 8, 9, 10, 11, 12] .nil)) (.j [104] [1, 5, 9, 10, 11, 12, 13, 14, 15, 89, 203] (.s .z (.c .z .z)) (.c (.o (oc [0, 1, 2, 3, 4, 5, 6, 7, 8, 9, 10, 11, 12, 13, 14] .nil)) (.s .z (.c .z (.s .z (.c .z .z)))))))))) (.s .z (.s .z (.s .z (.s .z (.j [202] [1, 5, 9, 10, 203] .z (.c (.s .z .z) .z))))))))))) .z))))) (.s .z .z)))))))))
theorem E_simulcastlaw40_GraphLost (vals0 l1 : Value) (h : Hp) (R : Value → Hp → Prop) : F_simulcastlaw40_GraphLost (Sys.of Go.Proofs.Try.prog) ids vals0 l1 h R = denFn Go.Proofs.Try.prog Go.Proofs.Try.f6 H_simulcastlaw40_GraphLost [vals0, l1] h R := by kernel_rfl
theorem C_simulcastlaw40_GraphLost {vals0 l1 : Value} {h : Hp} {R : Value → Hp → Prop} (H : F_simulcastlaw40_GraphLost (Sys.of Go.Proofs.Try.prog) ids vals0 l1 h R) : (Sys.of Go.Proofs.Try.prog).C ids.f_simulcastlaw40_GraphLost [vals0, l1] h R :=
  cl_of_den Go.Proofs.Try.func6 (by kernel_rfl) mixed (E_simulcastlaw40_GraphLost vals0 l1 h R) H

def H_simulcastlaw40_GraphVanishes : HT := (.s .z (.s (.s .z (.c (.s .z .z) .z)) (.s (.s .z (.c (.s .z .z) .z)) (.s .z (.s (.s .z (.c (.s .z .z) .z)) (.s .z (.s (.o (oc [0, 1, 4, 5, 2, 3, 6, 7, 8, 9] .nil)) (.s .z (.j [11] [5, 6, 7, 10, 205] (.s .z (.c .z .z)) (.s .z (.s .z (.s .z (.s (.j [107] [5, 6, 7, 10, 11, 15, 16, 205] .z (.c (.s .z .z) .z)) (.s (.s .z (.c (.j [4] [205] (.o (oc [0, 1, 2, 3, 4, 5, 6, 7, 8, 9, 10, 11, 12, 14, 15, 16, 13, 17, 18, 19] .nil)) .z) .z)) (.s (.s .z (.b (.l [20] [5, 6, 7, 10, 11, 16, 205] (.s (.s .z (.c .z .z)) (.s (.b (.s (.o (oc [0, 1, 2, 3, 4, 5, 6, 7, 8, 9, 10, 11] .nil)) (.s (.o (oc [0, 1, 2, 3, 4, 5, 6, 7, 8, 9, 10, 11] .nil)) (.s (.s .z (.b (.l [25] [5, 6, 7, 10, 11, 16, 20, 21, 23, 205] (.s (.s .z (.c .z .z)) (.s (.b (.s .z (.c (.s .z .z) .z))) .z))))) (.s (.s .z (.b (.l [26] [5, 6, 7, 10, 11, 16, 20, 23, 205] (.s (.s .z (.c .z .z)) (.s (.b (.s .z (.c (.s .z .z) .z))) .z))))) (.s .z (.c (.s .z .z) .z))))))) .z))))) (.j [4] [205] (.o (oc [0, 1, 2, 3, 4, 5, 6, 7, 8, 9, 11, 12, 13, 14, 15, 10, 16, 17, 18] .nil)) .z))))))))))))))))
theorem E_simulcastlaw40_GraphVanishes (l0 at1 : Value) (h : Hp) (R : Value → Hp → Prop) : F_simulcastlaw40_GraphVanishes (Sys.of Go.Proofs.Try.prog) ids l0 at1 h R = denFn Go.Proofs.Try.prog Go.Proofs.Try.f7 H_simulcastlaw40_GraphVanishes [l0, at1] h R := by kernel_rfl
theorem C_simulcastlaw40_GraphVanishes {l0 at1 : Value} {h : Hp} {R : Value → Hp → Prop} (H : F_simulcastlaw40_GraphVanishes (Sys.of Go.Proofs.Try.prog) ids l0 at1 h R) : (Sys.of Go.Proofs.Try.prog).C ids.f_simulcastlaw40_GraphVanishes [l0, at1] h R :=
  cl_of_den Go.Proofs.Try.func7 (by kernel_rfl) mixed (E_simulcastlaw40_GraphVanishes l0 at1 h R) H

def H_simulcastlaw37_TreeShaped : HT := (.s .z (.s (.s .z (.c (.s .z .z) .z)) (.s (.s .z (.c (.s .z .z) .z)) (.s .z (.s .z (.s .z (.s .z (.s (.s .z (.b (.l [9, 10] [0, 5, 6, 8, 92] (.s (.s .z (.c .z .z)) (.s (.b (.s (.o (oc [0, 1, 2, 3, 4, 5, 6, 7, 8, 9, 10, 11, 12, 13] .nil)) (.s (.s .z (.c (.s .z .z) .z)) .z))) .z))))) (.s (.j [64] [6, 8, 9, 92] .z (.c (.s .z .z) .z)) (.s .z (.j [4] [92] .z .z)))))))))))
theorem E_simulcastlaw37_TreeShaped (l0 nodes1 : Value) (h : Hp) (R : Value → Hp → Prop) : F_simulcastlaw37_TreeShaped (Sys.of Go.Proofs.Try.prog) ids l0 nodes1 h R = denFn Go.Proofs.Try.prog Go.Proofs.Try.f8 H_simulcastlaw37_TreeShaped [l0, nodes1] h R := by kernel_rfl
theorem C_simulcastlaw37_TreeShaped {l0 nodes1 : Value} {h : Hp} {R : Value → Hp → Prop} (H : F_simulcastlaw37_TreeShaped (Sys.of Go.Proofs.Try.prog) ids l0 nodes1 h R) : (Sys.of Go.Proofs.Try.prog).C ids.f_simulcastlaw37_TreeShaped [l0, nodes1] h R :=
  cl_of_den Go.Proofs.Try.func8 (by kernel_rfl) mixed (E_simulcastlaw37_TreeShaped l0 nodes1 h R) H

def H_simulcastlaw37_TreePlays : HT := (.s .z (.s (.s .z (.c (.s .z .z) .z)) (.s (.s .z (.c (.s .z .z) .z)) (.s .z (.s .z (.s .z (.s .z (.s (.s .z (.b (.l [9, 10] [0, 5, 6, 8, 57] (.s (.s .z (.c .z .z)) (.s (.b (.s (.o (oc [0, 1, 2, 3, 4, 5, 6, 7, 8, 9, 10, 11, 12, 13] .nil)) (.s (.j [55] [0, 5, 6, 8, 10, 11, 57] .z (.c (.s .z .z) .z)) .z))) .z))))) (.s .z .z)))))))))
theorem E_simulcastlaw37_TreePlays (l0 nodes1 : Value) (h : Hp) (R : Value → Hp → Prop) : F_simulcastlaw37_TreePlays (Sys.of Go.Proofs.Try.prog) ids l0 nodes1 h R = denFn Go.Proofs.Try.prog Go.Proofs.Try.f9 H_simulcastlaw37_TreePlays [l0, nodes1] h R := by kernel_rfl
theorem C_simulcastlaw37_TreePlays {l0 nodes1 : Value} {h : Hp} {R : Value → Hp → Prop} (H : F_simulcastlaw37_TreePlays (Sys.of Go.Proofs.Try.prog) ids l0 nodes1 h R) : (Sys.of Go.Proofs.Try.prog).C ids.f_simulcastlaw37_TreePlays [l0, nodes1] h R :=
  cl_of_den Go.Proofs.Try.func9 (by kernel_rfl) mixed (E_simulcastlaw37_TreePlays l0 nodes1 h R) H

def H_simulcastlaw37_TreeLost : HT := (.s .z (.s (.s .z (.c (.s .z .z) .z)) (.s (.j [26] [0, 1, 208] .z (.c (.s .z .z) .z)) (.s .z (.s .z (.s (.s .z (.b (.l [8] [0, 1, 5, 6, 7, 208] (.s (.s .z (.c .z .z)) (.j [] [0, 1, 5, 6, 7, 8, 208] (.b (.s .z (.s .z (.c .z .z)))) .z))))) (.s .z (.s (.s .z (.b (.l [10] [1, 5, 9, 208] (.s (.s .z (.c .z .z)) (.s (.b (.s .z (.s .z (.j [12] [1, 5, 9, 10, 11, 208] (.s .z (.b (.s .z (.c (.o (oc [0, 1, 2, 3, 4, 5, 6, 7, 8, 9, 10, 11, 12] .nil)) (.s .z (.c (.o (oc [0, 1, 2, 3, 4, 5, 6, 7] .nil)) (.s .z (.c (.s (.o (oc [0, 1, 2, 3, 4, 5, 6, 7, 8, 9, 10, 11, 12] .nil)) (.o (oc [0, 1, 2, 3, 4, 5, 6, 7, 8, 9, 10, 11, 12] .nil))) (.s .z (.c (.o (oc [0, 1, 2, 3, 4, 5, 6, 7] .nil)) (.s .z (.c (.o (oc [0, 1, 2, 3, 4, 5, 6, 7] .nil)) (.o (oc [0, 1, 2, 3, 4, 5, 6, 7, 8, 9, 10, 11, 12, 13, 14, 15, 16, 17] .nil)))))))))))))) (.s (.j [167] [1, 5, 9, 10, 208] .z (.c (.s .z .z) .z)) (.s .z (.s (.j [191] [1, 5, 9, 10, 13, 208] .z (.c (.s .z .z) .z)) (.s .z (.b (.l [16] [1, 5, 9, 10, 13, 208] (.s (.s .z (.c .z .z)) (.s (.b (.s (.o (oc [0, 1, 2, 3, 4, 5, 6, 7, 8, 9] .nil)) (.c (.s .z .z) .z))) .z)))))))))))) .z))))) (.s .z .z)))))))))
theorem E_simulcastlaw37_TreeLost (vals0 l1 : Value) (h : Hp) (R : Value → Hp → Prop) : F_simulcastlaw37_TreeLost (Sys.of Go.Proofs.Try.prog) ids vals0 l1 h R = denFn Go.Proofs.Try.prog Go.Proofs.Try.f10 H_simulcastlaw37_TreeLost [vals0, l1] h R := by kernel_rfl
theorem C_simulcastlaw37_TreeLost {vals0 l1 : Value} {h : Hp} {R : Value → Hp → Prop} (H : F_simulcastlaw37_TreeLost (Sys.of Go.Proofs.Try.prog) ids vals0 l1 h R) : (Sys.of Go.Proofs.Try.prog).C ids.f_simulcastlaw37_TreeLost [vals0, l1] h R :=
  cl_of_den Go.Proofs.Try.func10 (by kernel_rfl) mixed (E_simulcastlaw37_TreeLost vals0 l1 h R) H

def H_simulcastlaw40_GraphAnew : HT := (.s .z (.s (.s .z (.c (.s .z .z) .z)) (.s (.s .z (.c (.s .z .z) .z)) (.s .z (.s (.s .z (.c (.s .z .z) .z)) (.s .z (.s .z (.s (.s .z (.b (.l [14] [3, 5, 6, 8, 11, 12, 13, 159] (.s (.s .z (.c .z .z)) (.s (.b .z) .z))))) (.s .z (.s (.o (oc [0, 1, 2, 4, 5, 6, 3, 7, 8, 9] .nil)) (.s .z (.s .z (.s (.s .z (.b (.l [22] [3, 5, 11, 12, 13, 15, 16, 17, 18, 19, 20, 21, 159] (.s (.s .z (.c .z .z)) (.s (.b (.s .z (.s .z (.s .z (.s .z (.s (.s .z (.c (.s .z .z) .z)) (.j [4] [3, 5, 11, 12, 13, 15, 16, 17, 18, 19, 20, 21, 159] .z .z))))))) .z))))) (.s .z .z))))))))))))))
theorem E_simulcastlaw40_GraphAnew (l0 c1 : Value) (h : Hp) (R : Value → Hp → Prop) : F_simulcastlaw40_GraphAnew (Sys.of Go.Proofs.Try.prog) ids l0 c1 h R = denFn Go.Proofs.Try.prog Go.Proofs.Try.f11 H_simulcastlaw40_GraphAnew [l0, c1] h R := by kernel_rfl
theorem C_simulcastlaw40_GraphAnew {l0 c1 : Value} {h : Hp} {R : Value → Hp → Prop} (H : F_simulcastlaw40_GraphAnew (Sys.of Go.Proofs.Try.prog) ids l0 c1 h R) : (Sys.of Go.Proofs.Try.prog).C ids.f_simulcastlaw40_GraphAnew [l0, c1] h R :=
  cl_of_den Go.Proofs.Try.func11 (by kernel_rfl) mixed (E_simulcastlaw40_GraphAnew l0 c1 h R) H

def H_simulcastlaw37_TreeOrders : HT := (.s .z (.s (.s .z (.c (.s .z .z) .z)) (.s (.j [24] [0, 1, 2, 146] .z (.c (.s .z .z) .z)) (.s .z (.s .z (.s (.s .z (.b (.l [11] [0, 1, 2, 7, 8, 9, 10, 146] (.s (.s .z (.c .z .z)) (.s (.b (.o (oc [0, 1, 2, 3, 4, 5, 6, 7, 8, 9, 10, 11] .nil))) .z))))) (.s (.s .z (.b (.l [12] [0, 1, 2, 7, 8, 9, 10, 146] (.s (.j [59] [0, 1, 2, 7, 8, 9, 10, 12, 146] .z (.c .z .z)) (.j [] [0, 1, 2, 7, 8, 9, 10, 12, 146] (.b (.s .z (.s .z (.c .z (.o (oc [0, 1, 2, 3, 4, 5, 6, 7, 8] .nil)))))) .z))))) (.s (.s .z (.b (.l [14] [0, 2, 7, 8, 9, 10, 146] (.s (.s .z (.c .z .z)) (.s (.b (.o (oc [0, 1, 2, 3, 4, 5, 6, 7, 8, 9, 10, 11] .nil))) .z))))) (.j [6] [146] (.o (oc [0, 1, 2, 3, 5, 6, 7, 8, 4, 9, 10, 11, 12, 13, 14, 15, 16, 18, 19, 20, 21, 22, 17, 23, 24, 25, 26, 27, 28, 30, 31, 29, 32, 33, 34, 35] .nil)) .z)))))))))
theorem E_simulcastlaw37_TreeOrders (keys0 turns1 k2 : Value) (h : Hp) (R : Value → Hp → Prop) : F_simulcastlaw37_TreeOrders (Sys.of Go.Proofs.Try.prog) ids keys0 turns1 k2 h R = denFn Go.Proofs.Try.prog Go.Proofs.Try.f12 H_simulcastlaw37_TreeOrders [keys0, turns1, k2] h R := by kernel_rfl
theorem C_simulcastlaw37_TreeOrders {keys0 turns1 k2 : Value} {h : Hp} {R : Value → Hp → Prop} (H : F_simulcastlaw37_TreeOrders (Sys.of Go.Proofs.Try.prog) ids keys0 turns1 k2 h R) : (Sys.of Go.Proofs.Try.prog).C ids.f_simulcastlaw37_TreeOrders [keys0, turns1, k2] h R :=
  cl_of_den Go.Proofs.Try.func12 (by kernel_rfl) mixed (E_simulcastlaw37_TreeOrders keys0 turns1 k2 h R) H

def H_simulcastlaw37_TreeAnew : HT := (.s .z (.s (.s .z (.c (.s .z .z) .z)) (.s (.s .z (.c (.s .z .z) .z)) (.s .z (.s .z (.s .z (.s (.s .z (.b (.l [8, 9] [0, 3, 5, 6, 7, 194] (.s (.s .z (.c .z .z)) (.s (.b (.o (oc [0, 1, 2, 3, 4, 5, 6, 7, 8, 9, 10, 11] .nil))) .z))))) (.s .z (.s (.s .z (.b (.l [12] [3, 5, 6, 7, 10, 11, 194] (.s (.s .z (.c .z .z)) (.s (.b .z) .z))))) (.s .z (.s .z (.s .z (.s (.s .z (.b (.l [20] [3, 5, 6, 10, 11, 13, 14, 15, 16, 17, 18, 19, 194] (.s (.s .z (.c .z .z)) (.s (.b (.s .z (.s .z (.s .z (.s .z (.s (.s .z (.c (.s .z .z) .z)) (.s (.j [172] [3, 5, 6, 10, 11, 13, 14, 15, 16, 17, 18, 19, 21, 194] .z (.c (.s .z .z) .z)) (.s (.s .z (.b (.l [30] [3, 5, 6, 10, 11, 13, 14, 15, 16, 17, 18, 19, 21, 194] (.s (.s .z (.c .z .z)) (.s (.b (.s .z (.j [193] [3, 5, 6, 10, 11, 13, 14, 15, 16, 17, 18, 19, 21, 30, 194] .z (.c (.s .z .z) .z)))) .z))))) (.s .z .z))))))))) .z))))) (.s .z .z))))))))))))))
theorem E_simulcastlaw37_TreeAnew (l0 c1 : Value) (h : Hp) (R : Value → Hp → Prop) : F_simulcastlaw37_TreeAnew (Sys.of Go.Proofs.Try.prog) ids l0 c1 h R = denFn Go.Proofs.Try.prog Go.Proofs.Try.f13 H_simulcastlaw37_TreeAnew [l0, c1] h R := by kernel_rfl
theorem C_simulcastlaw37_TreeAnew {l0 c1 : Value} {h : Hp} {R : Value → Hp → Prop} (H : F_simulcastlaw37_TreeAnew (Sys.of Go.Proofs.Try.prog) ids l0 c1 h R) : (Sys.of Go.Proofs.Try.prog).C ids.f_simulcastlaw37_TreeAnew [l0, c1] h R :=
  cl_of_den Go.Proofs.Try.func13 (by kernel_rfl) mixed (E_simulcastlaw37_TreeAnew l0 c1 h R) H

def H_simulcastlaw40_awake : HT := (.s .z (.s .z (.s .z (.s .z (.s .z (.s .z (.s .z (.s .z (.s (.j [92] [1, 3, 4, 6, 128] .z (.c (.s .z .z) .z)) (.s .z (.s .z (.j [0] [128] .z .z))))))))))))
theorem E_simulcastlaw40_awake (h : Hp) (R : Value → Hp → Prop) : F_simulcastlaw40_awake (Sys.of Go.Proofs.Try.prog) ids h R = denFn Go.Proofs.Try.prog Go.Proofs.Try.f14 H_simulcastlaw40_awake [] h R := by kernel_rfl
theorem C_simulcastlaw40_awake {h : Hp} {R : Value → Hp → Prop} (H : F_simulcastlaw40_awake (Sys.of Go.Proofs.Try.prog) ids h R) : (Sys.of Go.Proofs.Try.prog).C ids.f_simulcastlaw40_awake [] h R :=
  cl_of_den Go.Proofs.Try.func14 (by kernel_rfl) mixed (E_simulcastlaw40_awake h R) H

def H_simulcastlaw40_played : HT := (.s .z (.s .z (.s .z (.s .z (.s .z (.s (.s .z (.b (.l [11, 12] [0, 2, 4, 7, 9, 10, 53] (.s (.s .z (.c .z .z)) (.s (.b (.j [13, 14, 15] [0, 2, 4, 7, 9, 10, 11, 12, 53] (.o (oc [0, 1, 2, 3, 4, 5, 6, 7] (.alt (oc [8, 9, 10, 11, 12, 13, 14, 15, 16] .nil) (oc [13, 8, 9, 10, 11, 12, 14, 15, 16] .nil)))) (.s (.s .z (.c (.s (.o (oc [0, 1, 2, 3, 4, 5, 6, 7, 8] .nil)) .z) .z)) .z))) .z))))) (.s (.o (oc [0, 1, 2, 3, 4, 5, 6, 7, 8] .nil)) .z)))))))
theorem E_simulcastlaw40_played (l0 : Value) (h : Hp) (R : Value → Hp → Prop) : F_simulcastlaw40_played (Sys.of Go.Proofs.Try.prog) ids l0 h R = denFn Go.Proofs.Try.prog Go.Proofs.Try.f15 H_simulcastlaw40_played [l0] h R := by kernel_rfl
theorem C_simulcastlaw40_played {l0 : Value} {h : Hp} {R : Value → Hp → Prop} (H : F_simulcastlaw40_played (Sys.of Go.Proofs.Try.prog) ids l0 h R) : (Sys.of Go.Proofs.Try.prog).C ids.f_simulcastlaw40_played [l0] h R :=
  cl_of_den Go.Proofs.Try.func15 (by kernel_rfl) mixed (E_simulcastlaw40_played l0 h R) H

def H_graph_Graph_Vertices : HT := (.s .z (.s .z (.s .z (.s (.s (.o (oc [0, 1, 2, 3, 4] .nil)) (.b (.r .z (.b .z)))) (.s (.s .z (.c (.s (.o (oc [0, 1, 2] .nil)) .z) .z)) (.s .z .z))))))
theorem E_graph_Graph_Vertices (g0 s1 : Value) (h : Hp) (R : Value → Hp → Prop) : F_graph_Graph_Vertices (Sys.of Go.Proofs.Try.prog) ids g0 s1 h R = denFn Go.Proofs.Try.prog Go.Proofs.Try.f16 H_graph_Graph_Vertices [g0, s1] h R := by kernel_rfl
theorem C_graph_Graph_Vertices {g0 s1 : Value} {h : Hp} {R : Value → Hp → Prop} (H : F_graph_Graph_Vertices (Sys.of Go.Proofs.Try.prog) ids g0 s1 h R) : (Sys.of Go.Proofs.Try.prog).C ids.f_graph_Graph_Vertices [g0, s1] h R :=
  cl_of_den Go.Proofs.Try.func16 (by kernel_rfl) mixed (E_graph_Graph_Vertices g0 s1 h R) H

def H_graph_Graph_Out : HT := (.s .z (.s (.o (oc [0, 1, 2, 3, 4, 5, 6, 7, 8, 9, 10] .nil)) .z))
theorem E_graph_Graph_Out (g0 s1 n2 : Value) (h : Hp) (R : Value → Hp → Prop) : F_graph_Graph_Out (Sys.of Go.Proofs.Try.prog) ids g0 s1 n2 h R = denFn Go.Proofs.Try.prog Go.Proofs.Try.f17 H_graph_Graph_Out [g0, s1, n2] h R := by kernel_rfl
theorem C_graph_Graph_Out {g0 s1 n2 : Value} {h : Hp} {R : Value → Hp → Prop} (H : F_graph_Graph_Out (Sys.of Go.Proofs.Try.prog) ids g0 s1 n2 h R) : (Sys.of Go.Proofs.Try.prog).C ids.f_graph_Graph_Out [g0, s1, n2] h R :=
  cl_of_den Go.Proofs.Try.func17 (by kernel_rfl) mixed (E_graph_Graph_Out g0 s1 n2 h R) H

def H_graph_Graph_In : HT := (.s .z (.s (.o (oc [0, 1, 2, 3, 4, 5, 6, 7, 8, 9, 10] .nil)) .z))
theorem E_graph_Graph_In (g0 s1 n2 : Value) (h : Hp) (R : Value → Hp → Prop) : F_graph_Graph_In (Sys.of Go.Proofs.Try.prog) ids g0 s1 n2 h R = denFn Go.Proofs.Try.prog Go.Proofs.Try.f18 H_graph_Graph_In [g0, s1, n2] h R := by kernel_rfl
theorem C_graph_Graph_In {g0 s1 n2 : Value} {h : Hp} {R : Value → Hp → Prop} (H : F_graph_Graph_In (Sys.of Go.Proofs.Try.prog) ids g0 s1 n2 h R) : (Sys.of Go.Proofs.Try.prog).C ids.f_graph_Graph_In [g0, s1, n2] h R :=
  cl_of_den Go.Proofs.Try.func18 (by kernel_rfl) mixed (E_graph_Graph_In g0 s1 n2 h R) H

def H_graph_Graph_Edges : HT := (.s .z (.s .z .z))
theorem E_graph_Graph_Edges (g0 s1 : Value) (h : Hp) (R : Value → Hp → Prop) : F_graph_Graph_Edges (Sys.of Go.Proofs.Try.prog) ids g0 s1 h R = denFn Go.Proofs.Try.prog Go.Proofs.Try.f19 H_graph_Graph_Edges [g0, s1] h R := by kernel_rfl
theorem C_graph_Graph_Edges {g0 s1 : Value} {h : Hp} {R : Value → Hp → Prop} (H : F_graph_Graph_Edges (Sys.of Go.Proofs.Try.prog) ids g0 s1 h R) : (Sys.of Go.Proofs.Try.prog).C ids.f_graph_Graph_Edges [g0, s1] h R :=
  cl_of_den Go.Proofs.Try.func19 (by kernel_rfl) mixed (E_graph_Graph_Edges g0 s1 h R) H

def H_simulcastlaw40_handle : HT := (.s .z (.s (.j [11] [0, 1, 22] .z (.c (.s .z .z) .z)) (.s .z .z)))
theorem E_simulcastlaw40_handle (all0 n1 : Value) (h : Hp) (R : Value → Hp → Prop) : F_simulcastlaw40_handle (Sys.of Go.Proofs.Try.prog) ids all0 n1 h R = denFn Go.Proofs.Try.prog Go.Proofs.Try.f20 H_simulcastlaw40_handle [all0, n1] h R := by kernel_rfl
theorem C_simulcastlaw40_handle {all0 n1 : Value} {h : Hp} {R : Value → Hp → Prop} (H : F_simulcastlaw40_handle (Sys.of Go.Proofs.Try.prog) ids all0 n1 h R) : (Sys.of Go.Proofs.Try.prog).C ids.f_simulcastlaw40_handle [all0, n1] h R :=
  cl_of_den Go.Proofs.Try.func20 (by kernel_rfl) mixed (E_simulcastlaw40_handle all0 n1 h R) H

def H_graph_Graph_Weight : HT := (.s .z (.s (.j [23] [1, 2, 3, 4, 42] .z (.c (.s .z .z) .z)) (.s .z (.s (.j [37] [1, 10, 42] .z (.c (.s .z .z) .z)) (.s .z .z)))))
theorem E_graph_Graph_Weight (g0 s1 a2 b3 : Value) (h : Hp) (R : Value → Hp → Prop) : F_graph_Graph_Weight (Sys.of Go.Proofs.Try.prog) ids g0 s1 a2 b3 h R = denFn Go.Proofs.Try.prog Go.Proofs.Try.f21 H_graph_Graph_Weight [g0, s1, a2, b3] h R := by kernel_rfl
theorem C_graph_Graph_Weight {g0 s1 a2 b3 : Value} {h : Hp} {R : Value → Hp → Prop} (H : F_graph_Graph_Weight (Sys.of Go.Proofs.Try.prog) ids g0 s1 a2 b3 h R) : (Sys.of Go.Proofs.Try.prog).C ids.f_graph_Graph_Weight [g0, s1, a2, b3] h R :=
  cl_of_den Go.Proofs.Try.func21 (by kernel_rfl) mixed (E_graph_Graph_Weight g0 s1 a2 b3 h R) H

def H_simulcastref40_Weight : HT := (.s .z (.s (.s .z (.b (.l [8] [1, 2, 3, 40] (.s (.s .z (.c .z .z)) (.s (.b (.j [33] [1, 2, 3, 8, 40] .z (.c (.s .z .z) .z))) .z))))) (.s .z .z)))
theorem E_simulcastref40_Weight (g0 from1 to2 : Value) (h : Hp) (R : Value → Hp → Prop) : F_simulcastref40_Weight (Sys.of Go.Proofs.Try.prog) ids g0 from1 to2 h R = denFn Go.Proofs.Try.prog Go.Proofs.Try.f22 H_simulcastref40_Weight [g0, from1, to2] h R := by kernel_rfl
theorem C_simulcastref40_Weight {g0 from1 to2 : Value} {h : Hp} {R : Value → Hp → Prop} (H : F_simulcastref40_Weight (Sys.of Go.Proofs.Try.prog) ids g0 from1 to2 h R) : (Sys.of Go.Proofs.Try.prog).C ids.f_simulcastref40_Weight [g0, from1, to2] h R :=
  cl_of_den Go.Proofs.Try.func22 (by kernel_rfl) mixed (E_simulcastref40_Weight g0 from1 to2 h R) H

def H_graph_Graph_Label : HT := (.s .z (.s (.s .z (.c (.s .z .z) .z)) (.s .z .z)))
theorem E_graph_Graph_Label (g0 s1 n2 : Value) (h : Hp) (R : Value → Hp → Prop) : F_graph_Graph_Label (Sys.of Go.Proofs.Try.prog) ids g0 s1 n2 h R = denFn Go.Proofs.Try.prog Go.Proofs.Try.f23 H_graph_Graph_Label [g0, s1, n2] h R := by kernel_rfl
theorem C_graph_Graph_Label {g0 s1 n2 : Value} {h : Hp} {R : Value → Hp → Prop} (H : F_graph_Graph_Label (Sys.of Go.Proofs.Try.prog) ids g0 s1 n2 h R) : (Sys.of Go.Proofs.Try.prog).C ids.f_graph_Graph_Label [g0, s1, n2] h R :=
  cl_of_den Go.Proofs.Try.func23 (by kernel_rfl) mixed (E_graph_Graph_Label g0 s1 n2 h R) H

def H_simulcastref40_Has : HT := (.s .z (.s (.s .z (.b (.l [5] [1, 2, 21] (.s (.s .z (.c .z .z)) (.s (.b (.s .z (.c (.s .z .z) .z))) .z))))) (.s .z .z)))
theorem E_simulcastref40_Has (g0 v1 : Value) (h : Hp) (R : Value → Hp → Prop) : F_simulcastref40_Has (Sys.of Go.Proofs.Try.prog) ids g0 v1 h R = denFn Go.Proofs.Try.prog Go.Proofs.Try.f24 H_simulcastref40_Has [g0, v1] h R := by kernel_rfl
theorem C_simulcastref40_Has {g0 v1 : Value} {h : Hp} {R : Value → Hp → Prop} (H : F_simulcastref40_Has (Sys.of Go.Proofs.Try.prog) ids g0 v1 h R) : (Sys.of Go.Proofs.Try.prog).C ids.f_simulcastref40_Has [g0, v1] h R :=
  cl_of_den Go.Proofs.Try.func24 (by kernel_rfl) mixed (E_simulcastref40_Has g0 v1 h R) H

def H_simulcastref40_Label : HT := (.s .z (.s (.s .z (.b (.l [5] [1, 2, 27] (.s (.s .z (.c .z .z)) (.s (.b (.s .z (.c (.s .z .z) .z))) .z))))) (.s .z .z)))
theorem E_simulcastref40_Label (g0 v1 : Value) (h : Hp) (R : Value → Hp → Prop) : F_simulcastref40_Label (Sys.of Go.Proofs.Try.prog) ids g0 v1 h R = denFn Go.Proofs.Try.prog Go.Proofs.Try.f25 H_simulcastref40_Label [g0, v1] h R := by kernel_rfl
theorem C_simulcastref40_Label {g0 v1 : Value} {h : Hp} {R : Value → Hp → Prop} (H : F_simulcastref40_Label (Sys.of Go.Proofs.Try.prog) ids g0 v1 h R) : (Sys.of Go.Proofs.Try.prog).C ids.f_simulcastref40_Label [g0, v1] h R :=
  cl_of_den Go.Proofs.Try.func25 (by kernel_rfl) mixed (E_simulcastref40_Label g0 v1 h R) H

def H_simulcastlaw40_made : HT := (.s .z (.s .z .z))
theorem E_simulcastlaw40_made (nodes0 : Value) (h : Hp) (R : Value → Hp → Prop) : F_simulcastlaw40_made (Sys.of Go.Proofs.Try.prog) ids nodes0 h R = denFn Go.Proofs.Try.prog Go.Proofs.Try.f26 H_simulcastlaw40_made [nodes0] h R := by kernel_rfl
theorem C_simulcastlaw40_made {nodes0 : Value} {h : Hp} {R : Value → Hp → Prop} (H : F_simulcastlaw40_made (Sys.of Go.Proofs.Try.prog) ids nodes0 h R) : (Sys.of Go.Proofs.Try.prog).C ids.f_simulcastlaw40_made [nodes0] h R :=
  cl_of_den Go.Proofs.Try.func26 (by kernel_rfl) mixed (E_simulcastlaw40_made nodes0 h R) H

def H_simulcastlaw40_empty : HT := (.s .z (.s .z (.s (.s .z (.b (.l [4] [0, 3, 16] (.s (.s .z (.c .z .z)) (.s (.b .z) .z))))) (.s .z .z))))
theorem E_simulcastlaw40_empty (places0 : Value) (h : Hp) (R : Value → Hp → Prop) : F_simulcastlaw40_empty (Sys.of Go.Proofs.Try.prog) ids places0 h R = denFn Go.Proofs.Try.prog Go.Proofs.Try.f27 H_simulcastlaw40_empty [places0] h R := by kernel_rfl
theorem C_simulcastlaw40_empty {places0 : Value} {h : Hp} {R : Value → Hp → Prop} (H : F_simulcastlaw40_empty (Sys.of Go.Proofs.Try.prog) ids places0 h R) : (Sys.of Go.Proofs.Try.prog).C ids.f_simulcastlaw40_empty [places0] h R :=
  cl_of_den Go.Proofs.Try.func27 (by kernel_rfl) mixed (E_simulcastlaw40_empty places0 h R) H

def H_simulcastlaw40_do : HT := (.s .z (.s (.o (oc [0, 1, 2, 4, 5, 6, 3, 7, 8, 9] .nil)) (.s .z (.s (.s .z (.b (.j [47] [1, 3, 5, 7, 9, 10, 13, 14, 15, 46, 258] (.s .z (.c .z .z)) (.c (.s .z (.s (.s .z (.c (.j [11, 12] [10, 258] .z .z) .z)) (.s .z (.j [11, 12] [10, 258] .z .z)))) (.j [104] [1, 3, 5, 7, 9, 10, 13, 14, 15, 46, 258] (.s .z (.c .z .z)) (.c (.s .z (.s .z (.s (.b (.j [124] [3, 5, 7, 9, 10, 13, 14, 15, 20, 21, 23, 258] .z (.c (.j [11, 12] [10, 258] .z .z) (.s .z (.c (.j [11, 12] [10, 258] .z .z) (.s .z (.c (.j [11, 12] [10, 258] .z .z) .z))))))) (.s .z (.j [11, 12] [10, 258] .z .z))))) (.s .z (.c (.s .z (.s (.s .z (.c (.s .z .z) .z)) (.s .z .z))) (.s .z (.c (.s .z (.s (.s .z (.c (.j [11, 12] [10, 258] .z .z) .z)) (.j [11, 12] [10, 258] .z .z))) .z)))))))))) (.s .z .z)))))
theorem E_simulcastlaw40_do (g0 s1 x2 all3 c4 : Value) (h : Hp) (R : Value → Hp → Prop) : F_simulcastlaw40_do (Sys.of Go.Proofs.Try.prog) ids g0 s1 x2 all3 c4 h R = denFn Go.Proofs.Try.prog Go.Proofs.Try.f28 H_simulcastlaw40_do [g0, s1, x2, all3, c4] h R := by kernel_rfl
theorem C_simulcastlaw40_do {g0 s1 x2 all3 c4 : Value} {h : Hp} {R : Value → Hp → Prop} (H : F_simulcastlaw40_do (Sys.of Go.Proofs.Try.prog) ids g0 s1 x2 all3 c4 h R) : (Sys.of Go.Proofs.Try.prog).C ids.f_simulcastlaw40_do [g0, s1, x2, all3, c4] h R :=
  cl_of_den Go.Proofs.Try.func28 (by kernel_rfl) mixed (E_simulcastlaw40_do g0 s1 x2 all3 c4 h R) H

def H_simulcastlaw40_same : HT := (.s .z (.s .z (.s (.j [61] [1, 3, 5, 7, 139] (.o (oc [0, 1, 2, 3, 4, 5, 6, 7, 8, 9, 10, 11, 12, 14, 15, 16, 13, 17, 18, 19, 20, 22, 23, 24, 21, 25, 26, 27, 28, 30, 31, 32, 33, 34, 35, 36, 29, 37, 38] .nil)) (.c (.s .z .z) .z)) (.s (.s .z (.b (.l [9] [1, 3, 5, 7, 139] (.s (.s .z (.c .z .z)) (.s (.b (.s .z (.s .z (.s .z (.s .z (.j [138] [1, 3, 5, 7, 9, 139] .z (.c (.s .z .z) .z))))))) .z))))) (.s .z .z)))))
theorem E_simulcastlaw40_same (g0 s1 x2 : Value) (h : Hp) (R : Value → Hp → Prop) : F_simulcastlaw40_same (Sys.of Go.Proofs.Try.prog) ids g0 s1 x2 h R = denFn Go.Proofs.Try.prog Go.Proofs.Try.f29 H_simulcastlaw40_same [g0, s1, x2] h R := by kernel_rfl
theorem C_simulcastlaw40_same {g0 s1 x2 : Value} {h : Hp} {R : Value → Hp → Prop} (H : F_simulcastlaw40_same (Sys.of Go.Proofs.Try.prog) ids g0 s1 x2 h R) : (Sys.of Go.Proofs.Try.prog).C ids.f_simulcastlaw40_same [g0, s1, x2] h R :=
  cl_of_den Go.Proofs.Try.func29 (by kernel_rfl) mixed (E_simulcastlaw40_same g0 s1 x2 h R) H

def H_space_New : HT := (.s .z (.s .z (.s (.s .z (.b (.l [] [3, 11, 27] (.s .z (.s (.c .z .z) (.b (.s .z (.s .z (.c (.o (oc [0, 1, 2, 3, 4, 5, 6] .nil)) .z))))))))) (.s .z .z))))
theorem E_space_New (known0 : Value) (h : Hp) (R : Value → Hp → Prop) : F_space_New (Sys.of Go.Proofs.Try.prog) ids known0 h R = denFn Go.Proofs.Try.prog Go.Proofs.Try.f30 H_space_New [known0] h R := by kernel_rfl
theorem C_space_New {known0 : Value} {h : Hp} {R : Value → Hp → Prop} (H : F_space_New (Sys.of Go.Proofs.Try.prog) ids known0 h R) : (Sys.of Go.Proofs.Try.prog).C ids.f_space_New [known0] h R :=
  cl_of_den Go.Proofs.Try.func30 (by kernel_rfl) mixed (E_space_New known0 h R) H

def H_space_Space_Mark : HT := (.s .z (.s (.s .z (.c (.s .z .z) .z)) (.s .z .z)))
theorem E_space_Space_Mark (s0 : Value) (h : Hp) (R : Value → Hp → Prop) : F_space_Space_Mark (Sys.of Go.Proofs.Try.prog) ids s0 h R = denFn Go.Proofs.Try.prog Go.Proofs.Try.f31 H_space_Space_Mark [s0] h R := by kernel_rfl
theorem C_space_Space_Mark {s0 : Value} {h : Hp} {R : Value → Hp → Prop} (H : F_space_Space_Mark (Sys.of Go.Proofs.Try.prog) ids s0 h R) : (Sys.of Go.Proofs.Try.prog).C ids.f_space_Space_Mark [s0] h R :=
  cl_of_den Go.Proofs.Try.func31 (by kernel_rfl) mixed (E_space_Space_Mark s0 h R) H

def H_graph_Graph_Add : HT := (.s .z (.s .z (.s .z (.s (.s .z (.c (.s (.o (oc [0, 1, 2] .nil)) .z) .z)) (.s .z (.s (.s .z (.b (.l [32] [1, 3, 7, 9, 30, 31, 70] (.s .z (.s (.c .z .z) (.j [] [1, 3, 7, 9, 30, 31, 32, 70] (.b (.s .z (.j [42] [1, 3, 7, 9, 10, 11, 30, 31, 32, 70] .z (.c .z .z)))) .z)))))) (.s (.s (.o (oc [0, 1, 2, 4, 3, 5, 6] .nil)) (.s .z (.c (.s .z .z) .z))) (.s .z (.s .z (.s .z .z))))))))))
theorem E_graph_Graph_Add (g0 s1 name2 : Value) (h : Hp) (R : Value → Hp → Prop) : F_graph_Graph_Add (Sys.of Go.Proofs.Try.prog) ids g0 s1 name2 h R = denFn Go.Proofs.Try.prog Go.Proofs.Try.f32 H_graph_Graph_Add [g0, s1, name2] h R := by kernel_rfl
theorem C_graph_Graph_Add {g0 s1 name2 : Value} {h : Hp} {R : Value → Hp → Prop} (H : F_graph_Graph_Add (Sys.of Go.Proofs.Try.prog) ids g0 s1 name2 h R) : (Sys.of Go.Proofs.Try.prog).C ids.f_graph_Graph_Add [g0, s1, name2] h R :=
  cl_of_den Go.Proofs.Try.func32 (by kernel_rfl) mixed (E_graph_Graph_Add g0 s1 name2 h R) H

def H_graph_Graph_Link : HT := (.s .z (.s .z (.s (.j [34] [1, 2, 3, 4, 5, 11, 117] .z (.c (.s .z .z) .z)) (.s .z (.s (.s .z (.c (.s .z .z) .z)) (.s .z (.s (.s .z (.c (.s (.o (oc [0, 1, 2] .nil)) .z) .z)) (.s (.s .z (.c (.s .z .z) .z)) (.s .z (.s (.s .z (.b (.l [66] [1, 2, 3, 5, 11, 15, 64, 65, 117] (.s .z (.s (.c .z .z) (.s (.b (.s .z .z)) .z)))))) (.s (.s (.o (oc [0, 1, 2, 3, 5, 4, 6, 7] .nil)) (.s .z (.c (.s .z .z) .z))) (.s (.s (.o (oc [0, 1, 2, 3, 5, 4, 6, 7] .nil)) (.s .z (.c (.s .z .z) .z))) (.s .z (.s .z (.s .z (.s .z (.s .z .z)))))))))))))))))
theorem E_graph_Graph_Link (g0 s1 a2 b3 heavy4 : Value) (h : Hp) (R : Value → Hp → Prop) : F_graph_Graph_Link (Sys.of Go.Proofs.Try.prog) ids g0 s1 a2 b3 heavy4 h R = denFn Go.Proofs.Try.prog Go.Proofs.Try.f33 H_graph_Graph_Link [g0, s1, a2, b3, heavy4] h R := by kernel_rfl
theorem C_graph_Graph_Link {g0 s1 a2 b3 heavy4 : Value} {h : Hp} {R : Value → Hp → Prop} (H : F_graph_Graph_Link (Sys.of Go.Proofs.Try.prog) ids g0 s1 a2 b3 heavy4 h R) : (Sys.of Go.Proofs.Try.prog).C ids.f_graph_Graph_Link [g0, s1, a2, b3, heavy4] h R :=
  cl_of_den Go.Proofs.Try.func33 (by kernel_rfl) mixed (E_graph_Graph_Link g0 s1 a2 b3 heavy4 h R) H

def H_graph_Graph_Cut : HT := (.s .z (.s .z (.s (.s .z (.c (.s .z .z) .z)) (.s .z .z))))
theorem E_graph_Graph_Cut (g0 s1 n2 : Value) (h : Hp) (R : Value → Hp → Prop) : F_graph_Graph_Cut (Sys.of Go.Proofs.Try.prog) ids g0 s1 n2 h R = denFn Go.Proofs.Try.prog Go.Proofs.Try.f34 H_graph_Graph_Cut [g0, s1, n2] h R := by kernel_rfl
theorem C_graph_Graph_Cut {g0 s1 n2 : Value} {h : Hp} {R : Value → Hp → Prop} (H : F_graph_Graph_Cut (Sys.of Go.Proofs.Try.prog) ids g0 s1 n2 h R) : (Sys.of Go.Proofs.Try.prog).C ids.f_graph_Graph_Cut [g0, s1, n2] h R :=
  cl_of_den Go.Proofs.Try.func34 (by kernel_rfl) mixed (E_graph_Graph_Cut g0 s1 n2 h R) H

def H_graph_Graph_Drop : HT := (.s .z (.s .z (.s (.s .z (.c (.s .z .z) .z)) (.s .z (.s (.s (.o (oc [0, 1, 3, 4, 8, 2, 5, 6, 7] .nil)) (.b (.l [34] [1, 2, 3, 7, 8, 32, 33, 74] (.s .z (.s (.c .z .z) (.s (.b (.s .z (.s .z (.s .z (.c (.s .z .z) .z))))) .z)))))) (.s (.s (.o (oc [0, 1, 2, 4, 3, 5, 6] .nil)) (.s .z (.c (.s .z .z) .z))) (.s .z (.s .z (.s (.s .z (.s .z (.c (.s .z .z) .z))) (.s .z .z))))))))))
theorem E_graph_Graph_Drop (g0 s1 n2 : Value) (h : Hp) (R : Value → Hp → Prop) : F_graph_Graph_Drop (Sys.of Go.Proofs.Try.prog) ids g0 s1 n2 h R = denFn Go.Proofs.Try.prog Go.Proofs.Try.f35 H_graph_Graph_Drop [g0, s1, n2] h R := by kernel_rfl
theorem C_graph_Graph_Drop {g0 s1 n2 : Value} {h : Hp} {R : Value → Hp → Prop} (H : F_graph_Graph_Drop (Sys.of Go.Proofs.Try.prog) ids g0 s1 n2 h R) : (Sys.of Go.Proofs.Try.prog).C ids.f_graph_Graph_Drop [g0, s1, n2] h R :=
  cl_of_den Go.Proofs.Try.func35 (by kernel_rfl) mixed (E_graph_Graph_Drop g0 s1 n2 h R) H

def H_space_Space_Ended : HT := (.s .z (.j [2] [11] .z .z))
theorem E_space_Space_Ended (s0 : Value) (h : Hp) (R : Value → Hp → Prop) : F_space_Space_Ended (Sys.of Go.Proofs.Try.prog) ids s0 h R = denFn Go.Proofs.Try.prog Go.Proofs.Try.f36 H_space_Space_Ended [s0] h R := by kernel_rfl
theorem C_space_Space_Ended {s0 : Value} {h : Hp} {R : Value → Hp → Prop} (H : F_space_Space_Ended (Sys.of Go.Proofs.Try.prog) ids s0 h R) : (Sys.of Go.Proofs.Try.prog).C ids.f_space_Space_Ended [s0] h R :=
  cl_of_den Go.Proofs.Try.func36 (by kernel_rfl) mixed (E_space_Space_Ended s0 h R) H

def H_simulcastref40_Out : HT := (.s .z (.s .z (.s (.s .z (.b (.l [5, 6] [1, 2, 39] (.s (.s .z (.c .z .z)) (.j [5] [1, 2, 6, 39] (.b (.s .z (.c (.o (oc [0, 1, 2, 3, 4, 5, 6, 7, 8, 9, 10, 11, 12, 13, 14, 15, 16] .nil)) .z))) .z))))) (.s .z .z))))
theorem E_simulcastref40_Out (g0 v1 : Value) (h : Hp) (R : Value → Hp → Prop) : F_simulcastref40_Out (Sys.of Go.Proofs.Try.prog) ids g0 v1 h R = denFn Go.Proofs.Try.prog Go.Proofs.Try.f37 H_simulcastref40_Out [g0, v1] h R := by kernel_rfl
theorem C_simulcastref40_Out {g0 v1 : Value} {h : Hp} {R : Value → Hp → Prop} (H : F_simulcastref40_Out (Sys.of Go.Proofs.Try.prog) ids g0 v1 h R) : (Sys.of Go.Proofs.Try.prog).C ids.f_simulcastref40_Out [g0, v1] h R :=
  cl_of_den Go.Proofs.Try.func37 (by kernel_rfl) mixed (E_simulcastref40_Out g0 v1 h R) H

def H_simulcastref40_In : HT := (.s .z (.s .z (.s (.s .z (.b (.l [5, 6] [1, 2, 39] (.s (.s .z (.c .z .z)) (.j [5] [1, 2, 6, 39] (.b (.s .z (.c (.o (oc [0, 1, 2, 3, 4, 5, 6, 7, 8, 9, 10, 11, 12, 13, 14, 15, 16] .nil)) .z))) .z))))) (.s .z .z))))
theorem E_simulcastref40_In (g0 v1 : Value) (h : Hp) (R : Value → Hp → Prop) : F_simulcastref40_In (Sys.of Go.Proofs.Try.prog) ids g0 v1 h R = denFn Go.Proofs.Try.prog Go.Proofs.Try.f38 H_simulcastref40_In [g0, v1] h R := by kernel_rfl
theorem C_simulcastref40_In {g0 v1 : Value} {h : Hp} {R : Value → Hp → Prop} (H : F_simulcastref40_In (Sys.of Go.Proofs.Try.prog) ids g0 v1 h R) : (Sys.of Go.Proofs.Try.prog).C ids.f_simulcastref40_In [g0, v1] h R :=
  cl_of_den Go.Proofs.Try.func38 (by kernel_rfl) mixed (E_simulcastref40_In g0 v1 h R) H

def H_pool_Pool_Free : HT := (.s .z (.s (.s .z (.s .z (.c (.s .z .z) .z))) (.s .z (.s .z (.s .z (.s (.b (.l [7, 8] [1, 2, 47] (.b (.s .z (.s (.b (.s .z (.c .z (.j [29] [1, 2, 7, 8, 9, 47] .z (.c (.s .z .z) .z))))) (.s .z .z)))))) (.s .z .z)))))))
theorem E_pool_Pool_Free (p0 w1 : Value) (h : Hp) (R : Value → Hp → Prop) : F_pool_Pool_Free (Sys.of Go.Proofs.Try.prog) ids p0 w1 h R = denFn Go.Proofs.Try.prog Go.Proofs.Try.f39 H_pool_Pool_Free [p0, w1] h R := by kernel_rfl
theorem C_pool_Pool_Free {p0 w1 : Value} {h : Hp} {R : Value → Hp → Prop} (H : F_pool_Pool_Free (Sys.of Go.Proofs.Try.prog) ids p0 w1 h R) : (Sys.of Go.Proofs.Try.prog).C ids.f_pool_Pool_Free [p0, w1] h R :=
  cl_of_den Go.Proofs.Try.func39 (by kernel_rfl) mixed (E_pool_Pool_Free p0 w1 h R) H

def H_space_Space_Get : HT := (.s .z (.s (.s .z (.c (.s .z .z) .z)) (.s .z (.s .z .z))))
theorem E_space_Space_Get (s0 at1 : Value) (h : Hp) (R : Value → Hp → Prop) : F_space_Space_Get (Sys.of Go.Proofs.Try.prog) ids s0 at1 h R = denFn Go.Proofs.Try.prog Go.Proofs.Try.f40 H_space_Space_Get [s0, at1] h R := by kernel_rfl
theorem C_space_Space_Get {s0 at1 : Value} {h : Hp} {R : Value → Hp → Prop} (H : F_space_Space_Get (Sys.of Go.Proofs.Try.prog) ids s0 at1 h R) : (Sys.of Go.Proofs.Try.prog).C ids.f_space_Space_Get [s0, at1] h R :=
  cl_of_den Go.Proofs.Try.func40 (by kernel_rfl) mixed (E_space_Space_Get s0 at1 h R) H

def H_simulcastlaw37_awake : HT := (.s .z (.s .z (.s .z (.s (.s .z (.b (.l [26] [1, 3, 24, 25, 114] (.s .z (.s (.c .z .z) (.s (.b (.s .z (.s .z (.j [44] [1, 3, 24, 25, 26, 114] .z (.c (.s .z .z) .z))))) .z)))))) (.s (.o (oc [0, 1, 3, 4, 2, 5, 6, 7] .nil)) (.s .z (.s .z (.s .z (.j [0] [114] .z .z)))))))))
theorem E_simulcastlaw37_awake (h : Hp) (R : Value → Hp → Prop) : F_simulcastlaw37_awake (Sys.of Go.Proofs.Try.prog) ids h R = denFn Go.Proofs.Try.prog Go.Proofs.Try.f41 H_simulcastlaw37_awake [] h R := by kernel_rfl
theorem C_simulcastlaw37_awake {h : Hp} {R : Value → Hp → Prop} (H : F_simulcastlaw37_awake (Sys.of Go.Proofs.Try.prog) ids h R) : (Sys.of Go.Proofs.Try.prog).C ids.f_simulcastlaw37_awake [] h R :=
  cl_of_den Go.Proofs.Try.func41 (by kernel_rfl) mixed (E_simulcastlaw37_awake h R) H

def H_simulcastlaw37_made : HT := (.s .z (.s .z .z))
theorem E_simulcastlaw37_made (nodes0 : Value) (h : Hp) (R : Value → Hp → Prop) : F_simulcastlaw37_made (Sys.of Go.Proofs.Try.prog) ids nodes0 h R = denFn Go.Proofs.Try.prog Go.Proofs.Try.f42 H_simulcastlaw37_made [nodes0] h R := by kernel_rfl
theorem C_simulcastlaw37_made {nodes0 : Value} {h : Hp} {R : Value → Hp → Prop} (H : F_simulcastlaw37_made (Sys.of Go.Proofs.Try.prog) ids nodes0 h R) : (Sys.of Go.Proofs.Try.prog).C ids.f_simulcastlaw37_made [nodes0] h R :=
  cl_of_den Go.Proofs.Try.func42 (by kernel_rfl) mixed (E_simulcastlaw37_made nodes0 h R) H

def H_simulcastlaw37_empty : HT := (.s .z (.s .z (.s (.s .z (.b (.l [4] [0, 3, 16] (.s (.s .z (.c .z .z)) (.s (.b .z) .z))))) (.s .z .z))))
theorem E_simulcastlaw37_empty (places0 : Value) (h : Hp) (R : Value → Hp → Prop) : F_simulcastlaw37_empty (Sys.of Go.Proofs.Try.prog) ids places0 h R = denFn Go.Proofs.Try.prog Go.Proofs.Try.f43 H_simulcastlaw37_empty [places0] h R := by kernel_rfl
theorem C_simulcastlaw37_empty {places0 : Value} {h : Hp} {R : Value → Hp → Prop} (H : F_simulcastlaw37_empty (Sys.of Go.Proofs.Try.prog) ids places0 h R) : (Sys.of Go.Proofs.Try.prog).C ids.f_simulcastlaw37_empty [places0] h R :=
  cl_of_den Go.Proofs.Try.func43 (by kernel_rfl) mixed (E_simulcastlaw37_empty places0 h R) H

def H_simulcastlaw37_do : HT := (.s .z (.s (.s .z (.b (.s .z (.c (.s .z (.s .z (.j [10, 11] [238] .z .z))) (.s .z (.c (.s .z (.s .z (.j [10, 11] [238] .z .z))) (.s .z (.c (.s .z (.j [10, 11] [238] .z .z)) (.s .z (.c (.s .z (.s .z (.j [10, 11] [238] .z .z))) (.s .z (.c (.s .z (.s .z (.j [10, 11] [238] .z .z))) .z)))))))))))) (.s .z (.s .z (.s (.j [208] [2, 8, 31, 32, 33, 34, 35, 238] .z (.c (.j [10, 11] [238] .z .z) .z)) (.j [10, 11] [238] .z .z))))))
theorem E_simulcastlaw37_do (t0 s1 l2 c3 nodes4 : Value) (h : Hp) (R : Value → Hp → Prop) : F_simulcastlaw37_do (Sys.of Go.Proofs.Try.prog) ids t0 s1 l2 c3 nodes4 h R = denFn Go.Proofs.Try.prog Go.Proofs.Try.f44 H_simulcastlaw37_do [t0, s1, l2, c3, nodes4] h R := by kernel_rfl
theorem C_simulcastlaw37_do {t0 s1 l2 c3 nodes4 : Value} {h : Hp} {R : Value → Hp → Prop} (H : F_simulcastlaw37_do (Sys.of Go.Proofs.Try.prog) ids t0 s1 l2 c3 nodes4 h R) : (Sys.of Go.Proofs.Try.prog).C ids.f_simulcastlaw37_do [t0, s1, l2, c3, nodes4] h R :=
  cl_of_den Go.Proofs.Try.func44 (by kernel_rfl) mixed (E_simulcastlaw37_do t0 s1 l2 c3 nodes4 h R) H

def H_simulcastlaw37_shaped : HT := (.s .z (.s .z (.s (.s .z (.c (.s .z .z) .z)) (.s .z (.s .z (.s (.s .z (.b (.l [9, 11] [0, 1, 2, 7, 8, 10, 98] (.s (.s .z (.c .z .z)) (.s (.b .z) .z))))) (.j [6] [98] (.o (oc [0, 1, 2, 3, 4, 6, 7, 8, 9, 10, 5, 11, 12, 13, 14, 15, 16, 18, 19, 20, 21, 22, 17, 23, 24, 25, 26, 27, 28, 30, 29, 31, 32, 33, 34, 35, 36, 38, 37, 39, 40, 41, 42, 43, 44, 45, 47, 48, 49, 46, 50, 51, 52, 53, 54, 55, 56, 58, 59, 60, 61, 57, 62, 63, 64] .nil)) .z)))))))
theorem E_simulcastlaw37_shaped (s0 at1 l2 : Value) (h : Hp) (R : Value → Hp → Prop) : F_simulcastlaw37_shaped (Sys.of Go.Proofs.Try.prog) ids s0 at1 l2 h R = denFn Go.Proofs.Try.prog Go.Proofs.Try.f45 H_simulcastlaw37_shaped [s0, at1, l2] h R := by kernel_rfl
theorem C_simulcastlaw37_shaped {s0 at1 l2 : Value} {h : Hp} {R : Value → Hp → Prop} (H : F_simulcastlaw37_shaped (Sys.of Go.Proofs.Try.prog) ids s0 at1 l2 h R) : (Sys.of Go.Proofs.Try.prog).C ids.f_simulcastlaw37_shaped [s0, at1, l2] h R :=
  cl_of_den Go.Proofs.Try.func45 (by kernel_rfl) mixed (E_simulcastlaw37_shaped s0 at1 l2 h R) H

def H_simulcastlaw37_same : HT := (.s .z (.s .z (.s (.j [41] [2, 7, 8, 70] .z (.c (.s .z .z) .z)) (.s (.s .z (.b (.l [10] [2, 7, 8, 70] (.s (.s .z (.c .z .z)) (.s (.b (.j [69] [2, 7, 8, 10, 70] (.o (oc [0, 1, 2, 3, 4, 5, 6, 7, 8, 9, 10, 11, 12, 13, 14, 15, 16, 17, 18, 19, 20, 21] .nil)) (.c (.s .z .z) .z))) .z))))) (.s .z .z)))))
theorem E_simulcastlaw37_same (t0 s1 l2 : Value) (h : Hp) (R : Value → Hp → Prop) : F_simulcastlaw37_same (Sys.of Go.Proofs.Try.prog) ids t0 s1 l2 h R = denFn Go.Proofs.Try.prog Go.Proofs.Try.f46 H_simulcastlaw37_same [t0, s1, l2] h R := by kernel_rfl
theorem C_simulcastlaw37_same {t0 s1 l2 : Value} {h : Hp} {R : Value → Hp → Prop} (H : F_simulcastlaw37_same (Sys.of Go.Proofs.Try.prog) ids t0 s1 l2 h R) : (Sys.of Go.Proofs.Try.prog).C ids.f_simulcastlaw37_same [t0, s1, l2] h R :=
  cl_of_den Go.Proofs.Try.func46 (by kernel_rfl) mixed (E_simulcastlaw37_same t0 s1 l2 h R) H

def H_tree_Tree_Drop : HT := (.s .z (.s .z (.s .z (.s .z (.s (.b (.s .z (.c (.s .z .z) (.s .z (.c (.s .z .z) .z))))) (.s .z (.s .z (.s .z (.s .z (.s .z (.s (.o (oc [0, 1, 2, 3, 4, 5, 6, 7, 8, 9, 10] .nil)) (.s (.s .z (.c (.s .z .z) .z)) (.s (.s .z (.s .z (.c (.s .z .z) .z))) (.s .z .z))))))))))))))
theorem E_tree_Tree_Drop (t0 s1 k2 : Value) (h : Hp) (R : Value → Hp → Prop) : F_tree_Tree_Drop (Sys.of Go.Proofs.Try.prog) ids t0 s1 k2 h R = denFn Go.Proofs.Try.prog Go.Proofs.Try.f47 H_tree_Tree_Drop [t0, s1, k2] h R := by kernel_rfl
theorem C_tree_Tree_Drop {t0 s1 k2 : Value} {h : Hp} {R : Value → Hp → Prop} (H : F_tree_Tree_Drop (Sys.of Go.Proofs.Try.prog) ids t0 s1 k2 h R) : (Sys.of Go.Proofs.Try.prog).C ids.f_tree_Tree_Drop [t0, s1, k2] h R :=
  cl_of_den Go.Proofs.Try.func47 (by kernel_rfl) mixed (E_tree_Tree_Drop t0 s1 k2 h R) H

def H_tree_Tree_Get : HT := (.s .z (.s .z (.s (.s .z (.b (.r .z (.b (.s .z (.c (.s .z .z) .z)))))) (.s .z .z))))
theorem E_tree_Tree_Get (t0 s1 k2 : Value) (h : Hp) (R : Value → Hp → Prop) : F_tree_Tree_Get (Sys.of Go.Proofs.Try.prog) ids t0 s1 k2 h R = denFn Go.Proofs.Try.prog Go.Proofs.Try.f48 H_tree_Tree_Get [t0, s1, k2] h R := by kernel_rfl
theorem C_tree_Tree_Get {t0 s1 k2 : Value} {h : Hp} {R : Value → Hp → Prop} (H : F_tree_Tree_Get (Sys.of Go.Proofs.Try.prog) ids t0 s1 k2 h R) : (Sys.of Go.Proofs.Try.prog).C ids.f_tree_Tree_Get [t0, s1, k2] h R :=
  cl_of_den Go.Proofs.Try.func48 (by kernel_rfl) mixed (E_tree_Tree_Get t0 s1 k2 h R) H

def H_tree_Tree_Sum : HT := (.s .z (.s .z .z))
theorem E_tree_Tree_Sum (t0 s1 from2 to3 : Value) (h : Hp) (R : Value → Hp → Prop) : F_tree_Tree_Sum (Sys.of Go.Proofs.Try.prog) ids t0 s1 from2 to3 h R = denFn Go.Proofs.Try.prog Go.Proofs.Try.f49 H_tree_Tree_Sum [t0, s1, from2, to3] h R := by kernel_rfl
theorem C_tree_Tree_Sum {t0 s1 from2 to3 : Value} {h : Hp} {R : Value → Hp → Prop} (H : F_tree_Tree_Sum (Sys.of Go.Proofs.Try.prog) ids t0 s1 from2 to3 h R) : (Sys.of Go.Proofs.Try.prog).C ids.f_tree_Tree_Sum [t0, s1, from2, to3] h R :=
  cl_of_den Go.Proofs.Try.func49 (by kernel_rfl) mixed (E_tree_Tree_Sum t0 s1 from2 to3 h R) H

def H_tree_Tree_Count : HT := (.s .z (.s .z .z))
theorem E_tree_Tree_Count (t0 s1 from2 to3 : Value) (h : Hp) (R : Value → Hp → Prop) : F_tree_Tree_Count (Sys.of Go.Proofs.Try.prog) ids t0 s1 from2 to3 h R = denFn Go.Proofs.Try.prog Go.Proofs.Try.f50 H_tree_Tree_Count [t0, s1, from2, to3] h R := by kernel_rfl
theorem C_tree_Tree_Count {t0 s1 from2 to3 : Value} {h : Hp} {R : Value → Hp → Prop} (H : F_tree_Tree_Count (Sys.of Go.Proofs.Try.prog) ids t0 s1 from2 to3 h R) : (Sys.of Go.Proofs.Try.prog).C ids.f_tree_Tree_Count [t0, s1, from2, to3] h R :=
  cl_of_den Go.Proofs.Try.func50 (by kernel_rfl) mixed (E_tree_Tree_Count t0 s1 from2 to3 h R) H

def H_tree_Tree_Next : HT := (.s .z (.s .z (.s .z (.s (.s .z (.b (.r .z (.b (.s .z (.c .z .z)))))) (.s (.o (oc [0, 1, 2, 3] .nil)) .z)))))
theorem E_tree_Tree_Next (t0 s1 k2 : Value) (h : Hp) (R : Value → Hp → Prop) : F_tree_Tree_Next (Sys.of Go.Proofs.Try.prog) ids t0 s1 k2 h R = denFn Go.Proofs.Try.prog Go.Proofs.Try.f51 H_tree_Tree_Next [t0, s1, k2] h R := by kernel_rfl
theorem C_tree_Tree_Next {t0 s1 k2 : Value} {h : Hp} {R : Value → Hp → Prop} (H : F_tree_Tree_Next (Sys.of Go.Proofs.Try.prog) ids t0 s1 k2 h R) : (Sys.of Go.Proofs.Try.prog).C ids.f_tree_Tree_Next [t0, s1, k2] h R :=
  cl_of_den Go.Proofs.Try.func51 (by kernel_rfl) mixed (E_tree_Tree_Next t0 s1 k2 h R) H

def H_tree_Tree_Nth : HT := (.s .z (.s .z (.s (.s .z (.c (.s .z .z) .z)) (.s .z (.s (.s .z (.b (.l [2, 9, 10] [1, 3, 8, 63] (.s (.j [32] [1, 2, 3, 8, 9, 10, 63] .z (.c .z .z)) (.j [2, 10] [1, 3, 8, 9, 63] (.b (.s .z (.s .z (.s .z (.b (.s .z (.c (.s .z .z) (.s .z (.c .z (.s .z .z)))))))))) .z))))) (.s .z .z))))))
theorem E_tree_Tree_Nth (t0 s1 n2 : Value) (h : Hp) (R : Value → Hp → Prop) : F_tree_Tree_Nth (Sys.of Go.Proofs.Try.prog) ids t0 s1 n2 h R = denFn Go.Proofs.Try.prog Go.Proofs.Try.f52 H_tree_Tree_Nth [t0, s1, n2] h R := by kernel_rfl
theorem C_tree_Tree_Nth {t0 s1 n2 : Value} {h : Hp} {R : Value → Hp → Prop} (H : F_tree_Tree_Nth (Sys.of Go.Proofs.Try.prog) ids t0 s1 n2 h R) : (Sys.of Go.Proofs.Try.prog).C ids.f_tree_Tree_Nth [t0, s1, n2] h R :=
  cl_of_den Go.Proofs.Try.func52 (by kernel_rfl) mixed (E_tree_Tree_Nth t0 s1 n2 h R) H

def H_tree_Tree_Put : HT := (.s .z (.s .z (.s .z (.s .z (.s (.s .z (.c (.s .z .z) .z)) (.s (.s .z (.c (.s .z (.s .z (.s .z (.s .z (.s .z .z))))) .z)) (.s .z (.s (.s .z (.c (.s (.o (oc [0, 1, 2, 3] .nil)) .z) .z)) (.s .z (.s (.b (.l [17] [1, 2, 3, 4, 10, 11, 12, 16, 149] (.s (.j [83] [1, 2, 3, 4, 10, 11, 12, 16, 17, 149] .z (.c .z .z)) (.b .z)))) (.s .z (.s .z (.s .z (.s .z (.j [19, 20] [1, 2, 3, 4, 10, 11, 12, 17, 18, 149] (.s .z (.c .z .z)) (.s .z (.s .z (.s .z (.s .z (.s .z (.s (.o (oc [0, 1, 2, 3, 4, 5, 6, 7, 8, 9, 10] .nil)) (.s (.s .z (.c (.s .z .z) .z)) (.s .z .z)))))))))))))))))))))))
theorem E_tree_Tree_Put (t0 s1 k2 v3 : Value) (h : Hp) (R : Value → Hp → Prop) : F_tree_Tree_Put (Sys.of Go.Proofs.Try.prog) ids t0 s1 k2 v3 h R = denFn Go.Proofs.Try.prog Go.Proofs.Try.f53 H_tree_Tree_Put [t0, s1, k2, v3] h R := by kernel_rfl
theorem C_tree_Tree_Put {t0 s1 k2 v3 : Value} {h : Hp} {R : Value → Hp → Prop} (H : F_tree_Tree_Put (Sys.of Go.Proofs.Try.prog) ids t0 s1 k2 v3 h R) : (Sys.of Go.Proofs.Try.prog).C ids.f_tree_Tree_Put [t0, s1, k2, v3] h R :=
  cl_of_den Go.Proofs.Try.func53 (by kernel_rfl) mixed (E_tree_Tree_Put t0 s1 k2 v3 h R) H

def H_tree_Tree_Walk : HT := (.s .z (.s .z (.s .z (.s (.j [30] [7, 35] .z (.c (.s .z .z) .z)) (.s (.o (oc [0, 1, 2, 3, 4, 5, 6] .nil)) .z)))))
theorem E_tree_Tree_Walk (t0 s1 : Value) (h : Hp) (R : Value → Hp → Prop) : F_tree_Tree_Walk (Sys.of Go.Proofs.Try.prog) ids t0 s1 h R = denFn Go.Proofs.Try.prog Go.Proofs.Try.f54 H_tree_Tree_Walk [t0, s1] h R := by kernel_rfl
theorem C_tree_Tree_Walk {t0 s1 : Value} {h : Hp} {R : Value → Hp → Prop} (H : F_tree_Tree_Walk (Sys.of Go.Proofs.Try.prog) ids t0 s1 h R) : (Sys.of Go.Proofs.Try.prog).C ids.f_tree_Tree_Walk [t0, s1] h R :=
  cl_of_den Go.Proofs.Try.func54 (by kernel_rfl) mixed (E_tree_Tree_Walk t0 s1 h R) H

def H_space_Space_Need : HT := (.s .z (.s (.j [12] [0, 17] .z (.c (.s .z .z) .z)) (.s .z .z)))
theorem E_space_Space_Need (s0 : Value) (h : Hp) (R : Value → Hp → Prop) : F_space_Space_Need (Sys.of Go.Proofs.Try.prog) ids s0 h R = denFn Go.Proofs.Try.prog Go.Proofs.Try.f55 H_space_Space_Need [s0] h R := by kernel_rfl
theorem C_space_Space_Need {s0 : Value} {h : Hp} {R : Value → Hp → Prop} (H : F_space_Space_Need (Sys.of Go.Proofs.Try.prog) ids s0 h R) : (Sys.of Go.Proofs.Try.prog).C ids.f_space_Space_Need [s0] h R :=
  cl_of_den Go.Proofs.Try.func55 (by kernel_rfl) mixed (E_space_Space_Need s0 h R) H

def H_space_Space_Writes : HT := (.s .z (.s .z (.s (.s .z (.c (.s .z .z) .z)) (.s (.s .z (.b (.l [3, 14] [12, 13, 28] (.s .z (.s (.c .z .z) (.s (.b (.s .z .z)) .z)))))) (.s .z (.s .z .z))))))
theorem E_space_Space_Writes (s0 : Value) (h : Hp) (R : Value → Hp → Prop) : F_space_Space_Writes (Sys.of Go.Proofs.Try.prog) ids s0 h R = denFn Go.Proofs.Try.prog Go.Proofs.Try.f56 H_space_Space_Writes [s0] h R := by kernel_rfl
theorem C_space_Space_Writes {s0 : Value} {h : Hp} {R : Value → Hp → Prop} (H : F_space_Space_Writes (Sys.of Go.Proofs.Try.prog) ids s0 h R) : (Sys.of Go.Proofs.Try.prog).C ids.f_space_Space_Writes [s0] h R :=
  cl_of_den Go.Proofs.Try.func56 (by kernel_rfl) mixed (E_space_Space_Writes s0 h R) H

def H_simulcastlaw37_reads : HT := (.s .z (.s .z (.s (.s .z (.b (.l [10] [1, 2, 3, 4, 9, 33] (.s (.s .z (.c .z .z)) (.s (.b .z) .z))))) (.s .z (.s .z (.s .z .z))))))
theorem E_simulcastlaw37_reads (t0 s1 places2 k3 : Value) (h : Hp) (R : Value → Hp → Prop) : F_simulcastlaw37_reads (Sys.of Go.Proofs.Try.prog) ids t0 s1 places2 k3 h R = denFn Go.Proofs.Try.prog Go.Proofs.Try.f57 H_simulcastlaw37_reads [t0, s1, places2, k3] h R := by kernel_rfl
theorem C_simulcastlaw37_reads {t0 s1 places2 k3 : Value} {h : Hp} {R : Value → Hp → Prop} (H : F_simulcastlaw37_reads (Sys.of Go.Proofs.Try.prog) ids t0 s1 places2 k3 h R) : (Sys.of Go.Proofs.Try.prog).C ids.f_simulcastlaw37_reads [t0, s1, places2, k3] h R :=
  cl_of_den Go.Proofs.Try.func57 (by kernel_rfl) mixed (E_simulcastlaw37_reads t0 s1 places2 k3 h R) H

def H_tree_Tree_Len : HT := (.s .z (.s .z .z))
theorem E_tree_Tree_Len (t0 s1 : Value) (h : Hp) (R : Value → Hp → Prop) : F_tree_Tree_Len (Sys.of Go.Proofs.Try.prog) ids t0 s1 h R = denFn Go.Proofs.Try.prog Go.Proofs.Try.f58 H_tree_Tree_Len [t0, s1] h R := by kernel_rfl
theorem C_tree_Tree_Len {t0 s1 : Value} {h : Hp} {R : Value → Hp → Prop} (H : F_tree_Tree_Len (Sys.of Go.Proofs.Try.prog) ids t0 s1 h R) : (Sys.of Go.Proofs.Try.prog).C ids.f_tree_Tree_Len [t0, s1] h R :=
  cl_of_den Go.Proofs.Try.func58 (by kernel_rfl) mixed (E_tree_Tree_Len t0 s1 h R) H

def H_simulcastref40_Same : HT := (.s .z (.s (.s .z (.c (.s .z .z) .z)) (.s (.s .z (.b (.l [5] [0, 1, 26] (.s (.s .z (.c .z .z)) (.s (.b (.s (.o (oc [0, 1, 2, 3, 4, 5, 6, 7, 8] .nil)) (.c (.s .z .z) .z))) .z))))) (.s .z .z))))
theorem E_simulcastref40_Same (a0 b1 : Value) (h : Hp) (R : Value → Hp → Prop) : F_simulcastref40_Same (Sys.of Go.Proofs.Try.prog) ids a0 b1 h R = denFn Go.Proofs.Try.prog Go.Proofs.Try.f59 H_simulcastref40_Same [a0, b1] h R := by kernel_rfl
theorem C_simulcastref40_Same {a0 b1 : Value} {h : Hp} {R : Value → Hp → Prop} (H : F_simulcastref40_Same (Sys.of Go.Proofs.Try.prog) ids a0 b1 h R) : (Sys.of Go.Proofs.Try.prog).C ids.f_simulcastref40_Same [a0, b1] h R :=
  cl_of_den Go.Proofs.Try.func59 (by kernel_rfl) mixed (E_simulcastref40_Same a0 b1 h R) H

def H_graph_Graph_through : HT := (.s .z (.s .z .z))
theorem E_graph_Graph_through (g0 s1 l2 e3 : Value) (h : Hp) (R : Value → Hp → Prop) : F_graph_Graph_through (Sys.of Go.Proofs.Try.prog) ids g0 s1 l2 e3 h R = denFn Go.Proofs.Try.prog Go.Proofs.Try.f60 H_graph_Graph_through [g0, s1, l2, e3] h R := by kernel_rfl
theorem C_graph_Graph_through {g0 s1 l2 e3 : Value} {h : Hp} {R : Value → Hp → Prop} (H : F_graph_Graph_through (Sys.of Go.Proofs.Try.prog) ids g0 s1 l2 e3 h R) : (Sys.of Go.Proofs.Try.prog).C ids.f_graph_Graph_through [g0, s1, l2, e3] h R :=
  cl_of_den Go.Proofs.Try.func60 (by kernel_rfl) mixed (E_graph_Graph_through g0 s1 l2 e3 h R) H

def H_graph_Graph_all : HT := (.s .z (.s .z .z))
theorem E_graph_Graph_all (g0 : Value) (h : Hp) (R : Value → Hp → Prop) : F_graph_Graph_all (Sys.of Go.Proofs.Try.prog) ids g0 h R = denFn Go.Proofs.Try.prog Go.Proofs.Try.f61 H_graph_Graph_all [g0] h R := by kernel_rfl
theorem C_graph_Graph_all {g0 : Value} {h : Hp} {R : Value → Hp → Prop} (H : F_graph_Graph_all (Sys.of Go.Proofs.Try.prog) ids g0 h R) : (Sys.of Go.Proofs.Try.prog).C ids.f_graph_Graph_all [g0] h R :=
  cl_of_den Go.Proofs.Try.func61 (by kernel_rfl) mixed (E_graph_Graph_all g0 h R) H

def H_graph_Graph_edges : HT := (.s .z (.s (.s .z (.c (.s .z .z) .z)) (.s .z (.s .z (.s (.s .z (.b (.r .z (.b (.o (oc [0, 1, 2, 3, 6, 7, 4, 5, 8, 9, 10, 11, 12, 13] .nil)))))) (.s (.s .z (.c (.s (.o (oc [0, 1, 2] .nil)) .z) .z)) (.s .z .z)))))))
theorem E_graph_Graph_edges (g0 s1 n2 l3 whom4 : Value) (h : Hp) (R : Value → Hp → Prop) : F_graph_Graph_edges (Sys.of Go.Proofs.Try.prog) ids g0 s1 n2 l3 whom4 h R = denFn Go.Proofs.Try.prog Go.Proofs.Try.f62 H_graph_Graph_edges [g0, s1, n2, l3, whom4] h R := by kernel_rfl
theorem C_graph_Graph_edges {g0 s1 n2 l3 whom4 : Value} {h : Hp} {R : Value → Hp → Prop} (H : F_graph_Graph_edges (Sys.of Go.Proofs.Try.prog) ids g0 s1 n2 l3 whom4 h R) : (Sys.of Go.Proofs.Try.prog).C ids.f_graph_Graph_edges [g0, s1, n2, l3, whom4] h R :=
  cl_of_den Go.Proofs.Try.func62 (by kernel_rfl) mixed (E_graph_Graph_edges g0 s1 n2 l3 whom4 h R) H

def H_graph_Graph_out : HT := (.s .z (.s .z .z))
theorem E_graph_Graph_out (g0 v1 : Value) (h : Hp) (R : Value → Hp → Prop) : F_graph_Graph_out (Sys.of Go.Proofs.Try.prog) ids g0 v1 h R = denFn Go.Proofs.Try.prog Go.Proofs.Try.f63 H_graph_Graph_out [g0, v1] h R := by kernel_rfl
theorem C_graph_Graph_out {g0 v1 : Value} {h : Hp} {R : Value → Hp → Prop} (H : F_graph_Graph_out (Sys.of Go.Proofs.Try.prog) ids g0 v1 h R) : (Sys.of Go.Proofs.Try.prog).C ids.f_graph_Graph_out [g0, v1] h R :=
  cl_of_den Go.Proofs.Try.func63 (by kernel_rfl) mixed (E_graph_Graph_out g0 v1 h R) H

def H_graph_Graph_in : HT := (.s .z (.s .z .z))
theorem E_graph_Graph_in (g0 v1 : Value) (h : Hp) (R : Value → Hp → Prop) : F_graph_Graph_in (Sys.of Go.Proofs.Try.prog) ids g0 v1 h R = denFn Go.Proofs.Try.prog Go.Proofs.Try.f64 H_graph_Graph_in [g0, v1] h R := by kernel_rfl
theorem C_graph_Graph_in {g0 v1 : Value} {h : Hp} {R : Value → Hp → Prop} (H : F_graph_Graph_in (Sys.of Go.Proofs.Try.prog) ids g0 v1 h R) : (Sys.of Go.Proofs.Try.prog).C ids.f_graph_Graph_in [g0, v1] h R :=
  cl_of_den Go.Proofs.Try.func64 (by kernel_rfl) mixed (E_graph_Graph_in g0 v1 h R) H

def H_graph_Graph_vertex : HT := (.s .z (.j [6] [19] (.o (oc [0, 1, 2, 3, 4, 5, 8, 6, 7, 9, 10, 11, 12] .nil)) .z))
theorem E_graph_Graph_vertex (g0 s1 n2 : Value) (h : Hp) (R : Value → Hp → Prop) : F_graph_Graph_vertex (Sys.of Go.Proofs.Try.prog) ids g0 s1 n2 h R = denFn Go.Proofs.Try.prog Go.Proofs.Try.f65 H_graph_Graph_vertex [g0, s1, n2] h R := by kernel_rfl
theorem C_graph_Graph_vertex {g0 s1 n2 : Value} {h : Hp} {R : Value → Hp → Prop} (H : F_graph_Graph_vertex (Sys.of Go.Proofs.Try.prog) ids g0 s1 n2 h R) : (Sys.of Go.Proofs.Try.prog).C ids.f_graph_Graph_vertex [g0, s1, n2] h R :=
  cl_of_den Go.Proofs.Try.func65 (by kernel_rfl) mixed (E_graph_Graph_vertex g0 s1 n2 h R) H

def H_graph_Graph_find : HT := (.s .z (.s .z (.s (.s (.o (oc [0, 1, 2, 3, 4, 5] .nil)) (.b (.r .z (.b (.s (.o (oc [0, 1, 4, 2, 3, 5] .nil)) (.c (.s .z .z) .z)))))) (.s (.o (oc [0, 1, 2] .nil)) .z))))
theorem E_graph_Graph_find (g0 s1 a2 b3 : Value) (h : Hp) (R : Value → Hp → Prop) : F_graph_Graph_find (Sys.of Go.Proofs.Try.prog) ids g0 s1 a2 b3 h R = denFn Go.Proofs.Try.prog Go.Proofs.Try.f66 H_graph_Graph_find [g0, s1, a2, b3] h R := by kernel_rfl
theorem C_graph_Graph_find {g0 s1 a2 b3 : Value} {h : Hp} {R : Value → Hp → Prop} (H : F_graph_Graph_find (Sys.of Go.Proofs.Try.prog) ids g0 s1 a2 b3 h R) : (Sys.of Go.Proofs.Try.prog).C ids.f_graph_Graph_find [g0, s1, a2, b3] h R :=
  cl_of_den Go.Proofs.Try.func66 (by kernel_rfl) mixed (E_graph_Graph_find g0 s1 a2 b3 h R) H

def H_graph_at : HT := (.s .z (.s .z .z))
theorem E_graph_at (n0 cell1 : Value) (h : Hp) (R : Value → Hp → Prop) : F_graph_at (Sys.of Go.Proofs.Try.prog) ids n0 cell1 h R = denFn Go.Proofs.Try.prog Go.Proofs.Try.f67 H_graph_at [n0, cell1] h R := by kernel_rfl
theorem C_graph_at {n0 cell1 : Value} {h : Hp} {R : Value → Hp → Prop} (H : F_graph_at (Sys.of Go.Proofs.Try.prog) ids n0 cell1 h R) : (Sys.of Go.Proofs.Try.prog).C ids.f_graph_at [n0, cell1] h R :=
  cl_of_den Go.Proofs.Try.func67 (by kernel_rfl) mixed (E_graph_at n0 cell1 h R) H

def H_pool_Pool_Node : HT := (.s .z (.s (.j [23] [1, 2, 34] .z (.c (.s .z .z) .z)) (.s .z (.s (.s .z (.c (.s .z .z) .z)) (.s .z .z)))))
theorem E_pool_Pool_Node (p0 at1 : Value) (h : Hp) (R : Value → Hp → Prop) : F_pool_Pool_Node (Sys.of Go.Proofs.Try.prog) ids p0 at1 h R = denFn Go.Proofs.Try.prog Go.Proofs.Try.f68 H_pool_Pool_Node [p0, at1] h R := by kernel_rfl
theorem C_pool_Pool_Node {p0 at1 : Value} {h : Hp} {R : Value → Hp → Prop} (H : F_pool_Pool_Node (Sys.of Go.Proofs.Try.prog) ids p0 at1 h R) : (Sys.of Go.Proofs.Try.prog).C ids.f_pool_Pool_Node [p0, at1] h R :=
  cl_of_den Go.Proofs.Try.func68 (by kernel_rfl) mixed (E_pool_Pool_Node p0 at1 h R) H

def H_simulcastref40_Add : HT := (.s .z (.s (.o (oc [0, 1, 2, 4, 5, 7, 8, 3, 6, 9, 10] .nil)) .z))
theorem E_simulcastref40_Add (g0 v1 label2 : Value) (h : Hp) (R : Value → Hp → Prop) : F_simulcastref40_Add (Sys.of Go.Proofs.Try.prog) ids g0 v1 label2 h R = denFn Go.Proofs.Try.prog Go.Proofs.Try.f69 H_simulcastref40_Add [g0, v1, label2] h R := by kernel_rfl
theorem C_simulcastref40_Add {g0 v1 label2 : Value} {h : Hp} {R : Value → Hp → Prop} (H : F_simulcastref40_Add (Sys.of Go.Proofs.Try.prog) ids g0 v1 label2 h R) : (Sys.of Go.Proofs.Try.prog).C ids.f_simulcastref40_Add [g0, v1, label2] h R :=
  cl_of_den Go.Proofs.Try.func69 (by kernel_rfl) mixed (E_simulcastref40_Add g0 v1 label2 h R) H

def H_simulcastref40_Is : HT := (.s .z (.s (.s .z (.b (.l [5] [1, 2, 21] (.s (.s .z (.c .z .z)) (.s (.b (.s .z (.c (.s .z .z) .z))) .z))))) (.s .z .z)))
theorem E_simulcastref40_Is (g0 e1 : Value) (h : Hp) (R : Value → Hp → Prop) : F_simulcastref40_Is (Sys.of Go.Proofs.Try.prog) ids g0 e1 h R = denFn Go.Proofs.Try.prog Go.Proofs.Try.f70 H_simulcastref40_Is [g0, e1] h R := by kernel_rfl
theorem C_simulcastref40_Is {g0 e1 : Value} {h : Hp} {R : Value → Hp → Prop} (H : F_simulcastref40_Is (Sys.of Go.Proofs.Try.prog) ids g0 e1 h R) : (Sys.of Go.Proofs.Try.prog).C ids.f_simulcastref40_Is [g0, e1] h R :=
  cl_of_den Go.Proofs.Try.func70 (by kernel_rfl) mixed (E_simulcastref40_Is g0 e1 h R) H

def H_simulcastref40_Link : HT := (.s .z (.s (.o (oc [0, 1, 2, 3, 4, 5, 6, 8, 9, 7, 10, 11, 12] .nil)) .z))
theorem E_simulcastref40_Link (g0 e1 from2 to3 weight4 : Value) (h : Hp) (R : Value → Hp → Prop) : F_simulcastref40_Link (Sys.of Go.Proofs.Try.prog) ids g0 e1 from2 to3 weight4 h R = denFn Go.Proofs.Try.prog Go.Proofs.Try.f71 H_simulcastref40_Link [g0, e1, from2, to3, weight4] h R := by kernel_rfl
theorem C_simulcastref40_Link {g0 e1 from2 to3 weight4 : Value} {h : Hp} {R : Value → Hp → Prop} (H : F_simulcastref40_Link (Sys.of Go.Proofs.Try.prog) ids g0 e1 from2 to3 weight4 h R) : (Sys.of Go.Proofs.Try.prog).C ids.f_simulcastref40_Link [g0, e1, from2, to3, weight4] h R :=
  cl_of_den Go.Proofs.Try.func71 (by kernel_rfl) mixed (E_simulcastref40_Link g0 e1 from2 to3 weight4 h R) H

def H_simulcastref40_Cut : HT := (.s .z (.s .z (.s (.s .z (.b (.l [6] [1, 2, 4, 5, 36] (.s (.s .z (.c .z .z)) (.j [] [1, 2, 4, 5, 6, 36] (.b (.s .z (.c (.o (oc [0, 1, 2, 3, 4, 5, 6, 7, 8, 9, 10] .nil)) .z))) .z))))) (.s .z .z))))
theorem E_simulcastref40_Cut (g0 e1 : Value) (h : Hp) (R : Value → Hp → Prop) : F_simulcastref40_Cut (Sys.of Go.Proofs.Try.prog) ids g0 e1 h R = denFn Go.Proofs.Try.prog Go.Proofs.Try.f72 H_simulcastref40_Cut [g0, e1] h R := by kernel_rfl
theorem C_simulcastref40_Cut {g0 e1 : Value} {h : Hp} {R : Value → Hp → Prop} (H : F_simulcastref40_Cut (Sys.of Go.Proofs.Try.prog) ids g0 e1 h R) : (Sys.of Go.Proofs.Try.prog).C ids.f_simulcastref40_Cut [g0, e1] h R :=
  cl_of_den Go.Proofs.Try.func72 (by kernel_rfl) mixed (E_simulcastref40_Cut g0 e1 h R) H

def H_simulcastref40_Drop : HT := (.s .z (.s .z (.s (.s .z (.b (.l [6] [1, 2, 4, 5, 69] (.s (.s .z (.c .z .z)) (.j [] [1, 2, 4, 5, 6, 69] (.b (.s .z (.c (.o (oc [0, 1, 2, 3, 4, 5, 6, 7, 8, 9, 10] .nil)) .z))) .z))))) (.s (.s .z (.b (.l [7] [1, 2, 4, 5, 69] (.s (.s .z (.c .z .z)) (.j [] [1, 2, 4, 5, 7, 69] (.b (.j [57] [1, 2, 4, 5, 7, 69] .z (.c (.o (oc [0, 1, 2, 3, 4, 5, 6, 7, 8, 9, 10] .nil)) .z))) .z))))) (.s .z .z)))))
theorem E_simulcastref40_Drop (g0 v1 : Value) (h : Hp) (R : Value → Hp → Prop) : F_simulcastref40_Drop (Sys.of Go.Proofs.Try.prog) ids g0 v1 h R = denFn Go.Proofs.Try.prog Go.Proofs.Try.f73 H_simulcastref40_Drop [g0, v1] h R := by kernel_rfl
theorem C_simulcastref40_Drop {g0 v1 : Value} {h : Hp} {R : Value → Hp → Prop} (H : F_simulcastref40_Drop (Sys.of Go.Proofs.Try.prog) ids g0 v1 h R) : (Sys.of Go.Proofs.Try.prog).C ids.f_simulcastref40_Drop [g0, v1] h R :=
  cl_of_den Go.Proofs.Try.func73 (by kernel_rfl) mixed (E_simulcastref40_Drop g0 v1 h R) H

def H_graph_undo : HT := (.s .z (.c .z .z))
theorem E_graph_undo (s0 n1 e2 : Value) (h : Hp) (R : Value → Hp → Prop) : F_graph_undo (Sys.of Go.Proofs.Try.prog) ids s0 n1 e2 h R = denFn Go.Proofs.Try.prog Go.Proofs.Try.f74 H_graph_undo [s0, n1, e2] h R := by kernel_rfl
theorem C_graph_undo {s0 n1 e2 : Value} {h : Hp} {R : Value → Hp → Prop} (H : F_graph_undo (Sys.of Go.Proofs.Try.prog) ids s0 n1 e2 h R) : (Sys.of Go.Proofs.Try.prog).C ids.f_graph_undo [s0, n1, e2] h R :=
  cl_of_den Go.Proofs.Try.func74 (by kernel_rfl) mixed (E_graph_undo s0 n1 e2 h R) H
theorem E0_graph_undo (s0 n1 e2 : Value) (h : Hp) (R : Hp → Prop) : F_graph_undo (Sys.of Go.Proofs.Try.prog) ids s0 n1 e2 h (fun _ h => R h) = denFn0 Go.Proofs.Try.prog Go.Proofs.Try.f74 H_graph_undo [s0, n1, e2] h (fun _ h => R h) := by kernel_rfl
theorem D_graph_undo {s0 n1 e2 : Value} {h : Hp} {R : Hp → Prop} (H : F_graph_undo (Sys.of Go.Proofs.Try.prog) ids s0 n1 e2 h (fun _ h => R h)) : (Sys.of Go.Proofs.Try.prog).D ids.f_graph_undo [s0, n1, e2] h R :=
  spd_of_denFn Go.Proofs.Try.func74 mixed (E0_graph_undo s0 n1 e2 h R) H

def H_pool_Pool_Take : HT := (.s .z (.s (.s .z (.s .z (.c (.s .z .z) .z))) (.s (.s .z (.s .z (.c (.s .z (.s (.s .z (.s .z (.c (.s .z .z) .z))) (.s (.o (oc [0, 1, 2, 3, 4, 5, 6] .nil)) (.s .z (.s .z .z))))) .z))) (.s .z (.s (.j [55] [1, 2, 11, 68] .z (.c (.s .z .z) .z)) (.s .z (.s .z .z)))))))
theorem E_pool_Pool_Take (p0 s1 : Value) (h : Hp) (R : Value → Hp → Prop) : F_pool_Pool_Take (Sys.of Go.Proofs.Try.prog) ids p0 s1 h R = denFn Go.Proofs.Try.prog Go.Proofs.Try.f75 H_pool_Pool_Take [p0, s1] h R := by kernel_rfl
theorem C_pool_Pool_Take {p0 s1 : Value} {h : Hp} {R : Value → Hp → Prop} (H : F_pool_Pool_Take (Sys.of Go.Proofs.Try.prog) ids p0 s1 h R) : (Sys.of Go.Proofs.Try.prog).C ids.f_pool_Pool_Take [p0, s1] h R :=
  cl_of_den Go.Proofs.Try.func75 (by kernel_rfl) mixed (E_pool_Pool_Take p0 s1 h R) H

def H_graph_Graph_vertexMark : HT := (.s .z (.s .z .z))
theorem E_graph_Graph_vertexMark (g0 : Value) (h : Hp) (R : Value → Hp → Prop) : F_graph_Graph_vertexMark (Sys.of Go.Proofs.Try.prog) ids g0 h R = denFn Go.Proofs.Try.prog Go.Proofs.Try.f76 H_graph_Graph_vertexMark [g0] h R := by kernel_rfl
theorem C_graph_Graph_vertexMark {g0 : Value} {h : Hp} {R : Value → Hp → Prop} (H : F_graph_Graph_vertexMark (Sys.of Go.Proofs.Try.prog) ids g0 h R) : (Sys.of Go.Proofs.Try.prog).C ids.f_graph_Graph_vertexMark [g0] h R :=
  cl_of_den Go.Proofs.Try.func76 (by kernel_rfl) mixed (E_graph_Graph_vertexMark g0 h R) H

def H_space_Space_Put : HT := (.s .z (.c .z .z))
theorem E_space_Space_Put (s0 at1 v2 : Value) (h : Hp) (R : Value → Hp → Prop) : F_space_Space_Put (Sys.of Go.Proofs.Try.prog) ids s0 at1 v2 h R = denFn Go.Proofs.Try.prog Go.Proofs.Try.f77 H_space_Space_Put [s0, at1, v2] h R := by kernel_rfl
theorem C_space_Space_Put {s0 at1 v2 : Value} {h : Hp} {R : Value → Hp → Prop} (H : F_space_Space_Put (Sys.of Go.Proofs.Try.prog) ids s0 at1 v2 h R) : (Sys.of Go.Proofs.Try.prog).C ids.f_space_Space_Put [s0, at1, v2] h R :=
  cl_of_den Go.Proofs.Try.func77 (by kernel_rfl) mixed (E_space_Space_Put s0 at1 v2 h R) H

def H_graph_Graph_link : HT := (.s .z (.s .z (.s .z (.s .z (.s .z (.s (.s .z (.c (.s .z .z) .z)) (.s (.s .z (.c (.s .z .z) .z)) (.s .z (.s .z .z)))))))))
theorem E_graph_Graph_link (g0 s1 l2 n3 : Value) (h : Hp) (R : Value → Hp → Prop) : F_graph_Graph_link (Sys.of Go.Proofs.Try.prog) ids g0 s1 l2 n3 h R = denFn Go.Proofs.Try.prog Go.Proofs.Try.f78 H_graph_Graph_link [g0, s1, l2, n3] h R := by kernel_rfl
theorem C_graph_Graph_link {g0 s1 l2 n3 : Value} {h : Hp} {R : Value → Hp → Prop} (H : F_graph_Graph_link (Sys.of Go.Proofs.Try.prog) ids g0 s1 l2 n3 h R) : (Sys.of Go.Proofs.Try.prog).C ids.f_graph_Graph_link [g0, s1, l2, n3] h R :=
  cl_of_den Go.Proofs.Try.func78 (by kernel_rfl) mixed (E_graph_Graph_link g0 s1 l2 n3 h R) H

def H_graph_more : HT := .z
theorem E_graph_more (s0 l1 n2 : Value) (h : Hp) (R : Value → Hp → Prop) : F_graph_more (Sys.of Go.Proofs.Try.prog) ids s0 l1 n2 h R = denFn Go.Proofs.Try.prog Go.Proofs.Try.f79 H_graph_more [s0, l1, n2] h R := by kernel_rfl
theorem C_graph_more {s0 l1 n2 : Value} {h : Hp} {R : Value → Hp → Prop} (H : F_graph_more (Sys.of Go.Proofs.Try.prog) ids s0 l1 n2 h R) : (Sys.of Go.Proofs.Try.prog).C ids.f_graph_more [s0, l1, n2] h R :=
  cl_of_den Go.Proofs.Try.func79 (by kernel_rfl) mixed (E_graph_more s0 l1 n2 h R) H

def H_graph_Graph_edgeMark : HT := (.s .z (.s .z .z))
theorem E_graph_Graph_edgeMark (g0 : Value) (h : Hp) (R : Value → Hp → Prop) : F_graph_Graph_edgeMark (Sys.of Go.Proofs.Try.prog) ids g0 h R = denFn Go.Proofs.Try.prog Go.Proofs.Try.f80 H_graph_Graph_edgeMark [g0] h R := by kernel_rfl
theorem C_graph_Graph_edgeMark {g0 : Value} {h : Hp} {R : Value → Hp → Prop} (H : F_graph_Graph_edgeMark (Sys.of Go.Proofs.Try.prog) ids g0 h R) : (Sys.of Go.Proofs.Try.prog).C ids.f_graph_Graph_edgeMark [g0] h R :=
  cl_of_den Go.Proofs.Try.func80 (by kernel_rfl) mixed (E_graph_Graph_edgeMark g0 h R) H

def H_graph_Graph_edge : HT := (.s .z (.j [6] [19] (.o (oc [0, 1, 2, 3, 4, 5, 8, 6, 7, 9, 10, 11, 12] .nil)) .z))
theorem E_graph_Graph_edge (g0 s1 n2 : Value) (h : Hp) (R : Value → Hp → Prop) : F_graph_Graph_edge (Sys.of Go.Proofs.Try.prog) ids g0 s1 n2 h R = denFn Go.Proofs.Try.prog Go.Proofs.Try.f81 H_graph_Graph_edge [g0, s1, n2] h R := by kernel_rfl
theorem C_graph_Graph_edge {g0 s1 n2 : Value} {h : Hp} {R : Value → Hp → Prop} (H : F_graph_Graph_edge (Sys.of Go.Proofs.Try.prog) ids g0 s1 n2 h R) : (Sys.of Go.Proofs.Try.prog).C ids.f_graph_Graph_edge [g0, s1, n2] h R :=
  cl_of_den Go.Proofs.Try.func81 (by kernel_rfl) mixed (E_graph_Graph_edge g0 s1 n2 h R) H

def H_graph_Graph_cut : HT := (.s .z (.s .z (.s (.j [28] [1, 2, 3, 7, 8, 72] .z (.c (.s .z .z) .z)) (.s (.s (.o (oc [0, 1, 2, 3, 5, 4, 6, 7] .nil)) (.s .z (.c (.s .z .z) .z))) (.s (.s (.o (oc [0, 1, 2, 3, 5, 4, 6, 7] .nil)) (.s .z (.c (.s .z .z) .z))) (.s .z (.s .z (.s .z (.s .z (.s .z .z))))))))))
theorem E_graph_Graph_cut (g0 s1 n2 : Value) (h : Hp) (R : Value → Hp → Prop) : F_graph_Graph_cut (Sys.of Go.Proofs.Try.prog) ids g0 s1 n2 h R = denFn Go.Proofs.Try.prog Go.Proofs.Try.f82 H_graph_Graph_cut [g0, s1, n2] h R := by kernel_rfl
theorem C_graph_Graph_cut {g0 s1 n2 : Value} {h : Hp} {R : Value → Hp → Prop} (H : F_graph_Graph_cut (Sys.of Go.Proofs.Try.prog) ids g0 s1 n2 h R) : (Sys.of Go.Proofs.Try.prog).C ids.f_graph_Graph_cut [g0, s1, n2] h R :=
  cl_of_den Go.Proofs.Try.func82 (by kernel_rfl) mixed (E_graph_Graph_cut g0 s1 n2 h R) H

def H_graph_Graph_empty : HT := (.s .z (.s .z (.b (.l [7] [1, 3, 5, 38] (.s (.b (.s .z (.s (.b (.s .z (.c (.s .z .z) (.j [19] [1, 3, 5, 7, 8, 38] .z (.c (.s .z .z) .z))))) (.s .z (.s .z (.c (.s .z .z) .z)))))) .z)))))
theorem E_graph_Graph_empty (g0 s1 l2 : Value) (h : Hp) (R : Value → Hp → Prop) : F_graph_Graph_empty (Sys.of Go.Proofs.Try.prog) ids g0 s1 l2 h R = denFn Go.Proofs.Try.prog Go.Proofs.Try.f83 H_graph_Graph_empty [g0, s1, l2] h R := by kernel_rfl
theorem C_graph_Graph_empty {g0 s1 l2 : Value} {h : Hp} {R : Value → Hp → Prop} (H : F_graph_Graph_empty (Sys.of Go.Proofs.Try.prog) ids g0 s1 l2 h R) : (Sys.of Go.Proofs.Try.prog).C ids.f_graph_Graph_empty [g0, s1, l2] h R :=
  cl_of_den Go.Proofs.Try.func83 (by kernel_rfl) mixed (E_graph_Graph_empty g0 s1 l2 h R) H

def H_graph_Graph_unlink : HT := (.s .z (.s (.o (oc [0, 1, 2, 3, 6, 7, 8, 9, 4, 5, 10, 11, 12, 13] .nil)) (.j [] [1, 4, 6, 9, 10, 56] (.b (.s .z (.c .z (.s .z (.c (.s .z .z) .z))))) (.s (.s .z (.c (.s .z .z) .z)) (.s (.s .z (.c (.s .z .z) .z)) (.s .z (.s .z .z)))))))
theorem E_graph_Graph_unlink (g0 s1 l2 n3 : Value) (h : Hp) (R : Value → Hp → Prop) : F_graph_Graph_unlink (Sys.of Go.Proofs.Try.prog) ids g0 s1 l2 n3 h R = denFn Go.Proofs.Try.prog Go.Proofs.Try.f84 H_graph_Graph_unlink [g0, s1, l2, n3] h R := by kernel_rfl
theorem C_graph_Graph_unlink {g0 s1 l2 n3 : Value} {h : Hp} {R : Value → Hp → Prop} (H : F_graph_Graph_unlink (Sys.of Go.Proofs.Try.prog) ids g0 s1 l2 n3 h R) : (Sys.of Go.Proofs.Try.prog).C ids.f_graph_Graph_unlink [g0, s1, l2, n3] h R :=
  cl_of_den Go.Proofs.Try.func84 (by kernel_rfl) mixed (E_graph_Graph_unlink g0 s1 l2 n3 h R) H

def H_pool_Pool_Give : HT := (.s .z (.s (.s .z (.s .z (.c (.s .z .z) .z))) (.s .z (.s .z (.s .z (.s .z .z))))))
theorem E_pool_Pool_Give (p0 s1 at2 : Value) (h : Hp) (R : Value → Hp → Prop) : F_pool_Pool_Give (Sys.of Go.Proofs.Try.prog) ids p0 s1 at2 h R = denFn Go.Proofs.Try.prog Go.Proofs.Try.f85 H_pool_Pool_Give [p0, s1, at2] h R := by kernel_rfl
theorem C_pool_Pool_Give {p0 s1 at2 : Value} {h : Hp} {R : Value → Hp → Prop} (H : F_pool_Pool_Give (Sys.of Go.Proofs.Try.prog) ids p0 s1 at2 h R) : (Sys.of Go.Proofs.Try.prog).C ids.f_pool_Pool_Give [p0, s1, at2] h R :=
  cl_of_den Go.Proofs.Try.func85 (by kernel_rfl) mixed (E_pool_Pool_Give p0 s1 at2 h R) H

def H_pool_Pool_Check : HT := (.s .z (.s (.b (.j [3] [1, 58] .z (.c (.s .z .z) (.j [22] [1, 58] .z (.c (.s .z .z) (.j [35] [58] .z (.c (.s .z .z) .z))))))) (.s .z .z)))
theorem E_pool_Pool_Check (p0 : Value) (h : Hp) (R : Value → Hp → Prop) : F_pool_Pool_Check (Sys.of Go.Proofs.Try.prog) ids p0 h R = denFn Go.Proofs.Try.prog Go.Proofs.Try.f86 H_pool_Pool_Check [p0] h R := by kernel_rfl
theorem C_pool_Pool_Check {p0 : Value} {h : Hp} {R : Value → Hp → Prop} (H : F_pool_Pool_Check (Sys.of Go.Proofs.Try.prog) ids p0 h R) : (Sys.of Go.Proofs.Try.prog).C ids.f_pool_Pool_Check [p0] h R :=
  cl_of_den Go.Proofs.Try.func86 (by kernel_rfl) mixed (E_pool_Pool_Check p0 h R) H

def H_space_Space_reads : HT := (.s .z (.s (.s .z (.c (.s .z .z) .z)) (.s (.s .z (.s .z (.c (.s .z (.s .z .z)) .z))) (.s .z (.s .z .z)))))
theorem E_space_Space_reads (s0 at1 : Value) (h : Hp) (R : Value → Hp → Prop) : F_space_Space_reads (Sys.of Go.Proofs.Try.prog) ids s0 at1 h R = denFn Go.Proofs.Try.prog Go.Proofs.Try.f87 H_space_Space_reads [s0, at1] h R := by kernel_rfl
theorem C_space_Space_reads {s0 at1 : Value} {h : Hp} {R : Value → Hp → Prop} (H : F_space_Space_reads (Sys.of Go.Proofs.Try.prog) ids s0 at1 h R) : (Sys.of Go.Proofs.Try.prog).C ids.f_space_Space_reads [s0, at1] h R :=
  cl_of_den Go.Proofs.Try.func87 (by kernel_rfl) mixed (E_space_Space_reads s0 at1 h R) H

def H_space_Space_value : HT := (.s .z (.s (.s .z (.s .z (.c (.s .z .z) .z))) (.s .z .z)))
theorem E_space_Space_value (s0 at1 : Value) (h : Hp) (R : Value → Hp → Prop) : F_space_Space_value (Sys.of Go.Proofs.Try.prog) ids s0 at1 h R = denFn Go.Proofs.Try.prog Go.Proofs.Try.f88 H_space_Space_value [s0, at1] h R := by kernel_rfl
theorem C_space_Space_value {s0 at1 : Value} {h : Hp} {R : Value → Hp → Prop} (H : F_space_Space_value (Sys.of Go.Proofs.Try.prog) ids s0 at1 h R) : (Sys.of Go.Proofs.Try.prog).C ids.f_space_Space_value [s0, at1] h R :=
  cl_of_den Go.Proofs.Try.func88 (by kernel_rfl) mixed (E_space_Space_value s0 at1 h R) H

def H_simulcastref37_Get : HT := (.s .z (.s .z (.s (.j [22] [0, 6, 28] .z (.c (.s .z .z) .z)) (.s .z .z))))
theorem E_simulcastref37_Get (l0 k1 : Value) (h : Hp) (R : Value → Hp → Prop) : F_simulcastref37_Get (Sys.of Go.Proofs.Try.prog) ids l0 k1 h R = denFn Go.Proofs.Try.prog Go.Proofs.Try.f89 H_simulcastref37_Get [l0, k1] h R := by kernel_rfl
theorem C_simulcastref37_Get {l0 k1 : Value} {h : Hp} {R : Value → Hp → Prop} (H : F_simulcastref37_Get (Sys.of Go.Proofs.Try.prog) ids l0 k1 h R) : (Sys.of Go.Proofs.Try.prog).C ids.f_simulcastref37_Get [l0, k1] h R :=
  cl_of_den Go.Proofs.Try.func89 (by kernel_rfl) mixed (E_simulcastref37_Get l0 k1 h R) H

def H_simulcastref37_Drop : HT := (.s .z (.s .z (.s (.s .z (.b (.l [5, 6] [0, 1, 28] (.s (.s .z (.c .z .z)) (.j [5] [0, 1, 6, 28] (.b (.s .z (.c .z .z))) .z))))) (.s .z .z))))
theorem E_simulcastref37_Drop (l0 k1 : Value) (h : Hp) (R : Value → Hp → Prop) : F_simulcastref37_Drop (Sys.of Go.Proofs.Try.prog) ids l0 k1 h R = denFn Go.Proofs.Try.prog Go.Proofs.Try.f90 H_simulcastref37_Drop [l0, k1] h R := by kernel_rfl
theorem C_simulcastref37_Drop {l0 k1 : Value} {h : Hp} {R : Value → Hp → Prop} (H : F_simulcastref37_Drop (Sys.of Go.Proofs.Try.prog) ids l0 k1 h R) : (Sys.of Go.Proofs.Try.prog).C ids.f_simulcastref37_Drop [l0, k1] h R :=
  cl_of_den Go.Proofs.Try.func90 (by kernel_rfl) mixed (E_simulcastref37_Drop l0 k1 h R) H

def H_simulcastref37_Range : HT := (.s .z (.s .z (.s (.s .z (.b (.l [8, 9, 10] [0, 1, 2, 44] (.s (.s .z (.c .z .z)) (.j [8, 9] [0, 1, 2, 10, 44] (.b (.j [32] [0, 1, 2, 8, 9, 10, 44] .z (.c (.s .z .z) .z))) .z))))) (.s .z .z))))
theorem E_simulcastref37_Range (l0 from1 to2 : Value) (h : Hp) (R : Value → Hp → Prop) : F_simulcastref37_Range (Sys.of Go.Proofs.Try.prog) ids l0 from1 to2 h R = denFn Go.Proofs.Try.prog Go.Proofs.Try.f91 H_simulcastref37_Range [l0, from1, to2] h R := by kernel_rfl
theorem C_simulcastref37_Range {l0 from1 to2 : Value} {h : Hp} {R : Value → Hp → Prop} (H : F_simulcastref37_Range (Sys.of Go.Proofs.Try.prog) ids l0 from1 to2 h R) : (Sys.of Go.Proofs.Try.prog).C ids.f_simulcastref37_Range [l0, from1, to2] h R :=
  cl_of_den Go.Proofs.Try.func91 (by kernel_rfl) mixed (E_simulcastref37_Range l0 from1 to2 h R) H

def H_simulcastref37_Next : HT := (.s .z (.s .z (.s (.s .z (.c (.s .z .z) .z)) (.s .z .z))))
theorem E_simulcastref37_Next (l0 k1 : Value) (h : Hp) (R : Value → Hp → Prop) : F_simulcastref37_Next (Sys.of Go.Proofs.Try.prog) ids l0 k1 h R = denFn Go.Proofs.Try.prog Go.Proofs.Try.f92 H_simulcastref37_Next [l0, k1] h R := by kernel_rfl
theorem C_simulcastref37_Next {l0 k1 : Value} {h : Hp} {R : Value → Hp → Prop} (H : F_simulcastref37_Next (Sys.of Go.Proofs.Try.prog) ids l0 k1 h R) : (Sys.of Go.Proofs.Try.prog).C ids.f_simulcastref37_Next [l0, k1] h R :=
  cl_of_den Go.Proofs.Try.func92 (by kernel_rfl) mixed (E_simulcastref37_Next l0 k1 h R) H

def H_simulcastref37_Nth : HT := (.s .z (.s (.j [13] [0, 1, 19] .z (.c (.s .z .z) .z)) (.s .z .z)))
theorem E_simulcastref37_Nth (l0 n1 : Value) (h : Hp) (R : Value → Hp → Prop) : F_simulcastref37_Nth (Sys.of Go.Proofs.Try.prog) ids l0 n1 h R = denFn Go.Proofs.Try.prog Go.Proofs.Try.f93 H_simulcastref37_Nth [l0, n1] h R := by kernel_rfl
theorem C_simulcastref37_Nth {l0 n1 : Value} {h : Hp} {R : Value → Hp → Prop} (H : F_simulcastref37_Nth (Sys.of Go.Proofs.Try.prog) ids l0 n1 h R) : (Sys.of Go.Proofs.Try.prog).C ids.f_simulcastref37_Nth [l0, n1] h R :=
  cl_of_den Go.Proofs.Try.func93 (by kernel_rfl) mixed (E_simulcastref37_Nth l0 n1 h R) H

def H_simulcastref37_Put : HT := (.s .z (.s .z (.s .z (.s .z (.j [7] [0, 8, 43] (.j [35] [0, 7, 8, 43] .z (.c .z .z)) (.s .z .z))))))
theorem E_simulcastref37_Put (l0 k1 v2 : Value) (h : Hp) (R : Value → Hp → Prop) : F_simulcastref37_Put (Sys.of Go.Proofs.Try.prog) ids l0 k1 v2 h R = denFn Go.Proofs.Try.prog Go.Proofs.Try.f94 H_simulcastref37_Put [l0, k1, v2] h R := by kernel_rfl
theorem C_simulcastref37_Put {l0 k1 v2 : Value} {h : Hp} {R : Value → Hp → Prop} (H : F_simulcastref37_Put (Sys.of Go.Proofs.Try.prog) ids l0 k1 v2 h R) : (Sys.of Go.Proofs.Try.prog).C ids.f_simulcastref37_Put [l0, k1, v2] h R :=
  cl_of_den Go.Proofs.Try.func94 (by kernel_rfl) mixed (E_simulcastref37_Put l0 k1 v2 h R) H

def H_simulcastref37_Top : HT := (.s .z (.s .z (.s (.s .z (.b (.l [3, 4] [0, 30] (.s (.s .z (.c .z .z)) (.j [3] [0, 4, 30] (.b (.j [27] [0, 3, 4, 30] (.o (oc [0, 1, 2, 3, 4, 5, 6, 7, 9, 10, 11, 12, 13, 8, 14, 15, 16] .nil)) (.c .z .z))) .z))))) (.s .z .z))))
theorem E_simulcastref37_Top (l0 : Value) (h : Hp) (R : Value → Hp → Prop) : F_simulcastref37_Top (Sys.of Go.Proofs.Try.prog) ids l0 h R = denFn Go.Proofs.Try.prog Go.Proofs.Try.f95 H_simulcastref37_Top [l0] h R := by kernel_rfl
theorem C_simulcastref37_Top {l0 : Value} {h : Hp} {R : Value → Hp → Prop} (H : F_simulcastref37_Top (Sys.of Go.Proofs.Try.prog) ids l0 h R) : (Sys.of Go.Proofs.Try.prog).C ids.f_simulcastref37_Top [l0] h R :=
  cl_of_den Go.Proofs.Try.func95 (by kernel_rfl) mixed (E_simulcastref37_Top l0 h R) H

def H_tree_undo : HT := (.s .z (.c .z .z))
theorem E_tree_undo (s0 mark1 e2 : Value) (h : Hp) (R : Value → Hp → Prop) : F_tree_undo (Sys.of Go.Proofs.Try.prog) ids s0 mark1 e2 h R = denFn Go.Proofs.Try.prog Go.Proofs.Try.f96 H_tree_undo [s0, mark1, e2] h R := by kernel_rfl
theorem C_tree_undo {s0 mark1 e2 : Value} {h : Hp} {R : Value → Hp → Prop} (H : F_tree_undo (Sys.of Go.Proofs.Try.prog) ids s0 mark1 e2 h R) : (Sys.of Go.Proofs.Try.prog).C ids.f_tree_undo [s0, mark1, e2] h R :=
  cl_of_den Go.Proofs.Try.func96 (by kernel_rfl) mixed (E_tree_undo s0 mark1 e2 h R) H
theorem E0_tree_undo (s0 mark1 e2 : Value) (h : Hp) (R : Hp → Prop) : F_tree_undo (Sys.of Go.Proofs.Try.prog) ids s0 mark1 e2 h (fun _ h => R h) = denFn0 Go.Proofs.Try.prog Go.Proofs.Try.f96 H_tree_undo [s0, mark1, e2] h (fun _ h => R h) := by kernel_rfl
theorem D_tree_undo {s0 mark1 e2 : Value} {h : Hp} {R : Hp → Prop} (H : F_tree_undo (Sys.of Go.Proofs.Try.prog) ids s0 mark1 e2 h (fun _ h => R h)) : (Sys.of Go.Proofs.Try.prog).D ids.f_tree_undo [s0, mark1, e2] h R :=
  spd_of_denFn Go.Proofs.Try.func96 mixed (E0_tree_undo s0 mark1 e2 h R) H

def H_tree_Tree_work : HT := (.s .z (.s .z .z))
theorem E_tree_Tree_work (t0 s1 : Value) (h : Hp) (R : Value → Hp → Prop) : F_tree_Tree_work (Sys.of Go.Proofs.Try.prog) ids t0 s1 h R = denFn Go.Proofs.Try.prog Go.Proofs.Try.f97 H_tree_Tree_work [t0, s1] h R := by kernel_rfl
theorem C_tree_Tree_work {t0 s1 : Value} {h : Hp} {R : Value → Hp → Prop} (H : F_tree_Tree_work (Sys.of Go.Proofs.Try.prog) ids t0 s1 h R) : (Sys.of Go.Proofs.Try.prog).C ids.f_tree_Tree_work [t0, s1] h R :=
  cl_of_den Go.Proofs.Try.func97 (by kernel_rfl) mixed (E_tree_Tree_work t0 s1 h R) H

def H_tree_work_path : HT := (.s .z (.s .z (.s (.s .z (.b (.r .z (.b .z)))) (.j [4, 5] [31] (.o (oc [0, 1, 2, 3, 4, 5, 6, 7, 8, 9, 10, 11, 12, 13, 14, 15, 16] .nil)) .z))))
theorem E_tree_work_path (w0 k1 : Value) (h : Hp) (R : Value → Hp → Prop) : F_tree_work_path (Sys.of Go.Proofs.Try.prog) ids w0 k1 h R = denFn Go.Proofs.Try.prog Go.Proofs.Try.f98 H_tree_work_path [w0, k1] h R := by kernel_rfl
theorem C_tree_work_path {w0 k1 : Value} {h : Hp} {R : Value → Hp → Prop} (H : F_tree_work_path (Sys.of Go.Proofs.Try.prog) ids w0 k1 h R) : (Sys.of Go.Proofs.Try.prog).C ids.f_tree_work_path [w0, k1] h R :=
  cl_of_den Go.Proofs.Try.func98 (by kernel_rfl) mixed (E_tree_work_path w0 k1 h R) H

def H_tree_work_get : HT := (.s .z (.s .z .z))
theorem E_tree_work_get (w0 at1 cell2 : Value) (h : Hp) (R : Value → Hp → Prop) : F_tree_work_get (Sys.of Go.Proofs.Try.prog) ids w0 at1 cell2 h R = denFn Go.Proofs.Try.prog Go.Proofs.Try.f99 H_tree_work_get [w0, at1, cell2] h R := by kernel_rfl
theorem C_tree_work_get {w0 at1 cell2 : Value} {h : Hp} {R : Value → Hp → Prop} (H : F_tree_work_get (Sys.of Go.Proofs.Try.prog) ids w0 at1 cell2 h R) : (Sys.of Go.Proofs.Try.prog).C ids.f_tree_work_get [w0, at1, cell2] h R :=
  cl_of_den Go.Proofs.Try.func99 (by kernel_rfl) mixed (E_tree_work_get w0 at1 cell2 h R) H

def H_tree_work_hang : HT := (.s (.s .z (.c (.s (.o (oc [0, 1, 2, 3, 4, 5, 6, 7, 8, 9, 10] .nil)) .z) .z)) (.s .z (.o (oc [0, 1, 2, 3, 4, 5, 7, 6, 8] .nil))))
theorem E_tree_work_hang (w0 l1 k2 at3 : Value) (h : Hp) (R : Value → Hp → Prop) : F_tree_work_hang (Sys.of Go.Proofs.Try.prog) ids w0 l1 k2 at3 h R = denFn Go.Proofs.Try.prog Go.Proofs.Try.f100 H_tree_work_hang [w0, l1, k2, at3] h R := by kernel_rfl
theorem C_tree_work_hang {w0 l1 k2 at3 : Value} {h : Hp} {R : Value → Hp → Prop} (H : F_tree_work_hang (Sys.of Go.Proofs.Try.prog) ids w0 l1 k2 at3 h R) : (Sys.of Go.Proofs.Try.prog).C ids.f_tree_work_hang [w0, l1, k2, at3] h R :=
  cl_of_den Go.Proofs.Try.func100 (by kernel_rfl) mixed (E_tree_work_hang w0 l1 k2 at3 h R) H

def H_tree_work_merge : HT := (.s .z (.s (.b (.s .z (.c (.s .z .z) (.s .z (.c (.s .z .z) (.s .z (.c (.s .z (.s .z (.s .z .z))) .z))))))) (.s .z (.s .z (.s .z .z)))))
theorem E_tree_work_merge (w0 a1 b2 : Value) (h : Hp) (R : Value → Hp → Prop) : F_tree_work_merge (Sys.of Go.Proofs.Try.prog) ids w0 a1 b2 h R = denFn Go.Proofs.Try.prog Go.Proofs.Try.f101 H_tree_work_merge [w0, a1, b2] h R := by kernel_rfl
theorem C_tree_work_merge {w0 a1 b2 : Value} {h : Hp} {R : Value → Hp → Prop} (H : F_tree_work_merge (Sys.of Go.Proofs.Try.prog) ids w0 a1 b2 h R) : (Sys.of Go.Proofs.Try.prog).C ids.f_tree_work_merge [w0, a1, b2] h R :=
  cl_of_den Go.Proofs.Try.func101 (by kernel_rfl) mixed (E_tree_work_merge w0 a1 b2 h R) H

def H_tree_work_add : HT := (.s .z (.b (.l [12] [0, 2, 3, 10, 11, 41] (.s .z (.s (.c .z .z) (.j [] [0, 2, 3, 10, 11, 12, 41] (.b (.s .z (.j [] [0, 2, 3, 9, 10, 11, 12, 41] (.s .z (.c (.o (oc [0, 1, 2, 3, 4, 5, 7, 6, 8, 9] .nil)) .z)) (.s .z (.c (.o (oc [0, 1, 2, 3, 4, 5, 7, 6, 8, 9] .nil)) .z))))) .z))))))
theorem E_tree_work_add (w0 l1 n2 v3 : Value) (h : Hp) (R : Value → Hp → Prop) : F_tree_work_add (Sys.of Go.Proofs.Try.prog) ids w0 l1 n2 v3 h R = denFn Go.Proofs.Try.prog Go.Proofs.Try.f102 H_tree_work_add [w0, l1, n2, v3] h R := by kernel_rfl
theorem C_tree_work_add {w0 l1 n2 v3 : Value} {h : Hp} {R : Value → Hp → Prop} (H : F_tree_work_add (Sys.of Go.Proofs.Try.prog) ids w0 l1 n2 v3 h R) : (Sys.of Go.Proofs.Try.prog).C ids.f_tree_work_add [w0, l1, n2, v3] h R :=
  cl_of_den Go.Proofs.Try.func102 (by kernel_rfl) mixed (E_tree_work_add w0 l1 n2 v3 h R) H

def H_tree_work_way : HT := (.s .z (.s .z .z))
theorem E_tree_work_way (w0 k1 : Value) (h : Hp) (R : Value → Hp → Prop) : F_tree_work_way (Sys.of Go.Proofs.Try.prog) ids w0 k1 h R = denFn Go.Proofs.Try.prog Go.Proofs.Try.f103 H_tree_work_way [w0, k1] h R := by kernel_rfl
theorem C_tree_work_way {w0 k1 : Value} {h : Hp} {R : Value → Hp → Prop} (H : F_tree_work_way (Sys.of Go.Proofs.Try.prog) ids w0 k1 h R) : (Sys.of Go.Proofs.Try.prog).C ids.f_tree_work_way [w0, k1] h R :=
  cl_of_den Go.Proofs.Try.func103 (by kernel_rfl) mixed (E_tree_work_way w0 k1 h R) H

def H_tree_Tree_between : HT := (.s .z (.s (.s .z (.c (.s .z .z) .z)) (.s (.o (oc [0, 1, 2, 3, 4, 6, 7, 8, 9, 10, 5, 11, 12, 13] .nil)) .z)))
theorem E_tree_Tree_between (t0 s1 from2 to3 cell4 own5 : Value) (h : Hp) (R : Value → Hp → Prop) : F_tree_Tree_between (Sys.of Go.Proofs.Try.prog) ids t0 s1 from2 to3 cell4 own5 h R = denFn Go.Proofs.Try.prog Go.Proofs.Try.f104 H_tree_Tree_between [t0, s1, from2, to3, cell4, own5] h R := by kernel_rfl
theorem C_tree_Tree_between {t0 s1 from2 to3 cell4 own5 : Value} {h : Hp} {R : Value → Hp → Prop} (H : F_tree_Tree_between (Sys.of Go.Proofs.Try.prog) ids t0 s1 from2 to3 cell4 own5 h R) : (Sys.of Go.Proofs.Try.prog).C ids.f_tree_Tree_between [t0, s1, from2, to3, cell4, own5] h R :=
  cl_of_den Go.Proofs.Try.func104 (by kernel_rfl) mixed (E_tree_Tree_between t0 s1 from2 to3 cell4 own5 h R) H

def H_tree_Tree_Sum_1 : HT := (.s .z (.s .z .z))
theorem E_tree_Tree_Sum_1 (w0 at1 : Value) (h : Hp) (R : Value → Hp → Prop) : F_tree_Tree_Sum_1 (Sys.of Go.Proofs.Try.prog) ids w0 at1 h R = denFn Go.Proofs.Try.prog Go.Proofs.Try.f105 H_tree_Tree_Sum_1 [w0, at1] h R := by kernel_rfl
theorem C_tree_Tree_Sum_1 {w0 at1 : Value} {h : Hp} {R : Value → Hp → Prop} (H : F_tree_Tree_Sum_1 (Sys.of Go.Proofs.Try.prog) ids w0 at1 h R) : (Sys.of Go.Proofs.Try.prog).C ids.f_tree_Tree_Sum_1 [w0, at1] h R :=
  cl_of_den Go.Proofs.Try.func105 (by kernel_rfl) mixed (E_tree_Tree_Sum_1 w0 at1 h R) H

def H_tree_Tree_Count_1 : HT := (.s .z (.s .z .z))
theorem E_tree_Tree_Count_1 (v0 v1 : Value) (h : Hp) (R : Value → Hp → Prop) : F_tree_Tree_Count_1 (Sys.of Go.Proofs.Try.prog) ids v0 v1 h R = denFn Go.Proofs.Try.prog Go.Proofs.Try.f106 H_tree_Tree_Count_1 [v0, v1] h R := by kernel_rfl
theorem C_tree_Tree_Count_1 {v0 v1 : Value} {h : Hp} {R : Value → Hp → Prop} (H : F_tree_Tree_Count_1 (Sys.of Go.Proofs.Try.prog) ids v0 v1 h R) : (Sys.of Go.Proofs.Try.prog).C ids.f_tree_Tree_Count_1 [v0, v1] h R :=
  cl_of_den Go.Proofs.Try.func106 (by kernel_rfl) mixed (E_tree_Tree_Count_1 v0 v1 h R) H

def H_tree_work_is : HT := (.s .z (.s (.j [14] [0, 1, 49] .z (.c (.s .z .z) .z)) (.s .z (.s .z (.j [] [0, 49] .z (.s .z .z))))))
theorem E_tree_work_is (w0 at1 : Value) (h : Hp) (R : Value → Hp → Prop) : F_tree_work_is (Sys.of Go.Proofs.Try.prog) ids w0 at1 h R = denFn Go.Proofs.Try.prog Go.Proofs.Try.f107 H_tree_work_is [w0, at1] h R := by kernel_rfl
theorem C_tree_work_is {w0 at1 : Value} {h : Hp} {R : Value → Hp → Prop} (H : F_tree_work_is (Sys.of Go.Proofs.Try.prog) ids w0 at1 h R) : (Sys.of Go.Proofs.Try.prog).C ids.f_tree_work_is [w0, at1] h R :=
  cl_of_den Go.Proofs.Try.func107 (by kernel_rfl) mixed (E_tree_work_is w0 at1 h R) H

def H_tree_work_of : HT := (.s .z (.s (.s .z (.c (.s .z .z) .z)) (.s .z .z)))
theorem E_tree_work_of (w0 at1 cell2 : Value) (h : Hp) (R : Value → Hp → Prop) : F_tree_work_of (Sys.of Go.Proofs.Try.prog) ids w0 at1 cell2 h R = denFn Go.Proofs.Try.prog Go.Proofs.Try.f108 H_tree_work_of [w0, at1, cell2] h R := by kernel_rfl
theorem C_tree_work_of {w0 at1 cell2 : Value} {h : Hp} {R : Value → Hp → Prop} (H : F_tree_work_of (Sys.of Go.Proofs.Try.prog) ids w0 at1 cell2 h R) : (Sys.of Go.Proofs.Try.prog).C ids.f_tree_work_of [w0, at1, cell2] h R :=
  cl_of_den Go.Proofs.Try.func108 (by kernel_rfl) mixed (E_tree_work_of w0 at1 cell2 h R) H

def H_tree_work_put : HT := .z
theorem E_tree_work_put (w0 at1 cell2 v3 : Value) (h : Hp) (R : Value → Hp → Prop) : F_tree_work_put (Sys.of Go.Proofs.Try.prog) ids w0 at1 cell2 v3 h R = denFn Go.Proofs.Try.prog Go.Proofs.Try.f109 H_tree_work_put [w0, at1, cell2, v3] h R := by kernel_rfl
theorem C_tree_work_put {w0 at1 cell2 v3 : Value} {h : Hp} {R : Value → Hp → Prop} (H : F_tree_work_put (Sys.of Go.Proofs.Try.prog) ids w0 at1 cell2 v3 h R) : (Sys.of Go.Proofs.Try.prog).C ids.f_tree_work_put [w0, at1, cell2, v3] h R :=
  cl_of_den Go.Proofs.Try.func109 (by kernel_rfl) mixed (E_tree_work_put w0 at1 cell2 v3 h R) H

def H_tree_rank : HT := (.s .z (.s .z (.s .z (.s .z (.s .z .z)))))
theorem E_tree_rank (k0 : Value) (h : Hp) (R : Value → Hp → Prop) : F_tree_rank (Sys.of Go.Proofs.Try.prog) ids k0 h R = denFn Go.Proofs.Try.prog Go.Proofs.Try.f110 H_tree_rank [k0] h R := by kernel_rfl
theorem C_tree_rank {k0 : Value} {h : Hp} {R : Value → Hp → Prop} (H : F_tree_rank (Sys.of Go.Proofs.Try.prog) ids k0 h R) : (Sys.of Go.Proofs.Try.prog).C ids.f_tree_rank [k0] h R :=
  cl_of_den Go.Proofs.Try.func110 (by kernel_rfl) mixed (E_tree_rank k0 h R) H

def H_tree_work_split : HT := (.s .z (.s (.s .z (.c (.s .z .z) .z)) (.s (.s .z (.c (.s .z (.s .z (.s .z (.s .z .z)))) .z)) (.s .z (.s .z (.s .z (.s .z .z)))))))
theorem E_tree_work_split (w0 at1 k2 : Value) (h : Hp) (R : Value → Hp → Prop) : F_tree_work_split (Sys.of Go.Proofs.Try.prog) ids w0 at1 k2 h R = denFn Go.Proofs.Try.prog Go.Proofs.Try.f111 H_tree_work_split [w0, at1, k2] h R := by kernel_rfl
theorem C_tree_work_split {w0 at1 k2 : Value} {h : Hp} {R : Value → Hp → Prop} (H : F_tree_work_split (Sys.of Go.Proofs.Try.prog) ids w0 at1 k2 h R) : (Sys.of Go.Proofs.Try.prog).C ids.f_tree_work_split [w0, at1, k2] h R :=
  cl_of_den Go.Proofs.Try.func111 (by kernel_rfl) mixed (E_tree_work_split w0 at1 k2 h R) H

def H_tree_work_refresh : HT := (.s .z (.s .z .z))
theorem E_tree_work_refresh (w0 at1 : Value) (h : Hp) (R : Value → Hp → Prop) : F_tree_work_refresh (Sys.of Go.Proofs.Try.prog) ids w0 at1 h R = denFn Go.Proofs.Try.prog Go.Proofs.Try.f112 H_tree_work_refresh [w0, at1] h R := by kernel_rfl
theorem C_tree_work_refresh {w0 at1 : Value} {h : Hp} {R : Value → Hp → Prop} (H : F_tree_work_refresh (Sys.of Go.Proofs.Try.prog) ids w0 at1 h R) : (Sys.of Go.Proofs.Try.prog).C ids.f_tree_work_refresh [w0, at1] h R :=
  cl_of_den Go.Proofs.Try.func112 (by kernel_rfl) mixed (E_tree_work_refresh w0 at1 h R) H

def H_tree_walker_below : HT := (.s .z (.s (.j [19] [0, 1, 167] .z (.c (.s .z .z) .z)) (.s (.s .z (.c (.s .z (.s .z .z)) .z)) (.s .z (.s .z (.s .z (.s (.j [84] [0, 1, 6, 7, 8, 167] .z (.c (.s .z (.s .z .z)) .z)) (.s (.o (oc [0, 1, 2, 3, 4, 5, 6, 9, 10, 11, 12, 13, 14, 15, 16, 17, 7, 8, 18, 19, 20, 21, 22, 23, 24, 25, 26] .nil)) (.s .z (.s .z (.j [] [6, 7, 167] .z (.s .z .z))))))))))))
theorem E_tree_walker_below (x0 at1 : Value) (h : Hp) (R : Value → Hp → Prop) : F_tree_walker_below (Sys.of Go.Proofs.Try.prog) ids x0 at1 h R = denFn Go.Proofs.Try.prog Go.Proofs.Try.f113 H_tree_walker_below [x0, at1] h R := by kernel_rfl
theorem C_tree_walker_below {x0 at1 : Value} {h : Hp} {R : Value → Hp → Prop} (H : F_tree_walker_below (Sys.of Go.Proofs.Try.prog) ids x0 at1 h R) : (Sys.of Go.Proofs.Try.prog).C ids.f_tree_walker_below [x0, at1] h R :=
  cl_of_den Go.Proofs.Try.func113 (by kernel_rfl) mixed (E_tree_walker_below x0 at1 h R) H

def H_slices_Sort_api_Loc_api_Loc : HT := (.s .z .z)
theorem E_slices_Sort_api_Loc_api_Loc (x0 : Value) (h : Hp) (R : Value → Hp → Prop) : F_slices_Sort_api_Loc_api_Loc (Sys.of Go.Proofs.Try.prog) ids x0 h R = denFn Go.Proofs.Try.prog Go.Proofs.Try.f114 H_slices_Sort_api_Loc_api_Loc [x0] h R := by kernel_rfl
theorem C_slices_Sort_api_Loc_api_Loc {x0 : Value} {h : Hp} {R : Value → Hp → Prop} (H : F_slices_Sort_api_Loc_api_Loc (Sys.of Go.Proofs.Try.prog) ids x0 h R) : (Sys.of Go.Proofs.Try.prog).C ids.f_slices_Sort_api_Loc_api_Loc [x0] h R :=
  cl_of_den Go.Proofs.Try.func114 (by kernel_rfl) mixed (E_slices_Sort_api_Loc_api_Loc x0 h R) H

def H_slices_Compact_api_Loc_api_Loc : HT := (.s .z (.s (.s .z (.c (.s .z .z) .z)) (.s (.s .z (.b (.l [3] [0, 61] (.s (.s .z (.c .z .z)) (.s (.b (.s (.o (oc [0, 1, 2, 3, 4, 5, 6, 7, 8, 9] .nil)) (.c (.s .z (.s (.s .z (.b (.l [3, 5] [0, 4, 61] (.s (.s .z (.c .z .z)) (.j [3] [0, 4, 5, 61] (.b (.s (.o (oc [0, 1, 2, 3, 4, 5, 6, 7, 8, 9] .nil)) (.c (.s .z .z) .z))) .z))))) (.s .z (.s .z .z)))) .z))) .z))))) (.s .z .z))))
theorem E_slices_Compact_api_Loc_api_Loc (s0 : Value) (h : Hp) (R : Value → Hp → Prop) : F_slices_Compact_api_Loc_api_Loc (Sys.of Go.Proofs.Try.prog) ids s0 h R = denFn Go.Proofs.Try.prog Go.Proofs.Try.f115 H_slices_Compact_api_Loc_api_Loc [s0] h R := by kernel_rfl
theorem C_slices_Compact_api_Loc_api_Loc {s0 : Value} {h : Hp} {R : Value → Hp → Prop} (H : F_slices_Compact_api_Loc_api_Loc (Sys.of Go.Proofs.Try.prog) ids s0 h R) : (Sys.of Go.Proofs.Try.prog).C ids.f_slices_Compact_api_Loc_api_Loc [s0] h R :=
  cl_of_den Go.Proofs.Try.func115 (by kernel_rfl) mixed (E_slices_Compact_api_Loc_api_Loc s0 h R) H

def H_space_Space_Reads : HT := (.s .z (.s .z (.s (.s .z (.c (.s .z .z) .z)) (.s (.s .z (.b (.l [3] [12, 24] (.s .z (.s (.c .z .z) (.b (.s .z .z))))))) (.s .z (.s .z .z))))))
theorem E_space_Space_Reads (s0 : Value) (h : Hp) (R : Value → Hp → Prop) : F_space_Space_Reads (Sys.of Go.Proofs.Try.prog) ids s0 h R = denFn Go.Proofs.Try.prog Go.Proofs.Try.f116 H_space_Space_Reads [s0] h R := by kernel_rfl
theorem C_space_Space_Reads {s0 : Value} {h : Hp} {R : Value → Hp → Prop} (H : F_space_Space_Reads (Sys.of Go.Proofs.Try.prog) ids s0 h R) : (Sys.of Go.Proofs.Try.prog).C ids.f_space_Space_Reads [s0] h R :=
  cl_of_den Go.Proofs.Try.func116 (by kernel_rfl) mixed (E_space_Space_Reads s0 h R) H

def H_graph_Graph_through_1 : HT := (.s .z (.s .z (.b (.l [6, 7] [0, 1, 2, 3, 4, 39] (.s (.s .z (.c .z .z)) (.s (.b (.s (.s .z (.j [32] [0, 1, 2, 3, 4, 6, 7, 39] .z (.c (.s .z .z) .z))) (.s .z (.c .z .z)))) (.o (oc [0, 1, 2, 3, 4, 5, 6] .nil))))))))
theorem E_graph_Graph_through_1 (yield0 v1 v2 v3 v4 : Value) (h : Hp) (R : Value → Hp → Prop) : F_graph_Graph_through_1 (Sys.of Go.Proofs.Try.prog) ids yield0 v1 v2 v3 v4 h R = denFn Go.Proofs.Try.prog Go.Proofs.Try.f117 H_graph_Graph_through_1 [yield0, v1, v2, v3, v4] h R := by kernel_rfl
theorem C_graph_Graph_through_1 {yield0 v1 v2 v3 v4 : Value} {h : Hp} {R : Value → Hp → Prop} (H : F_graph_Graph_through_1 (Sys.of Go.Proofs.Try.prog) ids yield0 v1 v2 v3 v4 h R) : (Sys.of Go.Proofs.Try.prog).C ids.f_graph_Graph_through_1 [yield0, v1, v2, v3, v4] h R :=
  cl_of_den Go.Proofs.Try.func117 (by kernel_rfl) mixed (E_graph_Graph_through_1 yield0 v1 v2 v3 v4 h R) H

def H_graph_Graph_node : HT := (.s .z (.s .z (.s .z .z)))
theorem E_graph_Graph_node (g0 n1 : Value) (h : Hp) (R : Value → Hp → Prop) : F_graph_Graph_node (Sys.of Go.Proofs.Try.prog) ids g0 n1 h R = denFn Go.Proofs.Try.prog Go.Proofs.Try.f118 H_graph_Graph_node [g0, n1] h R := by kernel_rfl
theorem C_graph_Graph_node {g0 n1 : Value} {h : Hp} {R : Value → Hp → Prop} (H : F_graph_Graph_node (Sys.of Go.Proofs.Try.prog) ids g0 n1 h R) : (Sys.of Go.Proofs.Try.prog).C ids.f_graph_Graph_node [g0, n1] h R :=
  cl_of_den Go.Proofs.Try.func118 (by kernel_rfl) mixed (E_graph_Graph_node g0 n1 h R) H

def H_space_Space_Back : HT := (.j [19] [0, 1, 30] .z (.c .z .z))
theorem E_space_Space_Back (s0 mark1 : Value) (h : Hp) (R : Value → Hp → Prop) : F_space_Space_Back (Sys.of Go.Proofs.Try.prog) ids s0 mark1 h R = denFn Go.Proofs.Try.prog Go.Proofs.Try.f119 H_space_Space_Back [s0, mark1] h R := by kernel_rfl
theorem C_space_Space_Back {s0 mark1 : Value} {h : Hp} {R : Value → Hp → Prop} (H : F_space_Space_Back (Sys.of Go.Proofs.Try.prog) ids s0 mark1 h R) : (Sys.of Go.Proofs.Try.prog).C ids.f_space_Space_Back [s0, mark1] h R :=
  cl_of_den Go.Proofs.Try.func119 (by kernel_rfl) mixed (E_space_Space_Back s0 mark1 h R) H

def H_pool_Pool_add : HT := (.s .z (.o (oc [0, 1, 2, 3, 4, 5, 6, 7, 8, 9, 11, 10, 12, 13] .nil)))
theorem E_pool_Pool_add (p0 s1 count2 n3 : Value) (h : Hp) (R : Value → Hp → Prop) : F_pool_Pool_add (Sys.of Go.Proofs.Try.prog) ids p0 s1 count2 n3 h R = denFn Go.Proofs.Try.prog Go.Proofs.Try.f120 H_pool_Pool_add [p0, s1, count2, n3] h R := by kernel_rfl
theorem C_pool_Pool_add {p0 s1 count2 n3 : Value} {h : Hp} {R : Value → Hp → Prop} (H : F_pool_Pool_add (Sys.of Go.Proofs.Try.prog) ids p0 s1 count2 n3 h R) : (Sys.of Go.Proofs.Try.prog).C ids.f_pool_Pool_add [p0, s1, count2, n3] h R :=
  cl_of_den Go.Proofs.Try.func120 (by kernel_rfl) mixed (E_pool_Pool_add p0 s1 count2 n3 h R) H

def H_space_Space_last : HT := (.s .z (.s (.s .z (.b (.l [5] [0, 1, 27] (.s (.s .z (.c .z .z)) (.s (.b (.s .z (.c (.s .z .z) .z))) .z))))) (.s .z .z)))
theorem E_space_Space_last (s0 at1 : Value) (h : Hp) (R : Value → Hp → Prop) : F_space_Space_last (Sys.of Go.Proofs.Try.prog) ids s0 at1 h R = denFn Go.Proofs.Try.prog Go.Proofs.Try.f121 H_space_Space_last [s0, at1] h R := by kernel_rfl
theorem C_space_Space_last {s0 at1 : Value} {h : Hp} {R : Value → Hp → Prop} (H : F_space_Space_last (Sys.of Go.Proofs.Try.prog) ids s0 at1 h R) : (Sys.of Go.Proofs.Try.prog).C ids.f_space_Space_last [s0, at1] h R :=
  cl_of_den Go.Proofs.Try.func121 (by kernel_rfl) mixed (E_space_Space_last s0 at1 h R) H

def H_simulcastref37_find : HT := (.s .z (.s .z (.s (.b (.l [5] [0, 1, 22] (.s (.j [18] [0, 1, 5, 22] .z (.c .z .z)) (.b .z)))) (.s .z .z))))
theorem E_simulcastref37_find (l0 k1 : Value) (h : Hp) (R : Value → Hp → Prop) : F_simulcastref37_find (Sys.of Go.Proofs.Try.prog) ids l0 k1 h R = denFn Go.Proofs.Try.prog Go.Proofs.Try.f122 H_simulcastref37_find [l0, k1] h R := by kernel_rfl
theorem C_simulcastref37_find {l0 k1 : Value} {h : Hp} {R : Value → Hp → Prop} (H : F_simulcastref37_find (Sys.of Go.Proofs.Try.prog) ids l0 k1 h R) : (Sys.of Go.Proofs.Try.prog).C ids.f_simulcastref37_find [l0, k1] h R :=
  cl_of_den Go.Proofs.Try.func122 (by kernel_rfl) mixed (E_simulcastref37_find l0 k1 h R) H

def H_simulcastref37_Rank : HT := (.s .z (.s .z (.s .z (.s .z (.s .z .z)))))
theorem E_simulcastref37_Rank (k0 : Value) (h : Hp) (R : Value → Hp → Prop) : F_simulcastref37_Rank (Sys.of Go.Proofs.Try.prog) ids k0 h R = denFn Go.Proofs.Try.prog Go.Proofs.Try.f123 H_simulcastref37_Rank [k0] h R := by kernel_rfl
theorem C_simulcastref37_Rank {k0 : Value} {h : Hp} {R : Value → Hp → Prop} (H : F_simulcastref37_Rank (Sys.of Go.Proofs.Try.prog) ids k0 h R) : (Sys.of Go.Proofs.Try.prog).C ids.f_simulcastref37_Rank [k0] h R :=
  cl_of_den Go.Proofs.Try.func123 (by kernel_rfl) mixed (E_simulcastref37_Rank k0 h R) H

def H_tree_kid : HT := (.s .z (.s (.s .z (.c (.s .z .z) .z)) (.s .z .z)))
theorem E_tree_kid (k0 key1 : Value) (h : Hp) (R : Value → Hp → Prop) : F_tree_kid (Sys.of Go.Proofs.Try.prog) ids k0 key1 h R = denFn Go.Proofs.Try.prog Go.Proofs.Try.f124 H_tree_kid [k0, key1] h R := by kernel_rfl
theorem C_tree_kid {k0 key1 : Value} {h : Hp} {R : Value → Hp → Prop} (H : F_tree_kid (Sys.of Go.Proofs.Try.prog) ids k0 key1 h R) : (Sys.of Go.Proofs.Try.prog).C ids.f_tree_kid [k0, key1] h R :=
  cl_of_den Go.Proofs.Try.func124 (by kernel_rfl) mixed (E_tree_kid k0 key1 h R) H

def H_tree_work_way_1 : HT := (.s .z (.s (.o (oc [0, 1, 2, 3, 4, 5, 6, 7, 8, 9, 10] .nil)) (.b (.l [4, 5] [0, 1, 2, 53] (.s (.s .z (.c .z .z)) (.s (.b (.s (.s .z (.c (.s .z .z) .z)) (.s .z (.s (.j [46] [0, 1, 2, 4, 5, 6, 53] .z (.c .z .z)) (.o (oc [0, 1, 2, 3, 4, 5, 6] .nil)))))) .z))))))
theorem E_tree_work_way_1 (yield0 v1 v2 : Value) (h : Hp) (R : Value → Hp → Prop) : F_tree_work_way_1 (Sys.of Go.Proofs.Try.prog) ids yield0 v1 v2 h R = denFn Go.Proofs.Try.prog Go.Proofs.Try.f125 H_tree_work_way_1 [yield0, v1, v2] h R := by kernel_rfl
theorem C_tree_work_way_1 {yield0 v1 v2 : Value} {h : Hp} {R : Value → Hp → Prop} (H : F_tree_work_way_1 (Sys.of Go.Proofs.Try.prog) ids yield0 v1 v2 h R) : (Sys.of Go.Proofs.Try.prog).C ids.f_tree_work_way_1 [yield0, v1, v2] h R :=
  cl_of_den Go.Proofs.Try.func125 (by kernel_rfl) mixed (E_tree_work_way_1 yield0 v1 v2 h R) H

def H_tree_Tree_until : HT := (.s .z (.s .z (.s .z (.s .z (.s (.s .z (.b (.l [14, 15, 16] [1, 2, 3, 4, 5, 6, 13, 76] (.s (.j [35] [1, 2, 3, 4, 5, 6, 13, 14, 15, 16, 76] .z (.c .z .z)) (.j [14, 16] [1, 2, 3, 4, 5, 6, 13, 15, 76] (.b (.s .z (.s (.j [52] [1, 2, 3, 4, 5, 6, 13, 14, 15, 16, 76] .z (.c (.s .z .z) .z)) (.s .z (.s .z .z))))) .z))))) (.s .z .z))))))
theorem E_tree_Tree_until (t0 s1 k2 with3 cell4 own5 : Value) (h : Hp) (R : Value → Hp → Prop) : F_tree_Tree_until (Sys.of Go.Proofs.Try.prog) ids t0 s1 k2 with3 cell4 own5 h R = denFn Go.Proofs.Try.prog Go.Proofs.Try.f126 H_tree_Tree_until [t0, s1, k2, with3, cell4, own5] h R := by kernel_rfl
theorem C_tree_Tree_until {t0 s1 k2 with3 cell4 own5 : Value} {h : Hp} {R : Value → Hp → Prop} (H : F_tree_Tree_until (Sys.of Go.Proofs.Try.prog) ids t0 s1 k2 with3 cell4 own5 h R) : (Sys.of Go.Proofs.Try.prog).C ids.f_tree_Tree_until [t0, s1, k2, with3, cell4, own5] h R :=
  cl_of_den Go.Proofs.Try.func126 (by kernel_rfl) mixed (E_tree_Tree_until t0 s1 k2 with3 cell4 own5 h R) H

def H_slices_pdqsortOrdered_api_Loc : HT := (.s .z (.s .z (.b (.l [1, 2, 3, 8, 9] [0, 134] (.b (.s .z (.s (.s .z (.c (.s .z .z) .z)) (.s (.s .z (.c (.s .z .z) .z)) (.j [3] [0, 1, 2, 8, 9, 10, 134] (.s .z (.c (.s .z .z) .z)) (.s .z (.j [11, 12] [0, 1, 2, 3, 8, 9, 10, 134] (.s .z (.c (.s .z (.s .z .z)) .z)) (.j [] [0, 1, 2, 3, 8, 9, 10, 11, 134] (.j [68] [0, 1, 2, 3, 8, 9, 10, 11, 134] .z (.c (.s .z (.c .z .z)) .z)) (.s (.j [87] [0, 1, 2, 3, 8, 9, 10, 11, 134] (.o (oc [0, 1, 2, 3, 4, 5, 6, 7, 8, 9, 10, 11, 12, 13, 14] .nil)) (.c (.s .z (.s .z .z)) .z)) (.s .z (.s .z (.s .z (.s .z (.s .z (.c (.s .z (.s .z .z)) (.s .z (.s .z .z)))))))))))))))))))))
theorem E_slices_pdqsortOrdered_api_Loc (data0 a1 b2 limit3 : Value) (h : Hp) (R : Value → Hp → Prop) : F_slices_pdqsortOrdered_api_Loc (Sys.of Go.Proofs.Try.prog) ids data0 a1 b2 limit3 h R = denFn Go.Proofs.Try.prog Go.Proofs.Try.f127 H_slices_pdqsortOrdered_api_Loc [data0, a1, b2, limit3] h R := by kernel_rfl
theorem C_slices_pdqsortOrdered_api_Loc {data0 a1 b2 limit3 : Value} {h : Hp} {R : Value → Hp → Prop} (H : F_slices_pdqsortOrdered_api_Loc (Sys.of Go.Proofs.Try.prog) ids data0 a1 b2 limit3 h R) : (Sys.of Go.Proofs.Try.prog).C ids.f_slices_pdqsortOrdered_api_Loc [data0, a1, b2, limit3] h R :=
  cl_of_den Go.Proofs.Try.func127 (by kernel_rfl) mixed (E_slices_pdqsortOrdered_api_Loc data0 a1 b2 limit3 h R) H

def H_math_bits_Len : HT := (.s .z (.s (.c (.s .z .z) .z) (.s .z .z)))
theorem E_math_bits_Len (x0 : Value) (h : Hp) (R : Value → Hp → Prop) : F_math_bits_Len (Sys.of Go.Proofs.Try.prog) ids x0 h R = denFn Go.Proofs.Try.prog Go.Proofs.Try.f128 H_math_bits_Len [x0] h R := by kernel_rfl
theorem C_math_bits_Len {x0 : Value} {h : Hp} {R : Value → Hp → Prop} (H : F_math_bits_Len (Sys.of Go.Proofs.Try.prog) ids x0 h R) : (Sys.of Go.Proofs.Try.prog).C ids.f_math_bits_Len [x0] h R :=
  cl_of_den Go.Proofs.Try.func128 (by kernel_rfl) mixed (E_math_bits_Len x0 h R) H

def H_slices_insertionSortOrdered_api_Loc : HT := (.s .z (.b (.l [6] [0, 1, 2, 49] (.s (.s .z (.c .z .z)) (.s (.b (.s .z (.b (.l [7] [0, 1, 2, 6, 49] (.s (.j [30] [0, 1, 2, 6, 7, 49] (.o (oc [0, 1, 2, 3, 4, 5, 6, 7, 8, 9, 10, 11, 12, 13, 14] .nil)) (.c .z .z)) (.s (.b (.o (oc [0, 1, 2, 3, 4, 5, 6, 7, 8, 9, 10, 11, 12, 13, 14, 15, 16, 17] .nil))) .z)))))) .z)))))
theorem E_slices_insertionSortOrdered_api_Loc (data0 a1 b2 : Value) (h : Hp) (R : Value → Hp → Prop) : F_slices_insertionSortOrdered_api_Loc (Sys.of Go.Proofs.Try.prog) ids data0 a1 b2 h R = denFn Go.Proofs.Try.prog Go.Proofs.Try.f129 H_slices_insertionSortOrdered_api_Loc [data0, a1, b2] h R := by kernel_rfl
theorem C_slices_insertionSortOrdered_api_Loc {data0 a1 b2 : Value} {h : Hp} {R : Value → Hp → Prop} (H : F_slices_insertionSortOrdered_api_Loc (Sys.of Go.Proofs.Try.prog) ids data0 a1 b2 h R) : (Sys.of Go.Proofs.Try.prog).C ids.f_slices_insertionSortOrdered_api_Loc [data0, a1, b2] h R :=
  cl_of_den Go.Proofs.Try.func129 (by kernel_rfl) mixed (E_slices_insertionSortOrdered_api_Loc data0 a1 b2 h R) H

def H_slices_heapSortOrdered_api_Loc : HT := (.s .z (.s .z (.s .z (.s (.s .z (.b (.l [9] [0, 6, 7, 8, 56] (.s (.s .z (.c .z .z)) (.s (.b .z) .z))))) (.s .z (.b (.l [10] [0, 6, 7, 56] (.s (.s .z (.c .z .z)) (.s (.b (.s (.o (oc [0, 1, 2, 3, 4, 5, 6, 7, 8, 9, 10, 11, 12, 13, 14, 15, 16, 17, 18, 19] .nil)) .z)) .z)))))))))
theorem E_slices_heapSortOrdered_api_Loc (data0 a1 b2 : Value) (h : Hp) (R : Value → Hp → Prop) : F_slices_heapSortOrdered_api_Loc (Sys.of Go.Proofs.Try.prog) ids data0 a1 b2 h R = denFn Go.Proofs.Try.prog Go.Proofs.Try.f130 H_slices_heapSortOrdered_api_Loc [data0, a1, b2] h R := by kernel_rfl
theorem C_slices_heapSortOrdered_api_Loc {data0 a1 b2 : Value} {h : Hp} {R : Value → Hp → Prop} (H : F_slices_heapSortOrdered_api_Loc (Sys.of Go.Proofs.Try.prog) ids data0 a1 b2 h R) : (Sys.of Go.Proofs.Try.prog).C ids.f_slices_heapSortOrdered_api_Loc [data0, a1, b2] h R :=
  cl_of_den Go.Proofs.Try.func130 (by kernel_rfl) mixed (E_slices_heapSortOrdered_api_Loc data0 a1 b2 h R) H

def H_slices_breakPatternsOrdered_api_Loc : HT := (.s .z (.s .z (.c (.s .z (.s .z (.s .z (.b (.l [9] [0, 1, 6, 7, 8, 65] (.s (.s .z (.c .z .z)) (.s (.b (.s .z (.j [10] [0, 1, 6, 7, 8, 9, 65] (.s .z (.c .z .z)) (.o (oc [0, 1, 2, 3, 4, 5, 6, 7, 8, 9, 10, 11, 12, 13, 14, 15, 16, 17, 18, 19] .nil))))) .z))))))) .z)))
theorem E_slices_breakPatternsOrdered_api_Loc (data0 a1 b2 : Value) (h : Hp) (R : Value → Hp → Prop) : F_slices_breakPatternsOrdered_api_Loc (Sys.of Go.Proofs.Try.prog) ids data0 a1 b2 h R = denFn Go.Proofs.Try.prog Go.Proofs.Try.f131 H_slices_breakPatternsOrdered_api_Loc [data0, a1, b2] h R := by kernel_rfl
theorem C_slices_breakPatternsOrdered_api_Loc {data0 a1 b2 : Value} {h : Hp} {R : Value → Hp → Prop} (H : F_slices_breakPatternsOrdered_api_Loc (Sys.of Go.Proofs.Try.prog) ids data0 a1 b2 h R) : (Sys.of Go.Proofs.Try.prog).C ids.f_slices_breakPatternsOrdered_api_Loc [data0, a1, b2] h R :=
  cl_of_den Go.Proofs.Try.func131 (by kernel_rfl) mixed (E_slices_breakPatternsOrdered_api_Loc data0 a1 b2 h R) H

def H_slices_choosePivotOrdered_api_Loc : HT := (.s .z (.s .z (.s .z (.s .z (.s .z (.s .z (.j [11] [9, 57] (.s .z (.c (.j [10, 11, 12] [0, 9, 57] (.s .z (.c (.s .z (.s .z .z)) .z)) .z) .z)) (.s .z (.b (.s .z (.c (.s .z .z) (.s .z (.c (.s .z .z) (.s .z .z))))))))))))))
theorem E_slices_choosePivotOrdered_api_Loc (data0 a1 b2 : Value) (h : Hp) (R : Value → Hp → Prop) : F_slices_choosePivotOrdered_api_Loc (Sys.of Go.Proofs.Try.prog) ids data0 a1 b2 h R = denFn Go.Proofs.Try.prog Go.Proofs.Try.f132 H_slices_choosePivotOrdered_api_Loc [data0, a1, b2] h R := by kernel_rfl
theorem C_slices_choosePivotOrdered_api_Loc {data0 a1 b2 : Value} {h : Hp} {R : Value → Hp → Prop} (H : F_slices_choosePivotOrdered_api_Loc (Sys.of Go.Proofs.Try.prog) ids data0 a1 b2 h R) : (Sys.of Go.Proofs.Try.prog).C ids.f_slices_choosePivotOrdered_api_Loc [data0, a1, b2] h R :=
  cl_of_den Go.Proofs.Try.func132 (by kernel_rfl) mixed (E_slices_choosePivotOrdered_api_Loc data0 a1 b2 h R) H

def H_slices_reverseRangeOrdered_api_Loc : HT := (.s .z (.s .z (.b (.l [6, 7] [0, 32] (.s (.s .z (.c .z .z)) (.b (.s (.o (oc [0, 1, 2, 3, 4, 5, 6, 7, 8, 9, 10, 11, 12, 13, 14, 15] .nil)) (.s .z .z))))))))
theorem E_slices_reverseRangeOrdered_api_Loc (data0 a1 b2 : Value) (h : Hp) (R : Value → Hp → Prop) : F_slices_reverseRangeOrdered_api_Loc (Sys.of Go.Proofs.Try.prog) ids data0 a1 b2 h R = denFn Go.Proofs.Try.prog Go.Proofs.Try.f133 H_slices_reverseRangeOrdered_api_Loc [data0, a1, b2] h R := by kernel_rfl
theorem C_slices_reverseRangeOrdered_api_Loc {data0 a1 b2 : Value} {h : Hp} {R : Value → Hp → Prop} (H : F_slices_reverseRangeOrdered_api_Loc (Sys.of Go.Proofs.Try.prog) ids data0 a1 b2 h R) : (Sys.of Go.Proofs.Try.prog).C ids.f_slices_reverseRangeOrdered_api_Loc [data0, a1, b2] h R :=
  cl_of_den Go.Proofs.Try.func133 (by kernel_rfl) mixed (E_slices_reverseRangeOrdered_api_Loc data0 a1 b2 h R) H

def H_slices_partialInsertionSortOrdered_api_Loc : HT := (.s .z (.s .z (.s (.s .z (.b (.l [7, 8] [0, 1, 2, 133] (.s (.s .z (.c .z .z)) (.j [7] [0, 1, 2, 8, 133] (.b (.s (.b (.l [7] [0, 1, 2, 8, 133] (.s (.j [32] [0, 1, 2, 7, 8, 133] (.o (oc [0, 1, 2, 3, 4, 5, 6, 7, 8, 9, 10, 11, 12, 13, 14, 15] .nil)) (.c .z .z)) (.b .z)))) (.s (.s .z (.c (.s .z .z) .z)) (.s (.s .z (.c (.s .z .z) .z)) (.s (.o (oc [0, 1, 2, 3, 4, 5, 6, 7, 8, 9, 10, 11, 12, 13, 14, 15, 16, 17] .nil)) (.j [] [0, 1, 2, 7, 8, 133] (.s .z (.c (.s .z (.b (.l [9] [0, 1, 2, 7, 8, 133] (.s (.s .z (.c .z .z)) (.s (.b (.s (.s (.o (oc [0, 1, 2, 3, 4, 5, 6, 7, 8, 9, 10] .nil)) (.c .z .z)) (.o (oc [0, 1, 2, 3, 4, 5, 6, 7, 8, 9, 10, 11, 12, 13, 14, 15, 16, 17] .nil)))) .z))))) .z)) (.s .z (.c (.s .z (.b (.l [10] [0, 1, 2, 7, 8, 133] (.s (.s .z (.c .z .z)) (.s (.b (.s (.s (.o (oc [0, 1, 2, 3, 4, 5, 6, 7, 8, 9, 10] .nil)) (.c .z .z)) (.o (oc [0, 1, 2, 3, 4, 5, 6, 7, 8, 9, 10, 11, 12, 13, 14, 15, 16, 17] .nil)))) .z))))) .z)))))))) .z))))) (.s .z .z))))
theorem E_slices_partialInsertionSortOrdered_api_Loc (data0 a1 b2 : Value) (h : Hp) (R : Value → Hp → Prop) : F_slices_partialInsertionSortOrdered_api_Loc (Sys.of Go.Proofs.Try.prog) ids data0 a1 b2 h R = denFn Go.Proofs.Try.prog Go.Proofs.Try.f134 H_slices_partialInsertionSortOrdered_api_Loc [data0, a1, b2] h R := by kernel_rfl
theorem C_slices_partialInsertionSortOrdered_api_Loc {data0 a1 b2 : Value} {h : Hp} {R : Value → Hp → Prop} (H : F_slices_partialInsertionSortOrdered_api_Loc (Sys.of Go.Proofs.Try.prog) ids data0 a1 b2 h R) : (Sys.of Go.Proofs.Try.prog).C ids.f_slices_partialInsertionSortOrdered_api_Loc [data0, a1, b2] h R :=
  cl_of_den Go.Proofs.Try.func134 (by kernel_rfl) mixed (E_slices_partialInsertionSortOrdered_api_Loc data0 a1 b2 h R) H

def H_cmp_Less_api_Loc : HT := (.s .z (.j [4] [17] .z .z))
theorem E_cmp_Less_api_Loc (x0 y1 : Value) (h : Hp) (R : Value → Hp → Prop) : F_cmp_Less_api_Loc (Sys.of Go.Proofs.Try.prog) ids x0 y1 h R = denFn Go.Proofs.Try.prog Go.Proofs.Try.f135 H_cmp_Less_api_Loc [x0, y1] h R := by kernel_rfl
theorem C_cmp_Less_api_Loc {x0 y1 : Value} {h : Hp} {R : Value → Hp → Prop} (H : F_cmp_Less_api_Loc (Sys.of Go.Proofs.Try.prog) ids x0 y1 h R) : (Sys.of Go.Proofs.Try.prog).C ids.f_cmp_Less_api_Loc [x0, y1] h R :=
  cl_of_den Go.Proofs.Try.func135 (by kernel_rfl) mixed (E_cmp_Less_api_Loc x0 y1 h R) H

def H_slices_partitionEqualOrdered_api_Loc : HT := (.s .z (.s (.o (oc [0, 1, 2, 3, 4, 5, 6, 7, 8, 9, 10, 11, 12, 13, 14, 15] .nil)) (.s .z (.s (.b (.l [9, 10] [0, 1, 84] (.b (.s (.b (.l [9] [0, 1, 10, 84] (.s (.j [43] [0, 1, 9, 10, 84] (.o (oc [0, 1, 2, 3, 4, 5, 6, 7, 8, 9, 10, 11, 12, 13, 14] .nil)) (.c .z .z)) (.b .z)))) (.s (.b (.l [10] [0, 1, 9, 84] (.s (.j [59] [0, 1, 9, 10, 84] (.o (oc [0, 1, 2, 3, 4, 5, 6, 7, 8, 9, 10, 11, 12, 13] .nil)) (.c .z .z)) (.b .z)))) (.s (.s .z (.c .z .z)) (.s (.o (oc [0, 1, 2, 3, 4, 5, 6, 7, 8, 9, 10, 11, 12, 13, 14, 15] .nil)) (.s .z .z)))))))) (.s .z .z)))))
theorem E_slices_partitionEqualOrdered_api_Loc (data0 a1 b2 pivot3 : Value) (h : Hp) (R : Value → Hp → Prop) : F_slices_partitionEqualOrdered_api_Loc (Sys.of Go.Proofs.Try.prog) ids data0 a1 b2 pivot3 h R = denFn Go.Proofs.Try.prog Go.Proofs.Try.f136 H_slices_partitionEqualOrdered_api_Loc [data0, a1, b2, pivot3] h R := by kernel_rfl
theorem C_slices_partitionEqualOrdered_api_Loc {data0 a1 b2 pivot3 : Value} {h : Hp} {R : Value → Hp → Prop} (H : F_slices_partitionEqualOrdered_api_Loc (Sys.of Go.Proofs.Try.prog) ids data0 a1 b2 pivot3 h R) : (Sys.of Go.Proofs.Try.prog).C ids.f_slices_partitionEqualOrdered_api_Loc [data0, a1, b2, pivot3] h R :=
  cl_of_den Go.Proofs.Try.func136 (by kernel_rfl) mixed (E_slices_partitionEqualOrdered_api_Loc data0 a1 b2 pivot3 h R) H

def H_slices_partitionOrdered_api_Loc : HT := (.s .z (.s (.o (oc [0, 1, 2, 3, 4, 5, 6, 7, 8, 9, 10, 11, 12, 13, 14, 15] .nil)) (.s .z (.s (.b (.l [10] [0, 1, 11, 168] (.s (.j [43] [0, 1, 10, 11, 168] (.o (oc [0, 1, 2, 3, 4, 5, 6, 7, 8, 9, 10, 11, 12, 13] .nil)) (.c .z .z)) (.b .z)))) (.s (.b (.l [11] [0, 1, 10, 168] (.s (.j [60] [0, 1, 10, 11, 168] (.o (oc [0, 1, 2, 3, 4, 5, 6, 7, 8, 9, 10, 11, 12, 13, 14] .nil)) (.c .z .z)) (.b .z)))) (.s (.s .z (.c (.s (.o (oc [0, 1, 2, 3, 4, 5, 6, 7, 8, 9, 10, 11, 12, 13, 14, 15] .nil)) (.s .z .z)) .z)) (.s (.o (oc [0, 1, 2, 3, 4, 5, 6, 7, 8, 9, 10, 11, 12, 13, 14, 15] .nil)) (.s .z (.s .z (.s (.b (.l [10, 11] [0, 1, 168] (.b (.s (.b (.l [10] [0, 1, 11, 168] (.s (.j [112] [0, 1, 10, 11, 168] (.o (oc [0, 1, 2, 3, 4, 5, 6, 7, 8, 9, 10, 11, 12, 13] .nil)) (.c .z .z)) (.b .z)))) (.s (.b (.l [11] [0, 1, 10, 168] (.s (.j [129] [0, 1, 10, 11, 168] (.o (oc [0, 1, 2, 3, 4, 5, 6, 7, 8, 9, 10, 11, 12, 13, 14] .nil)) (.c .z .z)) (.b .z)))) (.s (.s .z (.c .z .z)) (.s (.o (oc [0, 1, 2, 3, 4, 5, 6, 7, 8, 9, 10, 11, 12, 13, 14, 15] .nil)) (.s .z .z)))))))) (.s (.o (oc [0, 1, 2, 3, 4, 5, 6, 7, 8, 9, 10, 11, 12, 13, 14, 15] .nil)) (.s .z .z))))))))))))
theorem E_slices_partitionOrdered_api_Loc (data0 a1 b2 pivot3 : Value) (h : Hp) (R : Value → Hp → Prop) : F_slices_partitionOrdered_api_Loc (Sys.of Go.Proofs.Try.prog) ids data0 a1 b2 pivot3 h R = denFn Go.Proofs.Try.prog Go.Proofs.Try.f137 H_slices_partitionOrdered_api_Loc [data0, a1, b2, pivot3] h R := by kernel_rfl
theorem C_slices_partitionOrdered_api_Loc {data0 a1 b2 pivot3 : Value} {h : Hp} {R : Value → Hp → Prop} (H : F_slices_partitionOrdered_api_Loc (Sys.of Go.Proofs.Try.prog) ids data0 a1 b2 pivot3 h R) : (Sys.of Go.Proofs.Try.prog).C ids.f_slices_partitionOrdered_api_Loc [data0, a1, b2, pivot3] h R :=
  cl_of_den Go.Proofs.Try.func137 (by kernel_rfl) mixed (E_slices_partitionOrdered_api_Loc data0 a1 b2 pivot3 h R) H

def H_math_bits_Len32 : HT := (.s .z (.j [0, 2] [19] (.s .z (.c (.s .z .z) .z)) (.j [0, 2] [19] (.s .z (.c (.s .z .z) .z)) (.s .z .z))))
theorem E_math_bits_Len32 (x0 : Value) (h : Hp) (R : Value → Hp → Prop) : F_math_bits_Len32 (Sys.of Go.Proofs.Try.prog) ids x0 h R = denFn Go.Proofs.Try.prog Go.Proofs.Try.f138 H_math_bits_Len32 [x0] h R := by kernel_rfl
theorem C_math_bits_Len32 {x0 : Value} {h : Hp} {R : Value → Hp → Prop} (H : F_math_bits_Len32 (Sys.of Go.Proofs.Try.prog) ids x0 h R) : (Sys.of Go.Proofs.Try.prog).C ids.f_math_bits_Len32 [x0] h R :=
  cl_of_den Go.Proofs.Try.func138 (by kernel_rfl) mixed (E_math_bits_Len32 x0 h R) H

def H_math_bits_Len64 : HT := (.s .z (.j [0, 2] [25] (.s .z (.c (.s .z .z) .z)) (.j [0, 2] [25] (.s .z (.c (.s .z .z) .z)) (.j [0, 2] [25] (.s .z (.c (.s .z .z) .z)) (.s .z .z)))))
theorem E_math_bits_Len64 (x0 : Value) (h : Hp) (R : Value → Hp → Prop) : F_math_bits_Len64 (Sys.of Go.Proofs.Try.prog) ids x0 h R = denFn Go.Proofs.Try.prog Go.Proofs.Try.f139 H_math_bits_Len64 [x0] h R := by kernel_rfl
theorem C_math_bits_Len64 {x0 : Value} {h : Hp} {R : Value → Hp → Prop} (H : F_math_bits_Len64 (Sys.of Go.Proofs.Try.prog) ids x0 h R) : (Sys.of Go.Proofs.Try.prog).C ids.f_math_bits_Len64 [x0] h R :=
  cl_of_den Go.Proofs.Try.func139 (by kernel_rfl) mixed (E_math_bits_Len64 x0 h R) H

def H_slices_siftDownOrdered_api_Loc : HT := (.s .z (.b (.l [8] [0, 2, 3, 76] (.b (.s .z (.s (.s .z (.c .z .z)) (.j [9] [0, 2, 3, 8, 76] (.j [36] [0, 2, 3, 8, 9, 76] (.o (oc [0, 1, 2, 3, 4, 5, 6, 7, 8, 9, 10, 11, 12, 13, 14, 15, 16, 17, 18, 19] .nil)) (.c .z .z)) (.s (.s (.o (oc [0, 1, 2, 3, 4, 5, 6, 7, 8, 9, 10, 11, 12, 13] .nil)) (.c .z .z)) (.s (.o (oc [0, 1, 2, 3, 4, 5, 6, 7, 8, 9, 10, 11, 12, 13, 14, 15, 16, 17, 18, 19, 20, 21, 22, 23] .nil)) .z)))))))))
theorem E_slices_siftDownOrdered_api_Loc (data0 lo1 hi2 first3 : Value) (h : Hp) (R : Value → Hp → Prop) : F_slices_siftDownOrdered_api_Loc (Sys.of Go.Proofs.Try.prog) ids data0 lo1 hi2 first3 h R = denFn Go.Proofs.Try.prog Go.Proofs.Try.f140 H_slices_siftDownOrdered_api_Loc [data0, lo1, hi2, first3] h R := by kernel_rfl
theorem C_slices_siftDownOrdered_api_Loc {data0 lo1 hi2 first3 : Value} {h : Hp} {R : Value → Hp → Prop} (H : F_slices_siftDownOrdered_api_Loc (Sys.of Go.Proofs.Try.prog) ids data0 lo1 hi2 first3 h R) : (Sys.of Go.Proofs.Try.prog).C ids.f_slices_siftDownOrdered_api_Loc [data0, lo1, hi2, first3] h R :=
  cl_of_den Go.Proofs.Try.func140 (by kernel_rfl) mixed (E_slices_siftDownOrdered_api_Loc data0 lo1 hi2 first3 h R) H

def H_slices_nextPowerOfTwo : HT := (.s .z (.s .z .z))
theorem E_slices_nextPowerOfTwo (length0 : Value) (h : Hp) (R : Value → Hp → Prop) : F_slices_nextPowerOfTwo (Sys.of Go.Proofs.Try.prog) ids length0 h R = denFn Go.Proofs.Try.prog Go.Proofs.Try.f141 H_slices_nextPowerOfTwo [length0] h R := by kernel_rfl
theorem C_slices_nextPowerOfTwo {length0 : Value} {h : Hp} {R : Value → Hp → Prop} (H : F_slices_nextPowerOfTwo (Sys.of Go.Proofs.Try.prog) ids length0 h R) : (Sys.of Go.Proofs.Try.prog).C ids.f_slices_nextPowerOfTwo [length0] h R :=
  cl_of_den Go.Proofs.Try.func141 (by kernel_rfl) mixed (E_slices_nextPowerOfTwo length0 h R) H

def H_slices_xorshift_Next : HT := (.s .z (.s (.o (oc [0, 1, 2, 3, 4, 5, 6, 7, 8, 9] .nil)) (.s (.o (oc [0, 1, 2, 3, 4, 5, 6, 7, 8, 9] .nil)) (.s (.o (oc [0, 1, 2, 3, 4, 5, 6, 7, 8, 9] .nil)) (.s .z .z)))))
theorem E_slices_xorshift_Next (r0 : Value) (h : Hp) (R : Value → Hp → Prop) : F_slices_xorshift_Next (Sys.of Go.Proofs.Try.prog) ids r0 h R = denFn Go.Proofs.Try.prog Go.Proofs.Try.f142 H_slices_xorshift_Next [r0] h R := by kernel_rfl
theorem C_slices_xorshift_Next {r0 : Value} {h : Hp} {R : Value → Hp → Prop} (H : F_slices_xorshift_Next (Sys.of Go.Proofs.Try.prog) ids r0 h R) : (Sys.of Go.Proofs.Try.prog).C ids.f_slices_xorshift_Next [r0] h R :=
  cl_of_den Go.Proofs.Try.func142 (by kernel_rfl) mixed (E_slices_xorshift_Next r0 h R) H

def H_slices_medianAdjacentOrdered_api_Loc : HT := (.s .z (.s .z .z))
theorem E_slices_medianAdjacentOrdered_api_Loc (data0 a1 swaps2 : Value) (h : Hp) (R : Value → Hp → Prop) : F_slices_medianAdjacentOrdered_api_Loc (Sys.of Go.Proofs.Try.prog) ids data0 a1 swaps2 h R = denFn Go.Proofs.Try.prog Go.Proofs.Try.f143 H_slices_medianAdjacentOrdered_api_Loc [data0, a1, swaps2] h R := by kernel_rfl
theorem C_slices_medianAdjacentOrdered_api_Loc {data0 a1 swaps2 : Value} {h : Hp} {R : Value → Hp → Prop} (H : F_slices_medianAdjacentOrdered_api_Loc (Sys.of Go.Proofs.Try.prog) ids data0 a1 swaps2 h R) : (Sys.of Go.Proofs.Try.prog).C ids.f_slices_medianAdjacentOrdered_api_Loc [data0, a1, swaps2] h R :=
  cl_of_den Go.Proofs.Try.func143 (by kernel_rfl) mixed (E_slices_medianAdjacentOrdered_api_Loc data0 a1 swaps2 h R) H

def H_slices_medianOrdered_api_Loc : HT := (.s .z (.s .z (.s .z (.s .z (.s .z .z)))))
theorem E_slices_medianOrdered_api_Loc (data0 a1 b2 c3 swaps4 : Value) (h : Hp) (R : Value → Hp → Prop) : F_slices_medianOrdered_api_Loc (Sys.of Go.Proofs.Try.prog) ids data0 a1 b2 c3 swaps4 h R = denFn Go.Proofs.Try.prog Go.Proofs.Try.f144 H_slices_medianOrdered_api_Loc [data0, a1, b2, c3, swaps4] h R := by kernel_rfl
theorem C_slices_medianOrdered_api_Loc {data0 a1 b2 c3 swaps4 : Value} {h : Hp} {R : Value → Hp → Prop} (H : F_slices_medianOrdered_api_Loc (Sys.of Go.Proofs.Try.prog) ids data0 a1 b2 c3 swaps4 h R) : (Sys.of Go.Proofs.Try.prog).C ids.f_slices_medianOrdered_api_Loc [data0, a1, b2, c3, swaps4] h R :=
  cl_of_den Go.Proofs.Try.func144 (by kernel_rfl) mixed (E_slices_medianOrdered_api_Loc data0 a1 b2 c3 swaps4 h R) H

def H_cmp_isNaN_api_Loc : HT := (.s .z (.s .z .z))
theorem E_cmp_isNaN_api_Loc (x0 : Value) (h : Hp) (R : Value → Hp → Prop) : F_cmp_isNaN_api_Loc (Sys.of Go.Proofs.Try.prog) ids x0 h R = denFn Go.Proofs.Try.prog Go.Proofs.Try.f145 H_cmp_isNaN_api_Loc [x0] h R := by kernel_rfl
theorem C_cmp_isNaN_api_Loc {x0 : Value} {h : Hp} {R : Value → Hp → Prop} (H : F_cmp_isNaN_api_Loc (Sys.of Go.Proofs.Try.prog) ids x0 h R) : (Sys.of Go.Proofs.Try.prog).C ids.f_cmp_isNaN_api_Loc [x0] h R :=
  cl_of_den Go.Proofs.Try.func145 (by kernel_rfl) mixed (E_cmp_isNaN_api_Loc x0 h R) H

def H_slices_order2Ordered_api_Loc : HT := (.s .z (.s (.s (.o (oc [0, 1, 2, 3, 4, 5, 6, 7, 8] .nil)) (.c (.s .z (.s .z .z)) .z)) (.s .z .z)))
theorem E_slices_order2Ordered_api_Loc (data0 a1 b2 swaps3 : Value) (h : Hp) (R : Value → Hp → Prop) : F_slices_order2Ordered_api_Loc (Sys.of Go.Proofs.Try.prog) ids data0 a1 b2 swaps3 h R = denFn Go.Proofs.Try.prog Go.Proofs.Try.f146 H_slices_order2Ordered_api_Loc [data0, a1, b2, swaps3] h R := by kernel_rfl
theorem C_slices_order2Ordered_api_Loc {data0 a1 b2 swaps3 : Value} {h : Hp} {R : Value → Hp → Prop} (H : F_slices_order2Ordered_api_Loc (Sys.of Go.Proofs.Try.prog) ids data0 a1 b2 swaps3 h R) : (Sys.of Go.Proofs.Try.prog).C ids.f_slices_order2Ordered_api_Loc [data0, a1, b2, swaps3] h R :=
  cl_of_den Go.Proofs.Try.func146 (by kernel_rfl) mixed (E_slices_order2Ordered_api_Loc data0 a1 b2 swaps3 h R) H

end Go.En
