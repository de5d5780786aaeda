/-
  The clean texts are what the engine reads off the program: by the kernel.
-/
import Derived.Test.YtcepckpfhbcobaaGreatDoorXT
import Derived.Test.YtcepckpfhbcobaaGreatDoorProg
import Derived.KernelRfl
namespace Go.En
set_option maxRecDepth 100000

/-- the numbers in this translation -/
noncomputable def ids : Ids := { mt := mtb Go.Proofs.Tryz.prog, f_simulcasttop_TopEpochs := 3, f_simulcasttop_epochAwake := 7, f_simulcasttop_epochWorld := 8, f_task_World_Step := 9, f_simulcasttop_epochSafe := 10, f_task_Task_Done := 11, f_task_Task_Code := 12, f_reclaim_Bag_Sweep := 13, f_reclaim_Bag_Len := 14, f_task_World_Alone := 21, f_task_Task_Steps := 26, f_machine_Machine_Word := 27, f_layout_Layout_Cell := 28, f_layout_Layout_First := 29, f_simulcasttop_epochValue := 30, f_machine_New := 31, f_task_Make := 32, f_task_World_dead := 33, f_machine_Machine_Crash := 34, f_task_World_takes := 35, f_task_World_step := 36, f_task_World_stop := 37, f_slices_Contains_int_int := 38, f_reclaim_Item_way := 39, f_slices_Sort_int_int := 40, f_task_World_stopped := 43, f_machine_Machine_Size := 46, f_memory_Memory_Last := 47, f_layout_Layout_at := 48, f_layout_Layout_right := 49, f_layout_Layout_Size := 50, f_layout_Layout_Era := 51, f_layout_Layout_Slot := 52, f_layout_Layout_Block := 53, f_memory_New := 54, f_line_New := 55, f_task_Start := 56, f_slices_Clone_int_int := 58, f_task_Task_Act := 59, f_machine_Machine_Do := 60, f_slices_Clone_task_Task_task_Task := 61, f_task_Task_Give := 62, f_slices_Index_int_int := 63, f_slices_ContainsFunc_int64_int64 := 64, f_reclaim_Item_lives := 65, f_reclaim_Item_named := 66, f_slices_pdqsortOrdered_int := 67, f_math_bits_Len := 68, f_layout_Layout_from := 73, f_layout_Layout_Check := 74, f_memory_Memory_Size := 77, f_memory_Memory_History := 78, f_history_History_Last := 79, f_layout_Layout_many := 80, f_history_New := 81, f_slices_Clone_api_Word_api_Word := 82, f_task_Task_told := 83, f_machine_Machine_check := 87, f_machine_Changes := 88, f_machine_Machine_write := 89, f_line_Lines_Flush := 90, f_line_Lines_Sync := 91, f_machine_Machine_read := 92, f_slices_Clip_api_Got_api_Got := 93, f_slices_IndexFunc_int64_int64 := 94, f_slices_insertionSortOrdered_int := 95, f_slices_heapSortOrdered_int := 96, f_slices_breakPatternsOrdered_int := 97, f_slices_choosePivotOrdered_int := 98, f_slices_reverseRangeOrdered_int := 99, f_slices_partialInsertionSortOrdered_int := 100, f_cmp_Less_int := 101, f_slices_partitionEqualOrdered_int := 102, f_slices_partitionOrdered_int := 103, f_math_bits_Len64 := 105, f_layout_Layout_long := 107, f_layout_between := 108, f_memory_Memory_place := 112, f_history_History_At := 113, f_memory_Memory_Swap := 114, f_memory_Memory_Store := 115, f_line_Lines_Store := 116, f_line_Lines_has := 118, f_slices_Clone_line_log_line_log := 121, f_memory_Memory_Look := 122, f_memory_Memory_Load := 123, f_cmp_isNaN_int := 129, f_memory_Memory_adds := 134, f_memory_Memory_wrong := 135, f_slices_Clip_line_store_line_store := 136, f_memory_Memory_look := 138, f_memory_picker_last := 139, f_memory_Memory_Seen := 145, f_view_View_With := 146, f_history_History_Len := 147, f_history_History_Add := 148, f_memory_Memory_with := 149, f_memory_Memory_thread := 150, f_memory_Memory_finds := 151, f_view_View_At := 152, f_maps_Clone_map_api_Loc_int_api_Loc_int := 156, f_slices_Clip_history_Message_history_Message := 157, f_view_Join := 158, f_simulcasttop_epochWriter_Next := 178, f_simulcasttop_epochWriter_begin := 179, f_simulcasttop_epochWriter_fail := 180, f_simulcasttop_epochWriter_look := 181, f_reclaim_Bag_Retire := 182, f_layout_Layout_Announce := 183, f_slices_Clip_int64_int64 := 184, f_slices_Clip_int_int := 185, f_era_Advance := 186, f_slices_ContainsFunc_reclaim_Item_reclaim_Item := 187, f_reclaim_Bag_Retire_1 := 188, f_slices_Clone_reclaim_Item_reclaim_Item := 189, f_era_made := 190, f_era_Advance_1 := 191, f_era_code_look := 192, f_era_code_raise := 193, f_slices_IndexFunc_reclaim_Item_reclaim_Item := 194, f_era_code_done := 195, f_simulcasttop_epochReader_Next := 324, f_era_Era := 325, f_simulcasttop_epochReader_run := 326, f_era_Enter := 327, f_era_Leave := 328, f_era_check := 329, f_era_Enter_1 := 330, f_era_code_announce := 331, f_era_Leave_1 := 332, f_era_Leave_1_1 := 333, f_era_code_announce_1 := 334, f_era_code_compare := 335, f_era_code_Next := 338, t_int64 := 2, t_int := 3, t_bool := 4, t_uint8 := 5, t_2_uint8 := 23, t_memory_Memory := 29, t_line_Lines := 34, t_machine_Machine := 37, t_task_World := 41, t_api_Pick := 45, t_task_Code := 49, t_api_Word := 54, t_api_Act := 56, t_task_Task := 59, t_layout_Layout := 61, t_reclaim_Bag := 64, t_simulcasttop_epochWriter := 68, t_simulcasttop_epochReader := 112, t_reclaim_Item := 120, t_api_Got := 146, t_history_History := 173, t_map_api_Loc_int := 176, t_view_View := 178, t_history_Message := 180, t_line_log := 224, t_line_store := 226, t_era_code := 303 }
theorem mixed : Go.Proofs.Tryz.prog.follows .mixedOrders = true := by kernel_rfl

def H_simulcasttop_TopEpochs : HT := (.s .z (.s (.s .z (.c (.s .z .z) .z)) (.s (.j [27] [0, 2, 4, 115] .z (.c (.s .z .z) .z)) (.s .z (.s (.s .z (.c (.s .z .z) .z)) (.s (.s .z (.b (.l [38] [7, 36, 37, 115] (.s .z (.s (.c .z .z) (.j [] [7, 36, 37, 38, 115] (.b (.s .z (.s (.s .z (.c .z .z)) (.s .z (.s .z (.c (.s .z .z) .z)))))) .z)))))) (.s (.s .z (.b (.l [57] [7, 55, 56, 115] (.s .z (.s (.c .z .z) (.s (.b (.s .z (.s .z (.b (.l [13] [7, 12, 55, 56, 57, 115] (.s (.s .z (.c .z .z)) (.s (.b (.s .z (.j [84] [7, 12, 13, 55, 56, 57, 115] .z (.c (.s .z .z) .z)))) .z))))))) .z)))))) (.s .z (.s .z (.j [6] [115] (.o (oc [0, 1, 2, 3, 4, 5, 7, 8, 9, 6, 10, 11, 12, 13] .nil)) .z))))))))))
theorem E_simulcasttop_TopEpochs (ops0 reads1 l2 : Value) (h : Hp) (R : Value → Hp → Prop) : F_simulcasttop_TopEpochs (Sys.of Go.Proofs.Tryz.prog) ids ops0 reads1 l2 h R = denFn Go.Proofs.Tryz.prog Go.Proofs.Tryz.f3 H_simulcasttop_TopEpochs [ops0, reads1, l2] h R := by kernel_rfl
theorem C_simulcasttop_TopEpochs {ops0 reads1 l2 : Value} {h : Hp} {R : Value → Hp → Prop} (H : F_simulcasttop_TopEpochs (Sys.of Go.Proofs.Tryz.prog) ids ops0 reads1 l2 h R) : (Sys.of Go.Proofs.Tryz.prog).C ids.f_simulcasttop_TopEpochs [ops0, reads1, l2] h R :=
  cl_of_den Go.Proofs.Tryz.func3 (by kernel_rfl) mixed (E_simulcasttop_TopEpochs ops0 reads1 l2 h R) H

def H_math_bits_Len : HT := (.s .z (.s (.c (.s .z .z) .z) (.s .z .z)))
theorem E_math_bits_Len (x0 : Value) (h : Hp) (R : Value → Hp → Prop) : F_math_bits_Len (Sys.of Go.Proofs.Tryz.prog) ids x0 h R = denFn Go.Proofs.Tryz.prog Go.Proofs.Tryz.f68 H_math_bits_Len [x0] h R := by kernel_rfl
theorem C_math_bits_Len {x0 : Value} {h : Hp} {R : Value → Hp → Prop} (H : F_math_bits_Len (Sys.of Go.Proofs.Tryz.prog) ids x0 h R) : (Sys.of Go.Proofs.Tryz.prog).C ids.f_math_bits_Len [x0] h R :=
  cl_of_den Go.Proofs.Tryz.func68 (by kernel_rfl) mixed (E_math_bits_Len x0 h R) H

def H_cmp_Less_int : HT := (.s .z (.j [4] [17] .z .z))
theorem E_cmp_Less_int (x0 y1 : Value) (h : Hp) (R : Value → Hp → Prop) : F_cmp_Less_int (Sys.of Go.Proofs.Tryz.prog) ids x0 y1 h R = denFn Go.Proofs.Tryz.prog Go.Proofs.Tryz.f101 H_cmp_Less_int [x0, y1] h R := by kernel_rfl
theorem C_cmp_Less_int {x0 y1 : Value} {h : Hp} {R : Value → Hp → Prop} (H : F_cmp_Less_int (Sys.of Go.Proofs.Tryz.prog) ids x0 y1 h R) : (Sys.of Go.Proofs.Tryz.prog).C ids.f_cmp_Less_int [x0, y1] h R :=
  cl_of_den Go.Proofs.Tryz.func101 (by kernel_rfl) mixed (E_cmp_Less_int x0 y1 h R) H

def H_math_bits_Len64 : HT := (.s .z (.j [0, 2] [25] (.s .z (.c (.s .z .z) .z)) (.j [0, 2] [25] (.s .z (.c (.s .z .z) .z)) (.j [0, 2] [25] (.s .z (.c (.s .z .z) .z)) (.s .z .z)))))
theorem E_math_bits_Len64 (x0 : Value) (h : Hp) (R : Value → Hp → Prop) : F_math_bits_Len64 (Sys.of Go.Proofs.Tryz.prog) ids x0 h R = denFn Go.Proofs.Tryz.prog Go.Proofs.Tryz.f105 H_math_bits_Len64 [x0] h R := by kernel_rfl
theorem C_math_bits_Len64 {x0 : Value} {h : Hp} {R : Value → Hp → Prop} (H : F_math_bits_Len64 (Sys.of Go.Proofs.Tryz.prog) ids x0 h R) : (Sys.of Go.Proofs.Tryz.prog).C ids.f_math_bits_Len64 [x0] h R :=
  cl_of_den Go.Proofs.Tryz.func105 (by kernel_rfl) mixed (E_math_bits_Len64 x0 h R) H

def H_cmp_isNaN_int : HT := (.s .z (.s .z .z))
theorem E_cmp_isNaN_int (x0 : Value) (h : Hp) (R : Value → Hp → Prop) : F_cmp_isNaN_int (Sys.of Go.Proofs.Tryz.prog) ids x0 h R = denFn Go.Proofs.Tryz.prog Go.Proofs.Tryz.f129 H_cmp_isNaN_int [x0] h R := by kernel_rfl
theorem C_cmp_isNaN_int {x0 : Value} {h : Hp} {R : Value → Hp → Prop} (H : F_cmp_isNaN_int (Sys.of Go.Proofs.Tryz.prog) ids x0 h R) : (Sys.of Go.Proofs.Tryz.prog).C ids.f_cmp_isNaN_int [x0] h R :=
  cl_of_den Go.Proofs.Tryz.func129 (by kernel_rfl) mixed (E_cmp_isNaN_int x0 h R) H

def H_simulcasttop_epochAwake : HT := (.s .z (.s .z (.s .z (.s (.j [32] [1, 69] .z (.c (.s .z .z) .z)) (.s .z (.j [6] [4, 5, 69] (.o (oc [0, 1, 2, 3] (.alt (oc [4] (.alt (oc [5, 6, 7, 8, 9, 10, 11] .nil) (oc [9, 5, 6, 7, 8, 10, 11] .nil))) (oc [9, 4, 5, 6, 7, 8, 10, 11] .nil)))) (.j [0] [69] .z .z)))))))
theorem E_simulcasttop_epochAwake (h : Hp) (R : Value → Hp → Prop) : F_simulcasttop_epochAwake (Sys.of Go.Proofs.Tryz.prog) ids h R = denFn Go.Proofs.Tryz.prog Go.Proofs.Tryz.f7 H_simulcasttop_epochAwake [] h R := by kernel_rfl
theorem C_simulcasttop_epochAwake {h : Hp} {R : Value → Hp → Prop} (H : F_simulcasttop_epochAwake (Sys.of Go.Proofs.Tryz.prog) ids h R) : (Sys.of Go.Proofs.Tryz.prog).C ids.f_simulcasttop_epochAwake [] h R :=
  cl_of_den Go.Proofs.Tryz.func7 (by kernel_rfl) mixed (E_simulcasttop_epochAwake h R) H

def H_simulcasttop_epochWorld : HT := (.s .z (.s .z (.s .z (.s (.s .z (.c (.s .z .z) .z)) (.j [8] [3, 4, 6, 7, 70] (.o (oc [0, 1] (.alt (oc [2] (.alt (oc [3, 4, 5, 6, 7] .nil) (oc [6, 3, 4, 5, 7] .nil))) (.alt (oc [3, 4] (.alt (oc [2, 5, 6, 7] .nil) (oc [6, 2, 5, 7] .nil))) (oc [6] (.alt (oc [2, 3, 4, 5, 7] .nil) (oc [3, 4, 2, 5, 7] .nil))))))) (.s .z (.s (.o (oc [0, 1, 3, 4, 2, 5, 6] .nil)) (.s .z (.s .z (.j [5] [4, 70] .z .z))))))))))
theorem E_simulcasttop_epochWorld (ops0 reads1 : Value) (h : Hp) (R : Value → Hp → Prop) : F_simulcasttop_epochWorld (Sys.of Go.Proofs.Tryz.prog) ids ops0 reads1 h R = denFn Go.Proofs.Tryz.prog Go.Proofs.Tryz.f8 H_simulcasttop_epochWorld [ops0, reads1] h R := by kernel_rfl
theorem C_simulcasttop_epochWorld {ops0 reads1 : Value} {h : Hp} {R : Value → Hp → Prop} (H : F_simulcasttop_epochWorld (Sys.of Go.Proofs.Tryz.prog) ids ops0 reads1 h R) : (Sys.of Go.Proofs.Tryz.prog).C ids.f_simulcasttop_epochWorld [ops0, reads1] h R :=
  cl_of_den Go.Proofs.Tryz.func8 (by kernel_rfl) mixed (E_simulcasttop_epochWorld ops0 reads1 h R) H

def H_task_World_Step : HT := (.s .z (.j [] [2, 4, 44] (.b (.s .z (.c .z (.s .z (.c (.s .z .z) (.s .z (.c .z (.s .z (.c (.s .z .z) (.s .z (.c (.s .z .z) .z))))))))))) (.s .z .z)))
theorem E_task_World_Step (w0 p1 : Value) (h : Hp) (R : Value → Hp → Prop) : F_task_World_Step (Sys.of Go.Proofs.Tryz.prog) ids w0 p1 h R = denFn Go.Proofs.Tryz.prog Go.Proofs.Tryz.f9 H_task_World_Step [w0, p1] h R := by kernel_rfl
theorem C_task_World_Step {w0 p1 : Value} {h : Hp} {R : Value → Hp → Prop} (H : F_task_World_Step (Sys.of Go.Proofs.Tryz.prog) ids w0 p1 h R) : (Sys.of Go.Proofs.Tryz.prog).C ids.f_task_World_Step [w0, p1] h R :=
  cl_of_den Go.Proofs.Tryz.func9 (by kernel_rfl) mixed (E_task_World_Step w0 p1 h R) H

def H_simulcasttop_epochSafe : HT := (.s .z (.s .z (.s (.j [25] [1, 3, 66] .z (.c (.s .z .z) .z)) (.s (.s .z (.b (.l [30] [3, 28, 29, 66] (.s .z (.s (.c .z .z) (.j [] [3, 28, 29, 30, 66] (.b (.s .z (.s .z (.s (.s .z (.c (.s .z .z) .z)) (.s (.s .z (.c .z .z)) (.s (.o (oc [0, 1, 2, 3, 4, 5, 6, 7, 8, 9] .nil)) (.j [64] [3, 28, 29, 30, 66] .z (.c (.s .z .z) .z)))))))) .z)))))) (.s .z .z)))))
theorem E_simulcasttop_epochSafe (x0 : Value) (h : Hp) (R : Value → Hp → Prop) : F_simulcasttop_epochSafe (Sys.of Go.Proofs.Tryz.prog) ids x0 h R = denFn Go.Proofs.Tryz.prog Go.Proofs.Tryz.f10 H_simulcasttop_epochSafe [x0] h R := by kernel_rfl
theorem C_simulcasttop_epochSafe {x0 : Value} {h : Hp} {R : Value → Hp → Prop} (H : F_simulcasttop_epochSafe (Sys.of Go.Proofs.Tryz.prog) ids x0 h R) : (Sys.of Go.Proofs.Tryz.prog).C ids.f_simulcasttop_epochSafe [x0] h R :=
  cl_of_den Go.Proofs.Tryz.func10 (by kernel_rfl) mixed (E_simulcasttop_epochSafe x0 h R) H

def H_task_Task_Done : HT := (.s .z (.s .z .z))
theorem E_task_Task_Done (t0 : Value) (h : Hp) (R : Value → Hp → Prop) : F_task_Task_Done (Sys.of Go.Proofs.Tryz.prog) ids t0 h R = denFn Go.Proofs.Tryz.prog Go.Proofs.Tryz.f11 H_task_Task_Done [t0] h R := by kernel_rfl
theorem C_task_Task_Done {t0 : Value} {h : Hp} {R : Value → Hp → Prop} (H : F_task_Task_Done (Sys.of Go.Proofs.Tryz.prog) ids t0 h R) : (Sys.of Go.Proofs.Tryz.prog).C ids.f_task_Task_Done [t0] h R :=
  cl_of_den Go.Proofs.Tryz.func11 (by kernel_rfl) mixed (E_task_Task_Done t0 h R) H

def H_task_Task_Code : HT := (.s .z (.s .z .z))
theorem E_task_Task_Code (t0 : Value) (h : Hp) (R : Value → Hp → Prop) : F_task_Task_Code (Sys.of Go.Proofs.Tryz.prog) ids t0 h R = denFn Go.Proofs.Tryz.prog Go.Proofs.Tryz.f12 H_task_Task_Code [t0] h R := by kernel_rfl
theorem C_task_Task_Code {t0 : Value} {h : Hp} {R : Value → Hp → Prop} (H : F_task_Task_Code (Sys.of Go.Proofs.Tryz.prog) ids t0 h R) : (Sys.of Go.Proofs.Tryz.prog).C ids.f_task_Task_Code [t0] h R :=
  cl_of_den Go.Proofs.Tryz.func12 (by kernel_rfl) mixed (E_task_Task_Code t0 h R) H

def H_reclaim_Bag_Sweep : HT := (.s .z (.s .z (.s .z (.s (.s .z (.b (.l [8, 9, 15] [1, 2, 6, 13, 14, 38] (.s .z (.s (.c .z .z) (.j [8, 9] [1, 2, 6, 13, 14, 15, 38] (.b (.s .z (.s .z (.c .z .z)))) .z)))))) (.s .z (.s .z .z))))))
theorem E_reclaim_Bag_Sweep (b0 announced1 held2 : Value) (h : Hp) (R : Value → Hp → Prop) : F_reclaim_Bag_Sweep (Sys.of Go.Proofs.Tryz.prog) ids b0 announced1 held2 h R = denFn Go.Proofs.Tryz.prog Go.Proofs.Tryz.f13 H_reclaim_Bag_Sweep [b0, announced1, held2] h R := by kernel_rfl
theorem C_reclaim_Bag_Sweep {b0 announced1 held2 : Value} {h : Hp} {R : Value → Hp → Prop} (H : F_reclaim_Bag_Sweep (Sys.of Go.Proofs.Tryz.prog) ids b0 announced1 held2 h R) : (Sys.of Go.Proofs.Tryz.prog).C ids.f_reclaim_Bag_Sweep [b0, announced1, held2] h R :=
  cl_of_den Go.Proofs.Tryz.func13 (by kernel_rfl) mixed (E_reclaim_Bag_Sweep b0 announced1 held2 h R) H

def H_reclaim_Bag_Len : HT := (.s .z (.s .z .z))
theorem E_reclaim_Bag_Len (b0 : Value) (h : Hp) (R : Value → Hp → Prop) : F_reclaim_Bag_Len (Sys.of Go.Proofs.Tryz.prog) ids b0 h R = denFn Go.Proofs.Tryz.prog Go.Proofs.Tryz.f14 H_reclaim_Bag_Len [b0] h R := by kernel_rfl
theorem C_reclaim_Bag_Len {b0 : Value} {h : Hp} {R : Value → Hp → Prop} (H : F_reclaim_Bag_Len (Sys.of Go.Proofs.Tryz.prog) ids b0 h R) : (Sys.of Go.Proofs.Tryz.prog).C ids.f_reclaim_Bag_Len [b0] h R :=
  cl_of_den Go.Proofs.Tryz.func14 (by kernel_rfl) mixed (E_reclaim_Bag_Len b0 h R) H

def H_task_World_Alone : HT := (.s .z (.s (.j [24] [1, 2, 3, 6, 49] .z (.c (.s .z .z) .z)) (.j [] [1, 3, 6, 49] (.s .z (.b (.l [28] [1, 3, 6, 27, 49] (.s .z (.s (.c .z .z) (.s (.b (.s .z (.s (.s .z (.c .z .z)) .z))) .z)))))) (.s (.o (oc [0, 1, 2, 3, 4, 5, 6, 7, 8, 9] .nil)) .z))))
theorem E_task_World_Alone (w0 t1 most2 : Value) (h : Hp) (R : Value → Hp → Prop) : F_task_World_Alone (Sys.of Go.Proofs.Tryz.prog) ids w0 t1 most2 h R = denFn Go.Proofs.Tryz.prog Go.Proofs.Tryz.f21 H_task_World_Alone [w0, t1, most2] h R := by kernel_rfl
theorem C_task_World_Alone {w0 t1 most2 : Value} {h : Hp} {R : Value → Hp → Prop} (H : F_task_World_Alone (Sys.of Go.Proofs.Tryz.prog) ids w0 t1 most2 h R) : (Sys.of Go.Proofs.Tryz.prog).C ids.f_task_World_Alone [w0, t1, most2] h R :=
  cl_of_den Go.Proofs.Tryz.func21 (by kernel_rfl) mixed (E_task_World_Alone w0 t1 most2 h R) H

def H_task_Task_Steps : HT := (.s .z (.s .z .z))
theorem E_task_Task_Steps (t0 : Value) (h : Hp) (R : Value → Hp → Prop) : F_task_Task_Steps (Sys.of Go.Proofs.Tryz.prog) ids t0 h R = denFn Go.Proofs.Tryz.prog Go.Proofs.Tryz.f26 H_task_Task_Steps [t0] h R := by kernel_rfl
theorem C_task_Task_Steps {t0 : Value} {h : Hp} {R : Value → Hp → Prop} (H : F_task_Task_Steps (Sys.of Go.Proofs.Tryz.prog) ids t0 h R) : (Sys.of Go.Proofs.Tryz.prog).C ids.f_task_Task_Steps [t0] h R :=
  cl_of_den Go.Proofs.Tryz.func26 (by kernel_rfl) mixed (E_task_Task_Steps t0 h R) H

def H_machine_Machine_Word : HT := (.s .z (.s .z .z))
theorem E_machine_Machine_Word (m0 at1 : Value) (h : Hp) (R : Value → Hp → Prop) : F_machine_Machine_Word (Sys.of Go.Proofs.Tryz.prog) ids m0 at1 h R = denFn Go.Proofs.Tryz.prog Go.Proofs.Tryz.f27 H_machine_Machine_Word [m0, at1] h R := by kernel_rfl
theorem C_machine_Machine_Word {m0 at1 : Value} {h : Hp} {R : Value → Hp → Prop} (H : F_machine_Machine_Word (Sys.of Go.Proofs.Tryz.prog) ids m0 at1 h R) : (Sys.of Go.Proofs.Tryz.prog).C ids.f_machine_Machine_Word [m0, at1] h R :=
  cl_of_den Go.Proofs.Tryz.func27 (by kernel_rfl) mixed (E_machine_Machine_Word m0 at1 h R) H

def H_layout_Layout_Cell : HT := (.s .z (.s .z .z))
theorem E_layout_Layout_Cell (l0 i1 : Value) (h : Hp) (R : Value → Hp → Prop) : F_layout_Layout_Cell (Sys.of Go.Proofs.Tryz.prog) ids l0 i1 h R = denFn Go.Proofs.Tryz.prog Go.Proofs.Tryz.f28 H_layout_Layout_Cell [l0, i1] h R := by kernel_rfl
theorem C_layout_Layout_Cell {l0 i1 : Value} {h : Hp} {R : Value → Hp → Prop} (H : F_layout_Layout_Cell (Sys.of Go.Proofs.Tryz.prog) ids l0 i1 h R) : (Sys.of Go.Proofs.Tryz.prog).C ids.f_layout_Layout_Cell [l0, i1] h R :=
  cl_of_den Go.Proofs.Tryz.func28 (by kernel_rfl) mixed (E_layout_Layout_Cell l0 i1 h R) H

def H_layout_Layout_First : HT := (.s .z (.s (.s .z (.c (.s .z .z) .z)) (.s .z (.s .z (.s (.s .z (.b (.l [4] [1, 3, 42] (.s (.s .z (.c .z .z)) (.s (.b .z) .z))))) (.s (.s .z (.b (.l [31] [1, 3, 30, 42] (.s .z (.s (.c .z .z) (.s (.b (.s .z .z)) .z)))))) (.s .z .z)))))))
theorem E_layout_Layout_First (l0 : Value) (h : Hp) (R : Value → Hp → Prop) : F_layout_Layout_First (Sys.of Go.Proofs.Tryz.prog) ids l0 h R = denFn Go.Proofs.Tryz.prog Go.Proofs.Tryz.f29 H_layout_Layout_First [l0] h R := by kernel_rfl
theorem C_layout_Layout_First {l0 : Value} {h : Hp} {R : Value → Hp → Prop} (H : F_layout_Layout_First (Sys.of Go.Proofs.Tryz.prog) ids l0 h R) : (Sys.of Go.Proofs.Tryz.prog).C ids.f_layout_Layout_First [l0] h R :=
  cl_of_den Go.Proofs.Tryz.func29 (by kernel_rfl) mixed (E_layout_Layout_First l0 h R) H

def H_simulcasttop_epochValue : HT := (.s .z (.s .z .z))
theorem E_simulcasttop_epochValue (block0 gen1 : Value) (h : Hp) (R : Value → Hp → Prop) : F_simulcasttop_epochValue (Sys.of Go.Proofs.Tryz.prog) ids block0 gen1 h R = denFn Go.Proofs.Tryz.prog Go.Proofs.Tryz.f30 H_simulcasttop_epochValue [block0, gen1] h R := by kernel_rfl
theorem C_simulcasttop_epochValue {block0 gen1 : Value} {h : Hp} {R : Value → Hp → Prop} (H : F_simulcasttop_epochValue (Sys.of Go.Proofs.Tryz.prog) ids block0 gen1 h R) : (Sys.of Go.Proofs.Tryz.prog).C ids.f_simulcasttop_epochValue [block0, gen1] h R :=
  cl_of_den Go.Proofs.Tryz.func30 (by kernel_rfl) mixed (E_simulcasttop_epochValue block0 gen1 h R) H

def H_machine_New : HT := (.s .z (.s .z (.s (.s .z (.c (.s .z .z) .z)) (.s .z (.s (.s .z (.c (.s .z .z) .z)) (.s (.o (oc [0, 1, 2, 3, 4, 5, 6] .nil)) .z))))))
theorem E_machine_New (threads0 w1 : Value) (h : Hp) (R : Value → Hp → Prop) : F_machine_New (Sys.of Go.Proofs.Tryz.prog) ids threads0 w1 h R = denFn Go.Proofs.Tryz.prog Go.Proofs.Tryz.f31 H_machine_New [threads0, w1] h R := by kernel_rfl
theorem C_machine_New {threads0 w1 : Value} {h : Hp} {R : Value → Hp → Prop} (H : F_machine_New (Sys.of Go.Proofs.Tryz.prog) ids threads0 w1 h R) : (Sys.of Go.Proofs.Tryz.prog).C ids.f_machine_New [threads0, w1] h R :=
  cl_of_den Go.Proofs.Tryz.func31 (by kernel_rfl) mixed (E_machine_New threads0 w1 h R) H

def H_task_Make : HT := (.s .z (.s (.s .z (.s .z (.c (.s .z .z) .z))) (.j [8] [1, 4, 41] (.o (oc [0, 1, 2] (.alt (oc [3, 4, 5, 6] .nil) (oc [5, 3, 4, 6] .nil)))) (.s (.s .z (.b (.l [28] [4, 8, 26, 27, 41] (.s .z (.s (.c .z .z) (.s (.b (.s .z (.o (oc [0, 1, 2, 3, 4, 5, 6, 7] .nil)))) .z)))))) (.s .z .z)))))
theorem E_task_Make (m0 l1 : Value) (h : Hp) (R : Value → Hp → Prop) : F_task_Make (Sys.of Go.Proofs.Tryz.prog) ids m0 l1 h R = denFn Go.Proofs.Tryz.prog Go.Proofs.Tryz.f32 H_task_Make [m0, l1] h R := by kernel_rfl
theorem C_task_Make {m0 l1 : Value} {h : Hp} {R : Value → Hp → Prop} (H : F_task_Make (Sys.of Go.Proofs.Tryz.prog) ids m0 l1 h R) : (Sys.of Go.Proofs.Tryz.prog).C ids.f_task_Make [m0, l1] h R :=
  cl_of_den Go.Proofs.Tryz.func32 (by kernel_rfl) mixed (E_task_Make m0 l1 h R) H

def H_task_World_dead : HT := (.s .z (.s .z (.s .z .z)))
theorem E_task_World_dead (w0 : Value) (h : Hp) (R : Value → Hp → Prop) : F_task_World_dead (Sys.of Go.Proofs.Tryz.prog) ids w0 h R = denFn Go.Proofs.Tryz.prog Go.Proofs.Tryz.f33 H_task_World_dead [w0] h R := by kernel_rfl
theorem C_task_World_dead {w0 : Value} {h : Hp} {R : Value → Hp → Prop} (H : F_task_World_dead (Sys.of Go.Proofs.Tryz.prog) ids w0 h R) : (Sys.of Go.Proofs.Tryz.prog).C ids.f_task_World_dead [w0] h R :=
  cl_of_den Go.Proofs.Tryz.func33 (by kernel_rfl) mixed (E_task_World_dead w0 h R) H

def H_task_World_takes : HT := (.s .z (.j [4] [31] .z .z))
theorem E_task_World_takes (w0 t1 : Value) (h : Hp) (R : Value → Hp → Prop) : F_task_World_takes (Sys.of Go.Proofs.Tryz.prog) ids w0 t1 h R = denFn Go.Proofs.Tryz.prog Go.Proofs.Tryz.f35 H_task_World_takes [w0, t1] h R := by kernel_rfl
theorem C_task_World_takes {w0 t1 : Value} {h : Hp} {R : Value → Hp → Prop} (H : F_task_World_takes (Sys.of Go.Proofs.Tryz.prog) ids w0 t1 h R) : (Sys.of Go.Proofs.Tryz.prog).C ids.f_task_World_takes [w0, t1] h R :=
  cl_of_den Go.Proofs.Tryz.func35 (by kernel_rfl) mixed (E_task_World_takes w0 t1 h R) H

def H_task_World_step : HT := (.s .z (.s .z (.s .z (.j [] [1, 3, 6, 10, 55] (.s .z (.c .z .z)) (.s .z (.s (.o (oc [0, 1, 2, 3, 4, 5, 6, 7, 8, 9, 10, 11, 12, 13] .nil)) (.s .z .z)))))))
theorem E_task_World_step (w0 t1 choice2 : Value) (h : Hp) (R : Value → Hp → Prop) : F_task_World_step (Sys.of Go.Proofs.Tryz.prog) ids w0 t1 choice2 h R = denFn Go.Proofs.Tryz.prog Go.Proofs.Tryz.f36 H_task_World_step [w0, t1, choice2] h R := by kernel_rfl
theorem C_task_World_step {w0 t1 choice2 : Value} {h : Hp} {R : Value → Hp → Prop} (H : F_task_World_step (Sys.of Go.Proofs.Tryz.prog) ids w0 t1 choice2 h R) : (Sys.of Go.Proofs.Tryz.prog).C ids.f_task_World_step [w0, t1, choice2] h R :=
  cl_of_den Go.Proofs.Tryz.func36 (by kernel_rfl) mixed (E_task_World_step w0 t1 choice2 h R) H

def H_slices_Contains_int_int : HT := (.s .z (.s .z .z))
theorem E_slices_Contains_int_int (s0 v1 : Value) (h : Hp) (R : Value → Hp → Prop) : F_slices_Contains_int_int (Sys.of Go.Proofs.Tryz.prog) ids s0 v1 h R = denFn Go.Proofs.Tryz.prog Go.Proofs.Tryz.f38 H_slices_Contains_int_int [s0, v1] h R := by kernel_rfl
theorem C_slices_Contains_int_int {s0 v1 : Value} {h : Hp} {R : Value → Hp → Prop} (H : F_slices_Contains_int_int (Sys.of Go.Proofs.Tryz.prog) ids s0 v1 h R) : (Sys.of Go.Proofs.Tryz.prog).C ids.f_slices_Contains_int_int [s0, v1] h R :=
  cl_of_den Go.Proofs.Tryz.func38 (by kernel_rfl) mixed (E_slices_Contains_int_int s0 v1 h R) H

def H_reclaim_Item_way : HT := (.s .z (.j [6] [17] .z .z))
theorem E_reclaim_Item_way (i0 announced1 held2 : Value) (h : Hp) (R : Value → Hp → Prop) : F_reclaim_Item_way (Sys.of Go.Proofs.Tryz.prog) ids i0 announced1 held2 h R = denFn Go.Proofs.Tryz.prog Go.Proofs.Tryz.f39 H_reclaim_Item_way [i0, announced1, held2] h R := by kernel_rfl
theorem C_reclaim_Item_way {i0 announced1 held2 : Value} {h : Hp} {R : Value → Hp → Prop} (H : F_reclaim_Item_way (Sys.of Go.Proofs.Tryz.prog) ids i0 announced1 held2 h R) : (Sys.of Go.Proofs.Tryz.prog).C ids.f_reclaim_Item_way [i0, announced1, held2] h R :=
  cl_of_den Go.Proofs.Tryz.func39 (by kernel_rfl) mixed (E_reclaim_Item_way i0 announced1 held2 h R) H

def H_slices_Sort_int_int : HT := (.s .z .z)
theorem E_slices_Sort_int_int (x0 : Value) (h : Hp) (R : Value → Hp → Prop) : F_slices_Sort_int_int (Sys.of Go.Proofs.Tryz.prog) ids x0 h R = denFn Go.Proofs.Tryz.prog Go.Proofs.Tryz.f40 H_slices_Sort_int_int [x0] h R := by kernel_rfl
theorem C_slices_Sort_int_int {x0 : Value} {h : Hp} {R : Value → Hp → Prop} (H : F_slices_Sort_int_int (Sys.of Go.Proofs.Tryz.prog) ids x0 h R) : (Sys.of Go.Proofs.Tryz.prog).C ids.f_slices_Sort_int_int [x0] h R :=
  cl_of_den Go.Proofs.Tryz.func40 (by kernel_rfl) mixed (E_slices_Sort_int_int x0 h R) H

def H_task_World_stopped : HT := (.s .z (.j [4] [17] .z .z))
theorem E_task_World_stopped (w0 i1 : Value) (h : Hp) (R : Value → Hp → Prop) : F_task_World_stopped (Sys.of Go.Proofs.Tryz.prog) ids w0 i1 h R = denFn Go.Proofs.Tryz.prog Go.Proofs.Tryz.f43 H_task_World_stopped [w0, i1] h R := by kernel_rfl
theorem C_task_World_stopped {w0 i1 : Value} {h : Hp} {R : Value → Hp → Prop} (H : F_task_World_stopped (Sys.of Go.Proofs.Tryz.prog) ids w0 i1 h R) : (Sys.of Go.Proofs.Tryz.prog).C ids.f_task_World_stopped [w0, i1] h R :=
  cl_of_den Go.Proofs.Tryz.func43 (by kernel_rfl) mixed (E_task_World_stopped w0 i1 h R) H

def H_machine_Machine_Size : HT := (.s .z (.s .z .z))
theorem E_machine_Machine_Size (m0 : Value) (h : Hp) (R : Value → Hp → Prop) : F_machine_Machine_Size (Sys.of Go.Proofs.Tryz.prog) ids m0 h R = denFn Go.Proofs.Tryz.prog Go.Proofs.Tryz.f46 H_machine_Machine_Size [m0] h R := by kernel_rfl
theorem C_machine_Machine_Size {m0 : Value} {h : Hp} {R : Value → Hp → Prop} (H : F_machine_Machine_Size (Sys.of Go.Proofs.Tryz.prog) ids m0 h R) : (Sys.of Go.Proofs.Tryz.prog).C ids.f_machine_Machine_Size [m0] h R :=
  cl_of_den Go.Proofs.Tryz.func46 (by kernel_rfl) mixed (E_machine_Machine_Size m0 h R) H

def H_memory_Memory_Last : HT := (.s .z (.s .z (.s .z .z)))
theorem E_memory_Memory_Last (m0 at1 : Value) (h : Hp) (R : Value → Hp → Prop) : F_memory_Memory_Last (Sys.of Go.Proofs.Tryz.prog) ids m0 at1 h R = denFn Go.Proofs.Tryz.prog Go.Proofs.Tryz.f47 H_memory_Memory_Last [m0, at1] h R := by kernel_rfl
theorem C_memory_Memory_Last {m0 at1 : Value} {h : Hp} {R : Value → Hp → Prop} (H : F_memory_Memory_Last (Sys.of Go.Proofs.Tryz.prog) ids m0 at1 h R) : (Sys.of Go.Proofs.Tryz.prog).C ids.f_memory_Memory_Last [m0, at1] h R :=
  cl_of_den Go.Proofs.Tryz.func47 (by kernel_rfl) mixed (E_memory_Memory_Last m0 at1 h R) H

def H_layout_Layout_at : HT := (.s .z (.s (.j [22] [1, 2, 3, 4, 34] .z (.c (.s .z .z) .z)) (.s (.o (oc [0, 1, 3, 4, 5, 6, 7, 9, 2, 8, 10, 11] .nil)) .z)))
theorem E_layout_Layout_at (l0 part1 i2 more3 : Value) (h : Hp) (R : Value → Hp → Prop) : F_layout_Layout_at (Sys.of Go.Proofs.Tryz.prog) ids l0 part1 i2 more3 h R = denFn Go.Proofs.Tryz.prog Go.Proofs.Tryz.f48 H_layout_Layout_at [l0, part1, i2, more3] h R := by kernel_rfl
theorem C_layout_Layout_at {l0 part1 i2 more3 : Value} {h : Hp} {R : Value → Hp → Prop} (H : F_layout_Layout_at (Sys.of Go.Proofs.Tryz.prog) ids l0 part1 i2 more3 h R) : (Sys.of Go.Proofs.Tryz.prog).C ids.f_layout_Layout_at [l0, part1, i2, more3] h R :=
  cl_of_den Go.Proofs.Tryz.func48 (by kernel_rfl) mixed (E_layout_Layout_at l0 part1 i2 more3 h R) H

def H_layout_Layout_right : HT := (.s .z (.s .z .z))
theorem E_layout_Layout_right (l0 : Value) (h : Hp) (R : Value → Hp → Prop) : F_layout_Layout_right (Sys.of Go.Proofs.Tryz.prog) ids l0 h R = denFn Go.Proofs.Tryz.prog Go.Proofs.Tryz.f49 H_layout_Layout_right [l0] h R := by kernel_rfl
theorem C_layout_Layout_right {l0 : Value} {h : Hp} {R : Value → Hp → Prop} (H : F_layout_Layout_right (Sys.of Go.Proofs.Tryz.prog) ids l0 h R) : (Sys.of Go.Proofs.Tryz.prog).C ids.f_layout_Layout_right [l0] h R :=
  cl_of_den Go.Proofs.Tryz.func49 (by kernel_rfl) mixed (E_layout_Layout_right l0 h R) H

def H_layout_Layout_Size : HT := (.s .z (.s (.s .z (.c (.s .z .z) .z)) (.s .z .z)))
theorem E_layout_Layout_Size (l0 : Value) (h : Hp) (R : Value → Hp → Prop) : F_layout_Layout_Size (Sys.of Go.Proofs.Tryz.prog) ids l0 h R = denFn Go.Proofs.Tryz.prog Go.Proofs.Tryz.f50 H_layout_Layout_Size [l0] h R := by kernel_rfl
theorem C_layout_Layout_Size {l0 : Value} {h : Hp} {R : Value → Hp → Prop} (H : F_layout_Layout_Size (Sys.of Go.Proofs.Tryz.prog) ids l0 h R) : (Sys.of Go.Proofs.Tryz.prog).C ids.f_layout_Layout_Size [l0] h R :=
  cl_of_den Go.Proofs.Tryz.func50 (by kernel_rfl) mixed (E_layout_Layout_Size l0 h R) H

def H_layout_Layout_Era : HT := (.s .z (.s .z .z))
theorem E_layout_Layout_Era (l0 : Value) (h : Hp) (R : Value → Hp → Prop) : F_layout_Layout_Era (Sys.of Go.Proofs.Tryz.prog) ids l0 h R = denFn Go.Proofs.Tryz.prog Go.Proofs.Tryz.f51 H_layout_Layout_Era [l0] h R := by kernel_rfl
theorem C_layout_Layout_Era {l0 : Value} {h : Hp} {R : Value → Hp → Prop} (H : F_layout_Layout_Era (Sys.of Go.Proofs.Tryz.prog) ids l0 h R) : (Sys.of Go.Proofs.Tryz.prog).C ids.f_layout_Layout_Era [l0] h R :=
  cl_of_den Go.Proofs.Tryz.func51 (by kernel_rfl) mixed (E_layout_Layout_Era l0 h R) H

def H_layout_Layout_Slot : HT := (.s .z (.s .z .z))
theorem E_layout_Layout_Slot (l0 t1 : Value) (h : Hp) (R : Value → Hp → Prop) : F_layout_Layout_Slot (Sys.of Go.Proofs.Tryz.prog) ids l0 t1 h R = denFn Go.Proofs.Tryz.prog Go.Proofs.Tryz.f52 H_layout_Layout_Slot [l0, t1] h R := by kernel_rfl
theorem C_layout_Layout_Slot {l0 t1 : Value} {h : Hp} {R : Value → Hp → Prop} (H : F_layout_Layout_Slot (Sys.of Go.Proofs.Tryz.prog) ids l0 t1 h R) : (Sys.of Go.Proofs.Tryz.prog).C ids.f_layout_Layout_Slot [l0, t1] h R :=
  cl_of_den Go.Proofs.Tryz.func52 (by kernel_rfl) mixed (E_layout_Layout_Slot l0 t1 h R) H

def H_layout_Layout_Block : HT := (.s .z (.s .z .z))
theorem E_layout_Layout_Block (l0 i1 : Value) (h : Hp) (R : Value → Hp → Prop) : F_layout_Layout_Block (Sys.of Go.Proofs.Tryz.prog) ids l0 i1 h R = denFn Go.Proofs.Tryz.prog Go.Proofs.Tryz.f53 H_layout_Layout_Block [l0, i1] h R := by kernel_rfl
theorem C_layout_Layout_Block {l0 i1 : Value} {h : Hp} {R : Value → Hp → Prop} (H : F_layout_Layout_Block (Sys.of Go.Proofs.Tryz.prog) ids l0 i1 h R) : (Sys.of Go.Proofs.Tryz.prog).C ids.f_layout_Layout_Block [l0, i1] h R :=
  cl_of_den Go.Proofs.Tryz.func53 (by kernel_rfl) mixed (E_layout_Layout_Block l0 i1 h R) H

def H_memory_New : HT := (.s .z (.s (.b (.j [9] [0, 1, 4, 45] .z (.c (.s .z .z) (.s .z (.c (.s .z .z) (.s .z (.c (.s .z .z) .z))))))) (.s .z (.s (.s .z (.b (.l [32] [4, 6, 30, 31, 45] (.s .z (.s (.c .z .z) (.s (.b (.s .z (.o (oc [0, 1, 2, 3, 4, 5, 6, 7] .nil)))) .z)))))) (.s .z .z)))))
theorem E_memory_New (threads0 w1 : Value) (h : Hp) (R : Value → Hp → Prop) : F_memory_New (Sys.of Go.Proofs.Tryz.prog) ids threads0 w1 h R = denFn Go.Proofs.Tryz.prog Go.Proofs.Tryz.f54 H_memory_New [threads0, w1] h R := by kernel_rfl
theorem C_memory_New {threads0 w1 : Value} {h : Hp} {R : Value → Hp → Prop} (H : F_memory_New (Sys.of Go.Proofs.Tryz.prog) ids threads0 w1 h R) : (Sys.of Go.Proofs.Tryz.prog).C ids.f_memory_New [threads0, w1] h R :=
  cl_of_den Go.Proofs.Tryz.func54 (by kernel_rfl) mixed (E_memory_New threads0 w1 h R) H

def H_line_New : HT := (.s .z (.s (.s .z (.c (.s .z .z) .z)) (.j [3] [2, 17] (.o (oc [0, 2, 3, 4, 5, 6] (.alt (oc [1, 7, 8, 9, 10] .nil) (oc [7, 1, 8, 9, 10] .nil)))) .z)))
theorem E_line_New (w0 : Value) (h : Hp) (R : Value → Hp → Prop) : F_line_New (Sys.of Go.Proofs.Tryz.prog) ids w0 h R = denFn Go.Proofs.Tryz.prog Go.Proofs.Tryz.f55 H_line_New [w0] h R := by kernel_rfl
theorem C_line_New {w0 : Value} {h : Hp} {R : Value → Hp → Prop} (H : F_line_New (Sys.of Go.Proofs.Tryz.prog) ids w0 h R) : (Sys.of Go.Proofs.Tryz.prog).C ids.f_line_New [w0] h R :=
  cl_of_den Go.Proofs.Tryz.func55 (by kernel_rfl) mixed (E_line_New w0 h R) H

def H_task_Start : HT := (.s .z (.s (.s .z (.c (.s .z .z) .z)) (.s .z .z)))
theorem E_task_Start (c0 : Value) (h : Hp) (R : Value → Hp → Prop) : F_task_Start (Sys.of Go.Proofs.Tryz.prog) ids c0 h R = denFn Go.Proofs.Tryz.prog Go.Proofs.Tryz.f56 H_task_Start [c0] h R := by kernel_rfl
theorem C_task_Start {c0 : Value} {h : Hp} {R : Value → Hp → Prop} (H : F_task_Start (Sys.of Go.Proofs.Tryz.prog) ids c0 h R) : (Sys.of Go.Proofs.Tryz.prog).C ids.f_task_Start [c0] h R :=
  cl_of_den Go.Proofs.Tryz.func56 (by kernel_rfl) mixed (E_task_Start c0 h R) H

def H_slices_Clone_int_int : HT := (.s .z (.s (.s .z (.c (.s .z .z) .z)) (.s .z .z)))
theorem E_slices_Clone_int_int (s0 : Value) (h : Hp) (R : Value → Hp → Prop) : F_slices_Clone_int_int (Sys.of Go.Proofs.Tryz.prog) ids s0 h R = denFn Go.Proofs.Tryz.prog Go.Proofs.Tryz.f58 H_slices_Clone_int_int [s0] h R := by kernel_rfl
theorem C_slices_Clone_int_int {s0 : Value} {h : Hp} {R : Value → Hp → Prop} (H : F_slices_Clone_int_int (Sys.of Go.Proofs.Tryz.prog) ids s0 h R) : (Sys.of Go.Proofs.Tryz.prog).C ids.f_slices_Clone_int_int [s0] h R :=
  cl_of_den Go.Proofs.Tryz.func58 (by kernel_rfl) mixed (E_slices_Clone_int_int s0 h R) H

def H_task_Task_Act : HT := (.s .z (.s (.o (oc [0, 1, 2, 3, 4, 5, 6] .nil)) .z))
theorem E_task_Task_Act (t0 : Value) (h : Hp) (R : Value → Hp → Prop) : F_task_Task_Act (Sys.of Go.Proofs.Tryz.prog) ids t0 h R = denFn Go.Proofs.Tryz.prog Go.Proofs.Tryz.f59 H_task_Task_Act [t0] h R := by kernel_rfl
theorem C_task_Task_Act {t0 : Value} {h : Hp} {R : Value → Hp → Prop} (H : F_task_Task_Act (Sys.of Go.Proofs.Tryz.prog) ids t0 h R) : (Sys.of Go.Proofs.Tryz.prog).C ids.f_task_Task_Act [t0] h R :=
  cl_of_den Go.Proofs.Tryz.func59 (by kernel_rfl) mixed (E_task_Task_Act t0 h R) H

def H_machine_Machine_Do : HT := (.s .z (.s (.s .z (.s .z (.c (.s .z .z) .z))) (.s .z (.j [] [1, 4, 8, 9, 12, 85] (.b (.s .z (.c .z (.s .z (.c .z (.s .z (.c .z (.s .z (.c .z .z))))))))) (.s .z (.s .z (.s (.o (oc [0, 1, 2, 3, 4] .nil)) .z)))))))
theorem E_machine_Machine_Do (m0 t1 a2 choice3 : Value) (h : Hp) (R : Value → Hp → Prop) : F_machine_Machine_Do (Sys.of Go.Proofs.Tryz.prog) ids m0 t1 a2 choice3 h R = denFn Go.Proofs.Tryz.prog Go.Proofs.Tryz.f60 H_machine_Machine_Do [m0, t1, a2, choice3] h R := by kernel_rfl
theorem C_machine_Machine_Do {m0 t1 a2 choice3 : Value} {h : Hp} {R : Value → Hp → Prop} (H : F_machine_Machine_Do (Sys.of Go.Proofs.Tryz.prog) ids m0 t1 a2 choice3 h R) : (Sys.of Go.Proofs.Tryz.prog).C ids.f_machine_Machine_Do [m0, t1, a2, choice3] h R :=
  cl_of_den Go.Proofs.Tryz.func60 (by kernel_rfl) mixed (E_machine_Machine_Do m0 t1 a2 choice3 h R) H

def H_slices_Clone_task_Task_task_Task : HT := (.s .z (.s (.s .z (.c (.s .z .z) .z)) (.s .z .z)))
theorem E_slices_Clone_task_Task_task_Task (s0 : Value) (h : Hp) (R : Value → Hp → Prop) : F_slices_Clone_task_Task_task_Task (Sys.of Go.Proofs.Tryz.prog) ids s0 h R = denFn Go.Proofs.Tryz.prog Go.Proofs.Tryz.f61 H_slices_Clone_task_Task_task_Task [s0] h R := by kernel_rfl
theorem C_slices_Clone_task_Task_task_Task {s0 : Value} {h : Hp} {R : Value → Hp → Prop} (H : F_slices_Clone_task_Task_task_Task (Sys.of Go.Proofs.Tryz.prog) ids s0 h R) : (Sys.of Go.Proofs.Tryz.prog).C ids.f_slices_Clone_task_Task_task_Task [s0] h R :=
  cl_of_den Go.Proofs.Tryz.func61 (by kernel_rfl) mixed (E_slices_Clone_task_Task_task_Task s0 h R) H

def H_task_Task_Give : HT := (.s .z (.s (.s .z (.c (.s .z .z) .z)) (.s .z (.j [] [2, 3, 4, 5, 26] (.o (oc [0, 1, 3] (.alt (oc [2, 4, 5, 6, 7] .nil) (oc [4, 2, 5, 6, 7] .nil)))) (.s (.o (oc [0, 1, 2, 3, 4, 5, 6, 7, 8] .nil)) .z)))))
theorem E_task_Task_Give (t0 g1 : Value) (h : Hp) (R : Value → Hp → Prop) : F_task_Task_Give (Sys.of Go.Proofs.Tryz.prog) ids t0 g1 h R = denFn Go.Proofs.Tryz.prog Go.Proofs.Tryz.f62 H_task_Task_Give [t0, g1] h R := by kernel_rfl
theorem C_task_Task_Give {t0 g1 : Value} {h : Hp} {R : Value → Hp → Prop} (H : F_task_Task_Give (Sys.of Go.Proofs.Tryz.prog) ids t0 g1 h R) : (Sys.of Go.Proofs.Tryz.prog).C ids.f_task_Task_Give [t0, g1] h R :=
  cl_of_den Go.Proofs.Tryz.func62 (by kernel_rfl) mixed (E_task_Task_Give t0 g1 h R) H

def H_slices_Index_int_int : HT := (.s .z (.s (.s .z (.b (.l [8] [0, 1, 7, 19] (.s .z (.s (.c .z .z) (.s (.b (.s .z (.s .z (.c (.s .z .z) .z)))) .z)))))) (.s .z .z)))
theorem E_slices_Index_int_int (s0 v1 : Value) (h : Hp) (R : Value → Hp → Prop) : F_slices_Index_int_int (Sys.of Go.Proofs.Tryz.prog) ids s0 v1 h R = denFn Go.Proofs.Tryz.prog Go.Proofs.Tryz.f63 H_slices_Index_int_int [s0, v1] h R := by kernel_rfl
theorem C_slices_Index_int_int {s0 v1 : Value} {h : Hp} {R : Value → Hp → Prop} (H : F_slices_Index_int_int (Sys.of Go.Proofs.Tryz.prog) ids s0 v1 h R) : (Sys.of Go.Proofs.Tryz.prog).C ids.f_slices_Index_int_int [s0, v1] h R :=
  cl_of_den Go.Proofs.Tryz.func63 (by kernel_rfl) mixed (E_slices_Index_int_int s0 v1 h R) H

def H_slices_ContainsFunc_int64_int64 : HT := (.s .z (.s .z .z))
theorem E_slices_ContainsFunc_int64_int64 (s0 f1 : Value) (h : Hp) (R : Value → Hp → Prop) : F_slices_ContainsFunc_int64_int64 (Sys.of Go.Proofs.Tryz.prog) ids s0 f1 h R = denFn Go.Proofs.Tryz.prog Go.Proofs.Tryz.f64 H_slices_ContainsFunc_int64_int64 [s0, f1] h R := by kernel_rfl
theorem C_slices_ContainsFunc_int64_int64 {s0 f1 : Value} {h : Hp} {R : Value → Hp → Prop} (H : F_slices_ContainsFunc_int64_int64 (Sys.of Go.Proofs.Tryz.prog) ids s0 f1 h R) : (Sys.of Go.Proofs.Tryz.prog).C ids.f_slices_ContainsFunc_int64_int64 [s0, f1] h R :=
  cl_of_den Go.Proofs.Tryz.func64 (by kernel_rfl) mixed (E_slices_ContainsFunc_int64_int64 s0 f1 h R) H

def H_reclaim_Item_lives : HT := (.s .z (.j [4] [19] .z .z))
theorem E_reclaim_Item_lives (i0 era1 : Value) (h : Hp) (R : Value → Hp → Prop) : F_reclaim_Item_lives (Sys.of Go.Proofs.Tryz.prog) ids i0 era1 h R = denFn Go.Proofs.Tryz.prog Go.Proofs.Tryz.f65 H_reclaim_Item_lives [i0, era1] h R := by kernel_rfl
theorem C_reclaim_Item_lives {i0 era1 : Value} {h : Hp} {R : Value → Hp → Prop} (H : F_reclaim_Item_lives (Sys.of Go.Proofs.Tryz.prog) ids i0 era1 h R) : (Sys.of Go.Proofs.Tryz.prog).C ids.f_reclaim_Item_lives [i0, era1] h R :=
  cl_of_den Go.Proofs.Tryz.func65 (by kernel_rfl) mixed (E_reclaim_Item_lives i0 era1 h R) H

def H_slices_pdqsortOrdered_int : HT := (.s .z (.s .z (.b (.l [1, 2, 3, 8, 9] [0, 134] (.b (.s .z (.s (.s .z (.c (.s .z .z) .z)) (.s (.s .z (.c (.s .z .z) .z)) (.j [3] [0, 1, 2, 8, 9, 10, 134] (.s .z (.c (.s .z .z) .z)) (.s .z (.j [11, 12] [0, 1, 2, 3, 8, 9, 10, 134] (.s .z (.c (.s .z (.s .z .z)) .z)) (.j [] [0, 1, 2, 3, 8, 9, 10, 11, 134] (.j [68] [0, 1, 2, 3, 8, 9, 10, 11, 134] .z (.c (.s .z (.c .z .z)) .z)) (.s (.j [87] [0, 1, 2, 3, 8, 9, 10, 11, 134] (.o (oc [0, 1, 2, 3, 4, 5, 6, 7, 8, 9, 10, 11, 12, 13, 14] .nil)) (.c (.s .z (.s .z .z)) .z)) (.s .z (.s .z (.s .z (.s .z (.s .z (.c (.s .z (.s .z .z)) (.s .z (.s .z .z)))))))))))))))))))))
theorem E_slices_pdqsortOrdered_int (data0 a1 b2 limit3 : Value) (h : Hp) (R : Value → Hp → Prop) : F_slices_pdqsortOrdered_int (Sys.of Go.Proofs.Tryz.prog) ids data0 a1 b2 limit3 h R = denFn Go.Proofs.Tryz.prog Go.Proofs.Tryz.f67 H_slices_pdqsortOrdered_int [data0, a1, b2, limit3] h R := by kernel_rfl
theorem C_slices_pdqsortOrdered_int {data0 a1 b2 limit3 : Value} {h : Hp} {R : Value → Hp → Prop} (H : F_slices_pdqsortOrdered_int (Sys.of Go.Proofs.Tryz.prog) ids data0 a1 b2 limit3 h R) : (Sys.of Go.Proofs.Tryz.prog).C ids.f_slices_pdqsortOrdered_int [data0, a1, b2, limit3] h R :=
  cl_of_den Go.Proofs.Tryz.func67 (by kernel_rfl) mixed (E_slices_pdqsortOrdered_int data0 a1 b2 limit3 h R) H

def H_layout_Layout_from : HT := (.s .z (.s .z (.s (.s .z (.b (.l [5, 8] [2, 7, 18] (.s .z (.s (.c .z .z) (.s (.b (.s .z .z)) .z)))))) (.s .z .z))))
theorem E_layout_Layout_from (l0 part1 : Value) (h : Hp) (R : Value → Hp → Prop) : F_layout_Layout_from (Sys.of Go.Proofs.Tryz.prog) ids l0 part1 h R = denFn Go.Proofs.Tryz.prog Go.Proofs.Tryz.f73 H_layout_Layout_from [l0, part1] h R := by kernel_rfl
theorem C_layout_Layout_from {l0 part1 : Value} {h : Hp} {R : Value → Hp → Prop} (H : F_layout_Layout_from (Sys.of Go.Proofs.Tryz.prog) ids l0 part1 h R) : (Sys.of Go.Proofs.Tryz.prog).C ids.f_layout_Layout_from [l0, part1] h R :=
  cl_of_den Go.Proofs.Tryz.func73 (by kernel_rfl) mixed (E_layout_Layout_from l0 part1 h R) H

def H_layout_Layout_Check : HT := (.s .z (.s (.b (.j [3] [1, 20] (.s .z (.c .z (.s .z (.c .z .z)))) (.c (.s .z .z) (.s .z (.c (.s .z .z) .z))))) (.s .z .z)))
theorem E_layout_Layout_Check (l0 : Value) (h : Hp) (R : Value → Hp → Prop) : F_layout_Layout_Check (Sys.of Go.Proofs.Tryz.prog) ids l0 h R = denFn Go.Proofs.Tryz.prog Go.Proofs.Tryz.f74 H_layout_Layout_Check [l0] h R := by kernel_rfl
theorem C_layout_Layout_Check {l0 : Value} {h : Hp} {R : Value → Hp → Prop} (H : F_layout_Layout_Check (Sys.of Go.Proofs.Tryz.prog) ids l0 h R) : (Sys.of Go.Proofs.Tryz.prog).C ids.f_layout_Layout_Check [l0] h R :=
  cl_of_den Go.Proofs.Tryz.func74 (by kernel_rfl) mixed (E_layout_Layout_Check l0 h R) H

def H_memory_Memory_Size : HT := (.s .z (.s (.o (oc [0, 1, 2, 3, 4, 5, 6, 7] .nil)) .z))
theorem E_memory_Memory_Size (m0 : Value) (h : Hp) (R : Value → Hp → Prop) : F_memory_Memory_Size (Sys.of Go.Proofs.Tryz.prog) ids m0 h R = denFn Go.Proofs.Tryz.prog Go.Proofs.Tryz.f77 H_memory_Memory_Size [m0] h R := by kernel_rfl
theorem C_memory_Memory_Size {m0 : Value} {h : Hp} {R : Value → Hp → Prop} (H : F_memory_Memory_Size (Sys.of Go.Proofs.Tryz.prog) ids m0 h R) : (Sys.of Go.Proofs.Tryz.prog).C ids.f_memory_Memory_Size [m0] h R :=
  cl_of_den Go.Proofs.Tryz.func77 (by kernel_rfl) mixed (E_memory_Memory_Size m0 h R) H

def H_memory_Memory_History : HT := (.s .z (.s (.s .z (.c (.s .z .z) .z)) (.s .z .z)))
theorem E_memory_Memory_History (m0 at1 : Value) (h : Hp) (R : Value → Hp → Prop) : F_memory_Memory_History (Sys.of Go.Proofs.Tryz.prog) ids m0 at1 h R = denFn Go.Proofs.Tryz.prog Go.Proofs.Tryz.f78 H_memory_Memory_History [m0, at1] h R := by kernel_rfl
theorem C_memory_Memory_History {m0 at1 : Value} {h : Hp} {R : Value → Hp → Prop} (H : F_memory_Memory_History (Sys.of Go.Proofs.Tryz.prog) ids m0 at1 h R) : (Sys.of Go.Proofs.Tryz.prog).C ids.f_memory_Memory_History [m0, at1] h R :=
  cl_of_den Go.Proofs.Tryz.func78 (by kernel_rfl) mixed (E_memory_Memory_History m0 at1 h R) H

def H_history_History_Last : HT := (.s .z (.s .z (.s .z .z)))
theorem E_history_History_Last (x0 : Value) (h : Hp) (R : Value → Hp → Prop) : F_history_History_Last (Sys.of Go.Proofs.Tryz.prog) ids x0 h R = denFn Go.Proofs.Tryz.prog Go.Proofs.Tryz.f79 H_history_History_Last [x0] h R := by kernel_rfl
theorem C_history_History_Last {x0 : Value} {h : Hp} {R : Value → Hp → Prop} (H : F_history_History_Last (Sys.of Go.Proofs.Tryz.prog) ids x0 h R) : (Sys.of Go.Proofs.Tryz.prog).C ids.f_history_History_Last [x0] h R :=
  cl_of_den Go.Proofs.Tryz.func79 (by kernel_rfl) mixed (E_history_History_Last x0 h R) H

def H_layout_Layout_many : HT := (.s .z (.s .z .z))
theorem E_layout_Layout_many (l0 part1 : Value) (h : Hp) (R : Value → Hp → Prop) : F_layout_Layout_many (Sys.of Go.Proofs.Tryz.prog) ids l0 part1 h R = denFn Go.Proofs.Tryz.prog Go.Proofs.Tryz.f80 H_layout_Layout_many [l0, part1] h R := by kernel_rfl
theorem C_layout_Layout_many {l0 part1 : Value} {h : Hp} {R : Value → Hp → Prop} (H : F_layout_Layout_many (Sys.of Go.Proofs.Tryz.prog) ids l0 part1 h R) : (Sys.of Go.Proofs.Tryz.prog).C ids.f_layout_Layout_many [l0, part1] h R :=
  cl_of_den Go.Proofs.Tryz.func80 (by kernel_rfl) mixed (E_layout_Layout_many l0 part1 h R) H

def H_history_New : HT := (.s .z (.s .z .z))
theorem E_history_New (w0 : Value) (h : Hp) (R : Value → Hp → Prop) : F_history_New (Sys.of Go.Proofs.Tryz.prog) ids w0 h R = denFn Go.Proofs.Tryz.prog Go.Proofs.Tryz.f81 H_history_New [w0] h R := by kernel_rfl
theorem C_history_New {w0 : Value} {h : Hp} {R : Value → Hp → Prop} (H : F_history_New (Sys.of Go.Proofs.Tryz.prog) ids w0 h R) : (Sys.of Go.Proofs.Tryz.prog).C ids.f_history_New [w0] h R :=
  cl_of_den Go.Proofs.Tryz.func81 (by kernel_rfl) mixed (E_history_New w0 h R) H

def H_slices_Clone_api_Word_api_Word : HT := (.s .z (.s (.s .z (.c (.s .z .z) .z)) (.s .z .z)))
theorem E_slices_Clone_api_Word_api_Word (s0 : Value) (h : Hp) (R : Value → Hp → Prop) : F_slices_Clone_api_Word_api_Word (Sys.of Go.Proofs.Tryz.prog) ids s0 h R = denFn Go.Proofs.Tryz.prog Go.Proofs.Tryz.f82 H_slices_Clone_api_Word_api_Word [s0] h R := by kernel_rfl
theorem C_slices_Clone_api_Word_api_Word {s0 : Value} {h : Hp} {R : Value → Hp → Prop} (H : F_slices_Clone_api_Word_api_Word (Sys.of Go.Proofs.Tryz.prog) ids s0 h R) : (Sys.of Go.Proofs.Tryz.prog).C ids.f_slices_Clone_api_Word_api_Word [s0] h R :=
  cl_of_den Go.Proofs.Tryz.func82 (by kernel_rfl) mixed (E_slices_Clone_api_Word_api_Word s0 h R) H

def H_task_Task_told : HT := (.s .z (.s (.o (oc [0, 1, 2, 3, 4, 5, 6, 7] .nil)) (.s (.j [18] [1, 4, 8, 27] .z (.c (.s .z (.s .z .z)) .z)) (.s .z (.s .z .z)))))
theorem E_task_Task_told (t0 c1 a2 done3 : Value) (h : Hp) (R : Value → Hp → Prop) : F_task_Task_told (Sys.of Go.Proofs.Tryz.prog) ids t0 c1 a2 done3 h R = denFn Go.Proofs.Tryz.prog Go.Proofs.Tryz.f83 H_task_Task_told [t0, c1, a2, done3] h R := by kernel_rfl
theorem C_task_Task_told {t0 c1 a2 done3 : Value} {h : Hp} {R : Value → Hp → Prop} (H : F_task_Task_told (Sys.of Go.Proofs.Tryz.prog) ids t0 c1 a2 done3 h R) : (Sys.of Go.Proofs.Tryz.prog).C ids.f_task_Task_told [t0, c1, a2, done3] h R :=
  cl_of_den Go.Proofs.Tryz.func83 (by kernel_rfl) mixed (E_task_Task_told t0 c1 a2 done3 h R) H

def H_machine_Machine_check : HT := (.s .z (.s .z (.s (.b (.j [14] [5, 8, 51] .z (.c (.s .z .z) (.j [22] [5, 8, 51] .z (.c (.s .z .z) (.j [31] [51] .z (.c (.s .z .z) .z))))))) (.s .z .z))))
theorem E_machine_Machine_check (m0 t1 a2 : Value) (h : Hp) (R : Value → Hp → Prop) : F_machine_Machine_check (Sys.of Go.Proofs.Tryz.prog) ids m0 t1 a2 h R = denFn Go.Proofs.Tryz.prog Go.Proofs.Tryz.f87 H_machine_Machine_check [m0, t1, a2] h R := by kernel_rfl
theorem C_machine_Machine_check {m0 t1 a2 : Value} {h : Hp} {R : Value → Hp → Prop} (H : F_machine_Machine_check (Sys.of Go.Proofs.Tryz.prog) ids m0 t1 a2 h R) : (Sys.of Go.Proofs.Tryz.prog).C ids.f_machine_Machine_check [m0, t1, a2] h R :=
  cl_of_den Go.Proofs.Tryz.func87 (by kernel_rfl) mixed (E_machine_Machine_check m0 t1 a2 h R) H

def H_machine_Changes : HT := (.s .z (.j [2] [16] .z .z))
theorem E_machine_Changes (a0 : Value) (h : Hp) (R : Value → Hp → Prop) : F_machine_Changes (Sys.of Go.Proofs.Tryz.prog) ids a0 h R = denFn Go.Proofs.Tryz.prog Go.Proofs.Tryz.f88 H_machine_Changes [a0] h R := by kernel_rfl
theorem C_machine_Changes {a0 : Value} {h : Hp} {R : Value → Hp → Prop} (H : F_machine_Changes (Sys.of Go.Proofs.Tryz.prog) ids a0 h R) : (Sys.of Go.Proofs.Tryz.prog).C ids.f_machine_Changes [a0] h R :=
  cl_of_den Go.Proofs.Tryz.func88 (by kernel_rfl) mixed (E_machine_Changes a0 h R) H

def H_machine_Machine_write : HT := (.s .z (.s .z (.j [] [3, 5, 6, 7, 8, 61] (.s .z (.c .z .z)) (.j [] [3, 6, 7, 8, 61] (.s .z (.c .z .z)) (.s (.o (oc [0, 1, 2, 3] .nil)) .z)))))
theorem E_machine_Machine_write (m0 t1 a2 : Value) (h : Hp) (R : Value → Hp → Prop) : F_machine_Machine_write (Sys.of Go.Proofs.Tryz.prog) ids m0 t1 a2 h R = denFn Go.Proofs.Tryz.prog Go.Proofs.Tryz.f89 H_machine_Machine_write [m0, t1, a2] h R := by kernel_rfl
theorem C_machine_Machine_write {m0 t1 a2 : Value} {h : Hp} {R : Value → Hp → Prop} (H : F_machine_Machine_write (Sys.of Go.Proofs.Tryz.prog) ids m0 t1 a2 h R) : (Sys.of Go.Proofs.Tryz.prog).C ids.f_machine_Machine_write [m0, t1, a2] h R :=
  cl_of_den Go.Proofs.Tryz.func89 (by kernel_rfl) mixed (E_machine_Machine_write m0 t1 a2 h R) H

def H_machine_Machine_read : HT := (.s .z (.s .z (.j [] [4, 8, 9, 10, 43] (.s .z (.c .z .z)) (.s (.o (oc [0, 1, 2, 3, 4] .nil)) .z))))
theorem E_machine_Machine_read (m0 t1 a2 choice3 : Value) (h : Hp) (R : Value → Hp → Prop) : F_machine_Machine_read (Sys.of Go.Proofs.Tryz.prog) ids m0 t1 a2 choice3 h R = denFn Go.Proofs.Tryz.prog Go.Proofs.Tryz.f92 H_machine_Machine_read [m0, t1, a2, choice3] h R := by kernel_rfl
theorem C_machine_Machine_read {m0 t1 a2 choice3 : Value} {h : Hp} {R : Value → Hp → Prop} (H : F_machine_Machine_read (Sys.of Go.Proofs.Tryz.prog) ids m0 t1 a2 choice3 h R) : (Sys.of Go.Proofs.Tryz.prog).C ids.f_machine_Machine_read [m0, t1, a2, choice3] h R :=
  cl_of_den Go.Proofs.Tryz.func92 (by kernel_rfl) mixed (E_machine_Machine_read m0 t1 a2 choice3 h R) H

def H_slices_Clip_api_Got_api_Got : HT := (.s .z (.s .z .z))
theorem E_slices_Clip_api_Got_api_Got (s0 : Value) (h : Hp) (R : Value → Hp → Prop) : F_slices_Clip_api_Got_api_Got (Sys.of Go.Proofs.Tryz.prog) ids s0 h R = denFn Go.Proofs.Tryz.prog Go.Proofs.Tryz.f93 H_slices_Clip_api_Got_api_Got [s0] h R := by kernel_rfl
theorem C_slices_Clip_api_Got_api_Got {s0 : Value} {h : Hp} {R : Value → Hp → Prop} (H : F_slices_Clip_api_Got_api_Got (Sys.of Go.Proofs.Tryz.prog) ids s0 h R) : (Sys.of Go.Proofs.Tryz.prog).C ids.f_slices_Clip_api_Got_api_Got [s0] h R :=
  cl_of_den Go.Proofs.Tryz.func93 (by kernel_rfl) mixed (E_slices_Clip_api_Got_api_Got s0 h R) H

def H_slices_IndexFunc_int64_int64 : HT := (.s .z (.s (.s .z (.b (.l [8] [0, 1, 7, 19] (.s .z (.s (.c .z .z) (.s (.b (.s .z (.s .z (.c (.s .z .z) .z)))) .z)))))) (.s .z .z)))
theorem E_slices_IndexFunc_int64_int64 (s0 f1 : Value) (h : Hp) (R : Value → Hp → Prop) : F_slices_IndexFunc_int64_int64 (Sys.of Go.Proofs.Tryz.prog) ids s0 f1 h R = denFn Go.Proofs.Tryz.prog Go.Proofs.Tryz.f94 H_slices_IndexFunc_int64_int64 [s0, f1] h R := by kernel_rfl
theorem C_slices_IndexFunc_int64_int64 {s0 f1 : Value} {h : Hp} {R : Value → Hp → Prop} (H : F_slices_IndexFunc_int64_int64 (Sys.of Go.Proofs.Tryz.prog) ids s0 f1 h R) : (Sys.of Go.Proofs.Tryz.prog).C ids.f_slices_IndexFunc_int64_int64 [s0, f1] h R :=
  cl_of_den Go.Proofs.Tryz.func94 (by kernel_rfl) mixed (E_slices_IndexFunc_int64_int64 s0 f1 h R) H

def H_slices_insertionSortOrdered_int : HT := (.s .z (.b (.l [6] [0, 1, 2, 49] (.s (.s .z (.c .z .z)) (.s (.b (.s .z (.b (.l [7] [0, 1, 2, 6, 49] (.s (.j [30] [0, 1, 2, 6, 7, 49] (.o (oc [0, 1, 2, 3, 4, 5, 6, 7, 8, 9, 10, 11, 12, 13, 14] .nil)) (.c .z .z)) (.s (.b (.o (oc [0, 1, 2, 3, 4, 5, 6, 7, 8, 9, 10, 11, 12, 13, 14, 15, 16, 17] .nil))) .z)))))) .z)))))
theorem E_slices_insertionSortOrdered_int (data0 a1 b2 : Value) (h : Hp) (R : Value → Hp → Prop) : F_slices_insertionSortOrdered_int (Sys.of Go.Proofs.Tryz.prog) ids data0 a1 b2 h R = denFn Go.Proofs.Tryz.prog Go.Proofs.Tryz.f95 H_slices_insertionSortOrdered_int [data0, a1, b2] h R := by kernel_rfl
theorem C_slices_insertionSortOrdered_int {data0 a1 b2 : Value} {h : Hp} {R : Value → Hp → Prop} (H : F_slices_insertionSortOrdered_int (Sys.of Go.Proofs.Tryz.prog) ids data0 a1 b2 h R) : (Sys.of Go.Proofs.Tryz.prog).C ids.f_slices_insertionSortOrdered_int [data0, a1, b2] h R :=
  cl_of_den Go.Proofs.Tryz.func95 (by kernel_rfl) mixed (E_slices_insertionSortOrdered_int data0 a1 b2 h R) H

def H_layout_Layout_long : HT := (.s .z (.s (.o (oc [0, 1, 3, 4, 5, 2, 6, 7] .nil)) (.j [5] [28] (.j [22] [5, 28] .z (.c .z .z)) (.s .z .z))))
theorem E_layout_Layout_long (l0 part1 : Value) (h : Hp) (R : Value → Hp → Prop) : F_layout_Layout_long (Sys.of Go.Proofs.Tryz.prog) ids l0 part1 h R = denFn Go.Proofs.Tryz.prog Go.Proofs.Tryz.f107 H_layout_Layout_long [l0, part1] h R := by kernel_rfl
theorem C_layout_Layout_long {l0 part1 : Value} {h : Hp} {R : Value → Hp → Prop} (H : F_layout_Layout_long (Sys.of Go.Proofs.Tryz.prog) ids l0 part1 h R) : (Sys.of Go.Proofs.Tryz.prog).C ids.f_layout_Layout_long [l0, part1] h R :=
  cl_of_den Go.Proofs.Tryz.func107 (by kernel_rfl) mixed (E_layout_Layout_long l0 part1 h R) H

def H_layout_between : HT := (.s .z (.j [6] [15] .z .z))
theorem E_layout_between (n0 least1 most2 : Value) (h : Hp) (R : Value → Hp → Prop) : F_layout_between (Sys.of Go.Proofs.Tryz.prog) ids n0 least1 most2 h R = denFn Go.Proofs.Tryz.prog Go.Proofs.Tryz.f108 H_layout_between [n0, least1, most2] h R := by kernel_rfl
theorem C_layout_between {n0 least1 most2 : Value} {h : Hp} {R : Value → Hp → Prop} (H : F_layout_between (Sys.of Go.Proofs.Tryz.prog) ids n0 least1 most2 h R) : (Sys.of Go.Proofs.Tryz.prog).C ids.f_layout_between [n0, least1, most2] h R :=
  cl_of_den Go.Proofs.Tryz.func108 (by kernel_rfl) mixed (E_layout_between n0 least1 most2 h R) H

def H_memory_Memory_place : HT := (.s .z (.j [4] [14] .z .z))
theorem E_memory_Memory_place (m0 at1 : Value) (h : Hp) (R : Value → Hp → Prop) : F_memory_Memory_place (Sys.of Go.Proofs.Tryz.prog) ids m0 at1 h R = denFn Go.Proofs.Tryz.prog Go.Proofs.Tryz.f112 H_memory_Memory_place [m0, at1] h R := by kernel_rfl
theorem C_memory_Memory_place {m0 at1 : Value} {h : Hp} {R : Value → Hp → Prop} (H : F_memory_Memory_place (Sys.of Go.Proofs.Tryz.prog) ids m0 at1 h R) : (Sys.of Go.Proofs.Tryz.prog).C ids.f_memory_Memory_place [m0, at1] h R :=
  cl_of_den Go.Proofs.Tryz.func112 (by kernel_rfl) mixed (E_memory_Memory_place m0 at1 h R) H

def H_history_History_At : HT := (.s .z (.s (.j [14] [1, 2, 4, 21] .z (.c (.s .z .z) .z)) (.s .z .z)))
theorem E_history_History_At (x0 i1 : Value) (h : Hp) (R : Value → Hp → Prop) : F_history_History_At (Sys.of Go.Proofs.Tryz.prog) ids x0 i1 h R = denFn Go.Proofs.Tryz.prog Go.Proofs.Tryz.f113 H_history_History_At [x0, i1] h R := by kernel_rfl
theorem C_history_History_At {x0 i1 : Value} {h : Hp} {R : Value → Hp → Prop} (H : F_history_History_At (Sys.of Go.Proofs.Tryz.prog) ids x0 i1 h R) : (Sys.of Go.Proofs.Tryz.prog).C ids.f_history_History_At [x0, i1] h R :=
  cl_of_den Go.Proofs.Tryz.func113 (by kernel_rfl) mixed (E_history_History_At x0 i1 h R) H

def H_memory_Memory_Swap : HT := (.s .z (.s .z (.s (.j [31] [1, 2, 9, 10, 11, 14, 15, 16, 41] .z (.c (.s (.o (oc [0, 1, 2, 3, 4, 5, 6] .nil)) .z) .z)) (.s (.o (oc [0, 1, 2, 3, 5, 4, 6, 7, 8, 9] .nil)) .z))))
theorem E_memory_Memory_Swap (m0 t1 at2 old3 next4 : Value) (h : Hp) (R : Value → Hp → Prop) : F_memory_Memory_Swap (Sys.of Go.Proofs.Tryz.prog) ids m0 t1 at2 old3 next4 h R = denFn Go.Proofs.Tryz.prog Go.Proofs.Tryz.f114 H_memory_Memory_Swap [m0, t1, at2, old3, next4] h R := by kernel_rfl
theorem C_memory_Memory_Swap {m0 t1 at2 old3 next4 : Value} {h : Hp} {R : Value → Hp → Prop} (H : F_memory_Memory_Swap (Sys.of Go.Proofs.Tryz.prog) ids m0 t1 at2 old3 next4 h R) : (Sys.of Go.Proofs.Tryz.prog).C ids.f_memory_Memory_Swap [m0, t1, at2, old3, next4] h R :=
  cl_of_den Go.Proofs.Tryz.func114 (by kernel_rfl) mixed (E_memory_Memory_Swap m0 t1 at2 old3 next4 h R) H

def H_memory_Memory_Store : HT := (.s .z (.s (.s .z (.s .z (.c (.s .z .z) .z))) (.s .z .z)))
theorem E_memory_Memory_Store (m0 t1 at2 w3 release4 : Value) (h : Hp) (R : Value → Hp → Prop) : F_memory_Memory_Store (Sys.of Go.Proofs.Tryz.prog) ids m0 t1 at2 w3 release4 h R = denFn Go.Proofs.Tryz.prog Go.Proofs.Tryz.f115 H_memory_Memory_Store [m0, t1, at2, w3, release4] h R := by kernel_rfl
theorem C_memory_Memory_Store {m0 t1 at2 w3 release4 : Value} {h : Hp} {R : Value → Hp → Prop} (H : F_memory_Memory_Store (Sys.of Go.Proofs.Tryz.prog) ids m0 t1 at2 w3 release4 h R) : (Sys.of Go.Proofs.Tryz.prog).C ids.f_memory_Memory_Store [m0, t1, at2, w3, release4] h R :=
  cl_of_den Go.Proofs.Tryz.func115 (by kernel_rfl) mixed (E_memory_Memory_Store m0 t1 at2 w3 release4 h R) H

def H_line_Lines_Store : HT := (.s .z (.s (.s .z (.c (.s .z .z) .z)) (.s .z (.s .z (.j [] [3, 6, 37] (.o (oc [0, 1, 2, 3, 4, 6, 7, 8] (.alt (oc [5, 9, 10, 11, 12, 13] .nil) (oc [9, 5, 10, 11, 12, 13] .nil)))) (.s .z .z))))))
theorem E_line_Lines_Store (l0 at1 w2 : Value) (h : Hp) (R : Value → Hp → Prop) : F_line_Lines_Store (Sys.of Go.Proofs.Tryz.prog) ids l0 at1 w2 h R = denFn Go.Proofs.Tryz.prog Go.Proofs.Tryz.f116 H_line_Lines_Store [l0, at1, w2] h R := by kernel_rfl
theorem C_line_Lines_Store {l0 at1 w2 : Value} {h : Hp} {R : Value → Hp → Prop} (H : F_line_Lines_Store (Sys.of Go.Proofs.Tryz.prog) ids l0 at1 w2 h R) : (Sys.of Go.Proofs.Tryz.prog).C ids.f_line_Lines_Store [l0, at1, w2] h R :=
  cl_of_den Go.Proofs.Tryz.func116 (by kernel_rfl) mixed (E_line_Lines_Store l0 at1 w2 h R) H

def H_line_Lines_has : HT := (.s .z (.j [4] [14] .z .z))
theorem E_line_Lines_has (l0 at1 : Value) (h : Hp) (R : Value → Hp → Prop) : F_line_Lines_has (Sys.of Go.Proofs.Tryz.prog) ids l0 at1 h R = denFn Go.Proofs.Tryz.prog Go.Proofs.Tryz.f118 H_line_Lines_has [l0, at1] h R := by kernel_rfl
theorem C_line_Lines_has {l0 at1 : Value} {h : Hp} {R : Value → Hp → Prop} (H : F_line_Lines_has (Sys.of Go.Proofs.Tryz.prog) ids l0 at1 h R) : (Sys.of Go.Proofs.Tryz.prog).C ids.f_line_Lines_has [l0, at1] h R :=
  cl_of_den Go.Proofs.Tryz.func118 (by kernel_rfl) mixed (E_line_Lines_has l0 at1 h R) H

def H_slices_Clone_line_log_line_log : HT := (.s .z (.s (.s .z (.c (.s .z .z) .z)) (.s .z .z)))
theorem E_slices_Clone_line_log_line_log (s0 : Value) (h : Hp) (R : Value → Hp → Prop) : F_slices_Clone_line_log_line_log (Sys.of Go.Proofs.Tryz.prog) ids s0 h R = denFn Go.Proofs.Tryz.prog Go.Proofs.Tryz.f121 H_slices_Clone_line_log_line_log [s0] h R := by kernel_rfl
theorem C_slices_Clone_line_log_line_log {s0 : Value} {h : Hp} {R : Value → Hp → Prop} (H : F_slices_Clone_line_log_line_log (Sys.of Go.Proofs.Tryz.prog) ids s0 h R) : (Sys.of Go.Proofs.Tryz.prog).C ids.f_slices_Clone_line_log_line_log [s0] h R :=
  cl_of_den Go.Proofs.Tryz.func121 (by kernel_rfl) mixed (E_slices_Clone_line_log_line_log s0 h R) H

def H_memory_Memory_Look : HT := (.s .z (.s .z .z))
theorem E_memory_Memory_Look (m0 t1 at2 : Value) (h : Hp) (R : Value → Hp → Prop) : F_memory_Memory_Look (Sys.of Go.Proofs.Tryz.prog) ids m0 t1 at2 h R = denFn Go.Proofs.Tryz.prog Go.Proofs.Tryz.f122 H_memory_Memory_Look [m0, t1, at2] h R := by kernel_rfl
theorem C_memory_Memory_Look {m0 t1 at2 : Value} {h : Hp} {R : Value → Hp → Prop} (H : F_memory_Memory_Look (Sys.of Go.Proofs.Tryz.prog) ids m0 t1 at2 h R) : (Sys.of Go.Proofs.Tryz.prog).C ids.f_memory_Memory_Look [m0, t1, at2] h R :=
  cl_of_den Go.Proofs.Tryz.func122 (by kernel_rfl) mixed (E_memory_Memory_Look m0 t1 at2 h R) H

def H_memory_Memory_adds : HT := (.s .z (.s .z (.j [12] [1, 2, 4, 5, 8, 10, 11, 62] (.o (oc [0, 1, 3, 4] (.alt (oc [2] (.alt (oc [5] (.alt (oc [6, 7, 8] .nil) (oc [7, 6, 8] .nil))) (oc [7, 5, 6, 8] .nil))) (oc [7, 2, 5, 6, 8] .nil)))) (.s .z (.j [] [1, 2, 5, 8, 10, 11, 12, 13, 62] (.s .z (.c .z .z)) (.s .z (.s (.o (oc [0, 1, 2, 3, 4, 5, 6, 7, 8, 9, 10, 11, 12, 13] .nil)) (.s .z (.s .z .z)))))))))
theorem E_memory_Memory_adds (m0 t1 at2 w3 whole4 : Value) (h : Hp) (R : Value → Hp → Prop) : F_memory_Memory_adds (Sys.of Go.Proofs.Tryz.prog) ids m0 t1 at2 w3 whole4 h R = denFn Go.Proofs.Tryz.prog Go.Proofs.Tryz.f134 H_memory_Memory_adds [m0, t1, at2, w3, whole4] h R := by kernel_rfl
theorem C_memory_Memory_adds {m0 t1 at2 w3 whole4 : Value} {h : Hp} {R : Value → Hp → Prop} (H : F_memory_Memory_adds (Sys.of Go.Proofs.Tryz.prog) ids m0 t1 at2 w3 whole4 h R) : (Sys.of Go.Proofs.Tryz.prog).C ids.f_memory_Memory_adds [m0, t1, at2, w3, whole4] h R :=
  cl_of_den Go.Proofs.Tryz.func134 (by kernel_rfl) mixed (E_memory_Memory_adds m0 t1 at2 w3 whole4 h R) H

def H_memory_Memory_wrong : HT := (.s .z (.s (.b (.s .z (.c (.s .z .z) (.s .z (.c (.s .z .z) .z))))) (.s .z .z)))
theorem E_memory_Memory_wrong (m0 t1 at2 : Value) (h : Hp) (R : Value → Hp → Prop) : F_memory_Memory_wrong (Sys.of Go.Proofs.Tryz.prog) ids m0 t1 at2 h R = denFn Go.Proofs.Tryz.prog Go.Proofs.Tryz.f135 H_memory_Memory_wrong [m0, t1, at2] h R := by kernel_rfl
theorem C_memory_Memory_wrong {m0 t1 at2 : Value} {h : Hp} {R : Value → Hp → Prop} (H : F_memory_Memory_wrong (Sys.of Go.Proofs.Tryz.prog) ids m0 t1 at2 h R) : (Sys.of Go.Proofs.Tryz.prog).C ids.f_memory_Memory_wrong [m0, t1, at2] h R :=
  cl_of_den Go.Proofs.Tryz.func135 (by kernel_rfl) mixed (E_memory_Memory_wrong m0 t1 at2 h R) H

def H_slices_Clip_line_store_line_store : HT := (.s .z (.s .z .z))
theorem E_slices_Clip_line_store_line_store (s0 : Value) (h : Hp) (R : Value → Hp → Prop) : F_slices_Clip_line_store_line_store (Sys.of Go.Proofs.Tryz.prog) ids s0 h R = denFn Go.Proofs.Tryz.prog Go.Proofs.Tryz.f136 H_slices_Clip_line_store_line_store [s0] h R := by kernel_rfl
theorem C_slices_Clip_line_store_line_store {s0 : Value} {h : Hp} {R : Value → Hp → Prop} (H : F_slices_Clip_line_store_line_store (Sys.of Go.Proofs.Tryz.prog) ids s0 h R) : (Sys.of Go.Proofs.Tryz.prog).C ids.f_slices_Clip_line_store_line_store [s0] h R :=
  cl_of_den Go.Proofs.Tryz.func136 (by kernel_rfl) mixed (E_slices_Clip_line_store_line_store s0 h R) H

def H_memory_Memory_look : HT := (.s .z (.s (.s .z (.s .z (.c (.s .z .z) .z))) (.j [14, 15] [10, 11, 47] (.o (oc [0, 1, 2, 3, 4, 5, 6, 7, 8, 9, 10, 12, 15] (.alt (oc [11] (.alt (oc [13] (.alt (oc [14] (.alt (oc [16, 17, 18, 19] (.alt (oc [20, 21, 22, 23] .nil) (oc [21, 20, 22, 23] .nil))) (.alt (oc [20] (.alt (oc [16, 17, 18, 19, 21, 22, 23] .nil) (oc [21, 16, 17, 18, 19, 22, 23] .nil))) (oc [21] (.alt (oc [16, 17, 18, 19, 20, 22, 23] .nil) (oc [20, 16, 17, 18, 19, 22, 23] .nil)))))) (.alt (oc [20] (.alt (oc [14] (.alt (oc [16, 17, 18, 19, 21, 22, 23] .nil) (oc [21, 16, 17, 18, 19, 22, 23] .nil))) (oc [21, 14, 16, 17, 18, 19, 22, 23] .nil))) (oc [21] (.alt (oc [14] (.alt (oc [16, 17, 18, 19, 20, 22, 23] .nil) (oc [20, 16, 17, 18, 19, 22, 23] .nil))) (oc [20, 14, 16, 17, 18, 19, 22, 23] .nil)))))) (.alt (oc [20] (.alt (oc [13] (.alt (oc [14] (.alt (oc [16, 17, 18, 19, 21, 22, 23] .nil) (oc [21, 16, 17, 18, 19, 22, 23] .nil))) (oc [21, 14, 16, 17, 18, 19, 22, 23] .nil))) (oc [21, 13, 14, 16, 17, 18, 19, 22, 23] .nil))) (oc [21] (.alt (oc [13] (.alt (oc [14] (.alt (oc [16, 17, 18, 19, 20, 22, 23] .nil) (oc [20, 16, 17, 18, 19, 22, 23] .nil))) (oc [20, 14, 16, 17, 18, 19, 22, 23] .nil))) (oc [20, 13, 14, 16, 17, 18, 19, 22, 23] .nil)))))) (.alt (oc [20] (.alt (oc [11] (.alt (oc [13] (.alt (oc [14] (.alt (oc [16, 17, 18, 19, 21, 22, 23] .nil) (oc [21, 16, 17, 18, 19, 22, 23] .nil))) (oc [21, 14, 16, 17, 18, 19, 22, 23] .nil))) (oc [21, 13, 14, 16, 17, 18, 19, 22, 23] .nil))) (oc [21, 11, 13, 14, 16, 17, 18, 19, 22, 23] .nil))) (oc [21] (.alt (oc [11] (.alt (oc [13] (.alt (oc [14] (.alt (oc [16, 17, 18, 19, 20, 22, 23] .nil) (oc [20, 16, 17, 18, 19, 22, 23] .nil))) (oc [20, 14, 16, 17, 18, 19, 22, 23] .nil))) (oc [20, 13, 14, 16, 17, 18, 19, 22, 23] .nil))) (oc [20, 11, 13, 14, 16, 17, 18, 19, 22, 23] .nil))))))) (.s (.o (oc [0, 1, 2, 3, 4] .nil)) .z))))
theorem E_memory_Memory_look (m0 t1 at2 joined3 pick4 : Value) (h : Hp) (R : Value → Hp → Prop) : F_memory_Memory_look (Sys.of Go.Proofs.Tryz.prog) ids m0 t1 at2 joined3 pick4 h R = denFn Go.Proofs.Tryz.prog Go.Proofs.Tryz.f138 H_memory_Memory_look [m0, t1, at2, joined3, pick4] h R := by kernel_rfl
theorem C_memory_Memory_look {m0 t1 at2 joined3 pick4 : Value} {h : Hp} {R : Value → Hp → Prop} (H : F_memory_Memory_look (Sys.of Go.Proofs.Tryz.prog) ids m0 t1 at2 joined3 pick4 h R) : (Sys.of Go.Proofs.Tryz.prog).C ids.f_memory_Memory_look [m0, t1, at2, joined3, pick4] h R :=
  cl_of_den Go.Proofs.Tryz.func138 (by kernel_rfl) mixed (E_memory_Memory_look m0 t1 at2 joined3 pick4 h R) H

def H_memory_picker_last : HT := (.s .z (.s .z .z))
theorem E_memory_picker_last (c0 x1 v2 : Value) (h : Hp) (R : Value → Hp → Prop) : F_memory_picker_last (Sys.of Go.Proofs.Tryz.prog) ids c0 x1 v2 h R = denFn Go.Proofs.Tryz.prog Go.Proofs.Tryz.f139 H_memory_picker_last [c0, x1, v2] h R := by kernel_rfl
theorem C_memory_picker_last {c0 x1 v2 : Value} {h : Hp} {R : Value → Hp → Prop} (H : F_memory_picker_last (Sys.of Go.Proofs.Tryz.prog) ids c0 x1 v2 h R) : (Sys.of Go.Proofs.Tryz.prog).C ids.f_memory_picker_last [c0, x1, v2] h R :=
  cl_of_den Go.Proofs.Tryz.func139 (by kernel_rfl) mixed (E_memory_picker_last c0 x1 v2 h R) H

def H_memory_Memory_Seen : HT := (.s .z (.s (.s .z (.c (.s .z .z) .z)) (.s .z .z)))
theorem E_memory_Memory_Seen (m0 t1 : Value) (h : Hp) (R : Value → Hp → Prop) : F_memory_Memory_Seen (Sys.of Go.Proofs.Tryz.prog) ids m0 t1 h R = denFn Go.Proofs.Tryz.prog Go.Proofs.Tryz.f145 H_memory_Memory_Seen [m0, t1] h R := by kernel_rfl
theorem C_memory_Memory_Seen {m0 t1 : Value} {h : Hp} {R : Value → Hp → Prop} (H : F_memory_Memory_Seen (Sys.of Go.Proofs.Tryz.prog) ids m0 t1 h R) : (Sys.of Go.Proofs.Tryz.prog).C ids.f_memory_Memory_Seen [m0, t1] h R :=
  cl_of_den Go.Proofs.Tryz.func145 (by kernel_rfl) mixed (E_memory_Memory_Seen m0 t1 h R) H

def H_view_View_With : HT := (.s .z (.s (.j [21] [1, 2, 3, 6, 34] .z (.c (.s .z .z) .z)) (.s .z (.j [7] [1, 2, 6, 34] (.s .z (.c .z .z)) (.s .z (.s .z .z))))))
theorem E_view_View_With (v0 l1 n2 : Value) (h : Hp) (R : Value → Hp → Prop) : F_view_View_With (Sys.of Go.Proofs.Tryz.prog) ids v0 l1 n2 h R = denFn Go.Proofs.Tryz.prog Go.Proofs.Tryz.f146 H_view_View_With [v0, l1, n2] h R := by kernel_rfl
theorem C_view_View_With {v0 l1 n2 : Value} {h : Hp} {R : Value → Hp → Prop} (H : F_view_View_With (Sys.of Go.Proofs.Tryz.prog) ids v0 l1 n2 h R) : (Sys.of Go.Proofs.Tryz.prog).C ids.f_view_View_With [v0, l1, n2] h R :=
  cl_of_den Go.Proofs.Tryz.func146 (by kernel_rfl) mixed (E_view_View_With v0 l1 n2 h R) H

def H_history_History_Len : HT := (.s .z (.s .z .z))
theorem E_history_History_Len (x0 : Value) (h : Hp) (R : Value → Hp → Prop) : F_history_History_Len (Sys.of Go.Proofs.Tryz.prog) ids x0 h R = denFn Go.Proofs.Tryz.prog Go.Proofs.Tryz.f147 H_history_History_Len [x0] h R := by kernel_rfl
theorem C_history_History_Len {x0 : Value} {h : Hp} {R : Value → Hp → Prop} (H : F_history_History_Len (Sys.of Go.Proofs.Tryz.prog) ids x0 h R) : (Sys.of Go.Proofs.Tryz.prog).C ids.f_history_History_Len [x0] h R :=
  cl_of_den Go.Proofs.Tryz.func147 (by kernel_rfl) mixed (E_history_History_Len x0 h R) H

def H_history_History_Add : HT := (.s .z (.j [] [4, 12] (.o (oc [0, 1, 3] (.alt (oc [2, 4, 5, 6, 7] .nil) (oc [4, 2, 5, 6, 7] .nil)))) .z))
theorem E_history_History_Add (x0 m1 : Value) (h : Hp) (R : Value → Hp → Prop) : F_history_History_Add (Sys.of Go.Proofs.Tryz.prog) ids x0 m1 h R = denFn Go.Proofs.Tryz.prog Go.Proofs.Tryz.f148 H_history_History_Add [x0, m1] h R := by kernel_rfl
theorem C_history_History_Add {x0 m1 : Value} {h : Hp} {R : Value → Hp → Prop} (H : F_history_History_Add (Sys.of Go.Proofs.Tryz.prog) ids x0 m1 h R) : (Sys.of Go.Proofs.Tryz.prog).C ids.f_history_History_Add [x0, m1] h R :=
  cl_of_den Go.Proofs.Tryz.func148 (by kernel_rfl) mixed (E_history_History_Add x0 m1 h R) H

def H_memory_Memory_with : HT := (.s .z (.s .z (.s .z (.s .z (.s .z (.s .z .z))))))
theorem E_memory_Memory_with (m0 t1 v2 : Value) (h : Hp) (R : Value → Hp → Prop) : F_memory_Memory_with (Sys.of Go.Proofs.Tryz.prog) ids m0 t1 v2 h R = denFn Go.Proofs.Tryz.prog Go.Proofs.Tryz.f149 H_memory_Memory_with [m0, t1, v2] h R := by kernel_rfl
theorem C_memory_Memory_with {m0 t1 v2 : Value} {h : Hp} {R : Value → Hp → Prop} (H : F_memory_Memory_with (Sys.of Go.Proofs.Tryz.prog) ids m0 t1 v2 h R) : (Sys.of Go.Proofs.Tryz.prog).C ids.f_memory_Memory_with [m0, t1, v2] h R :=
  cl_of_den Go.Proofs.Tryz.func149 (by kernel_rfl) mixed (E_memory_Memory_with m0 t1 v2 h R) H

def H_memory_Memory_thread : HT := (.s .z (.j [4] [14] .z .z))
theorem E_memory_Memory_thread (m0 t1 : Value) (h : Hp) (R : Value → Hp → Prop) : F_memory_Memory_thread (Sys.of Go.Proofs.Tryz.prog) ids m0 t1 h R = denFn Go.Proofs.Tryz.prog Go.Proofs.Tryz.f150 H_memory_Memory_thread [m0, t1] h R := by kernel_rfl
theorem C_memory_Memory_thread {m0 t1 : Value} {h : Hp} {R : Value → Hp → Prop} (H : F_memory_Memory_thread (Sys.of Go.Proofs.Tryz.prog) ids m0 t1 h R) : (Sys.of Go.Proofs.Tryz.prog).C ids.f_memory_Memory_thread [m0, t1] h R :=
  cl_of_den Go.Proofs.Tryz.func150 (by kernel_rfl) mixed (E_memory_Memory_thread m0 t1 h R) H

def H_memory_Memory_finds : HT := (.s .z (.s .z (.s .z (.j [] [1, 5, 10, 11, 12, 14, 42] (.s .z (.c .z .z)) (.s (.o (oc [0, 1, 2, 4, 5, 3, 6, 7] .nil)) .z)))))
theorem E_memory_Memory_finds (m0 t1 at2 i3 joined4 : Value) (h : Hp) (R : Value → Hp → Prop) : F_memory_Memory_finds (Sys.of Go.Proofs.Tryz.prog) ids m0 t1 at2 i3 joined4 h R = denFn Go.Proofs.Tryz.prog Go.Proofs.Tryz.f151 H_memory_Memory_finds [m0, t1, at2, i3, joined4] h R := by kernel_rfl
theorem C_memory_Memory_finds {m0 t1 at2 i3 joined4 : Value} {h : Hp} {R : Value → Hp → Prop} (H : F_memory_Memory_finds (Sys.of Go.Proofs.Tryz.prog) ids m0 t1 at2 i3 joined4 h R) : (Sys.of Go.Proofs.Tryz.prog).C ids.f_memory_Memory_finds [m0, t1, at2, i3, joined4] h R :=
  cl_of_den Go.Proofs.Tryz.func151 (by kernel_rfl) mixed (E_memory_Memory_finds m0 t1 at2 i3 joined4 h R) H

def H_view_View_At : HT := (.s .z (.s .z .z))
theorem E_view_View_At (v0 l1 : Value) (h : Hp) (R : Value → Hp → Prop) : F_view_View_At (Sys.of Go.Proofs.Tryz.prog) ids v0 l1 h R = denFn Go.Proofs.Tryz.prog Go.Proofs.Tryz.f152 H_view_View_At [v0, l1] h R := by kernel_rfl
theorem C_view_View_At {v0 l1 : Value} {h : Hp} {R : Value → Hp → Prop} (H : F_view_View_At (Sys.of Go.Proofs.Tryz.prog) ids v0 l1 h R) : (Sys.of Go.Proofs.Tryz.prog).C ids.f_view_View_At [v0, l1] h R :=
  cl_of_den Go.Proofs.Tryz.func152 (by kernel_rfl) mixed (E_view_View_At v0 l1 h R) H

def H_maps_Clone_map_api_Loc_int_api_Loc_int : HT := (.s .z (.s (.s .z (.c (.s .z .z) .z)) (.s .z .z)))
theorem E_maps_Clone_map_api_Loc_int_api_Loc_int (m0 : Value) (h : Hp) (R : Value → Hp → Prop) : F_maps_Clone_map_api_Loc_int_api_Loc_int (Sys.of Go.Proofs.Tryz.prog) ids m0 h R = denFn Go.Proofs.Tryz.prog Go.Proofs.Tryz.f156 H_maps_Clone_map_api_Loc_int_api_Loc_int [m0] h R := by kernel_rfl
theorem C_maps_Clone_map_api_Loc_int_api_Loc_int {m0 : Value} {h : Hp} {R : Value → Hp → Prop} (H : F_maps_Clone_map_api_Loc_int_api_Loc_int (Sys.of Go.Proofs.Tryz.prog) ids m0 h R) : (Sys.of Go.Proofs.Tryz.prog).C ids.f_maps_Clone_map_api_Loc_int_api_Loc_int [m0] h R :=
  cl_of_den Go.Proofs.Tryz.func156 (by kernel_rfl) mixed (E_maps_Clone_map_api_Loc_int_api_Loc_int m0 h R) H

def H_slices_Clip_history_Message_history_Message : HT := (.s .z (.s .z .z))
theorem E_slices_Clip_history_Message_history_Message (s0 : Value) (h : Hp) (R : Value → Hp → Prop) : F_slices_Clip_history_Message_history_Message (Sys.of Go.Proofs.Tryz.prog) ids s0 h R = denFn Go.Proofs.Tryz.prog Go.Proofs.Tryz.f157 H_slices_Clip_history_Message_history_Message [s0] h R := by kernel_rfl
theorem C_slices_Clip_history_Message_history_Message {s0 : Value} {h : Hp} {R : Value → Hp → Prop} (H : F_slices_Clip_history_Message_history_Message (Sys.of Go.Proofs.Tryz.prog) ids s0 h R) : (Sys.of Go.Proofs.Tryz.prog).C ids.f_slices_Clip_history_Message_history_Message [s0] h R :=
  cl_of_den Go.Proofs.Tryz.func157 (by kernel_rfl) mixed (E_slices_Clip_history_Message_history_Message s0 h R) H

def H_view_Join : HT := (.s .z (.s (.s .z (.c (.s .z .z) .z)) (.s .z (.s (.s .z (.b (.l [] [4, 5, 18, 33] (.s .z (.s (.c .z .z) (.b (.s .z .z))))))) (.s .z .z)))))
theorem E_view_Join (a0 b1 : Value) (h : Hp) (R : Value → Hp → Prop) : F_view_Join (Sys.of Go.Proofs.Tryz.prog) ids a0 b1 h R = denFn Go.Proofs.Tryz.prog Go.Proofs.Tryz.f158 H_view_Join [a0, b1] h R := by kernel_rfl
theorem C_view_Join {a0 b1 : Value} {h : Hp} {R : Value → Hp → Prop} (H : F_view_Join (Sys.of Go.Proofs.Tryz.prog) ids a0 b1 h R) : (Sys.of Go.Proofs.Tryz.prog).C ids.f_view_Join [a0, b1] h R :=
  cl_of_den Go.Proofs.Tryz.func158 (by kernel_rfl) mixed (E_view_Join a0 b1 h R) H

def H_simulcasttop_epochWriter_Next : HT := (.s .z (.s (.s .z (.c (.s .z (.s .z (.s (.s .z (.c (.s (.o (oc [0, 1, 2, 3, 4, 5] .nil)) .z) .z)) (.s (.o (oc [0, 1, 2, 3, 4, 5, 6] .nil)) (.s .z .z))))) .z)) (.s (.s .z (.b (.s .z (.c (.s .z .z) (.s .z (.c (.s .z (.s .z (.s .z (.s .z (.s .z (.s .z (.s (.o (oc [0, 1, 2, 3, 4, 6, 7, 8, 5, 9, 10, 11] .nil)) (.s .z (.s (.o (oc [0, 1, 2, 3, 5, 6, 7, 4, 8, 9, 10, 11] .nil)) .z))))))))) (.s .z (.c (.s (.s .z (.c (.s .z .z) .z)) (.s (.o (oc [0, 1, 2, 3, 4, 5, 6, 7, 8, 9, 10] .nil)) .z)) (.s .z (.c (.j [12, 13] [2, 5, 212] (.o (oc [0, 1, 2, 3, 4, 5, 6, 7, 8, 9, 10, 11, 12] (.alt (oc [13, 14, 15, 16, 17, 18, 19] .nil) (oc [17, 13, 14, 15, 16, 18, 19] .nil)))) (.s (.s .z (.c (.s .z .z) .z)) (.s .z (.s (.o (oc [0, 1, 2, 3, 4, 5, 6, 7, 8, 9, 10] .nil)) .z)))) .z)))))))))) (.j [] [2, 5, 212] (.o (oc [0, 1, 3, 4, 5] (.alt (oc [2, 6, 7, 8, 9] .nil) (oc [6, 2, 7, 8, 9] .nil)))) (.s (.s .z (.c (.s (.o (oc [0, 1, 2, 3, 4, 5, 6, 7, 8, 9, 10, 11, 12, 13, 14] .nil)) .z) .z)) (.s .z (.s (.o (oc [0, 1, 2, 4, 6, 7, 8, 9, 3, 5, 10, 11, 12, 13, 14] .nil)) (.s .z .z))))))))
theorem E_simulcasttop_epochWriter_Next (w0 g1 : Value) (h : Hp) (R : Value → Hp → Prop) : F_simulcasttop_epochWriter_Next (Sys.of Go.Proofs.Tryz.prog) ids w0 g1 h R = denFn Go.Proofs.Tryz.prog Go.Proofs.Tryz.f178 H_simulcasttop_epochWriter_Next [w0, g1] h R := by kernel_rfl
theorem C_simulcasttop_epochWriter_Next {w0 g1 : Value} {h : Hp} {R : Value → Hp → Prop} (H : F_simulcasttop_epochWriter_Next (Sys.of Go.Proofs.Tryz.prog) ids w0 g1 h R) : (Sys.of Go.Proofs.Tryz.prog).C ids.f_simulcasttop_epochWriter_Next [w0, g1] h R :=
  cl_of_den Go.Proofs.Tryz.func178 (by kernel_rfl) mixed (E_simulcasttop_epochWriter_Next w0 g1 h R) H

def H_simulcasttop_epochWriter_begin : HT := (.s .z (.s .z (.s (.b (.s .z (.c (.s .z .z) (.s .z (.c (.s .z (.s (.s .z (.c (.s .z .z) .z)) (.s .z (.s .z (.s (.o (oc [0, 1, 2, 3, 4, 5] .nil)) .z))))) (.s .z (.c (.s .z (.s (.o (oc [0, 1, 2, 3, 4, 5, 6, 7, 8, 9, 10] .nil)) .z)) .z))))))) (.s (.o (oc [0, 1, 2, 3, 4, 5, 6, 7, 8, 9, 10] .nil)) .z))))
theorem E_simulcasttop_epochWriter_begin (w0 : Value) (h : Hp) (R : Value → Hp → Prop) : F_simulcasttop_epochWriter_begin (Sys.of Go.Proofs.Tryz.prog) ids w0 h R = denFn Go.Proofs.Tryz.prog Go.Proofs.Tryz.f179 H_simulcasttop_epochWriter_begin [w0] h R := by kernel_rfl
theorem C_simulcasttop_epochWriter_begin {w0 : Value} {h : Hp} {R : Value → Hp → Prop} (H : F_simulcasttop_epochWriter_begin (Sys.of Go.Proofs.Tryz.prog) ids w0 h R) : (Sys.of Go.Proofs.Tryz.prog).C ids.f_simulcasttop_epochWriter_begin [w0] h R :=
  cl_of_den Go.Proofs.Tryz.func179 (by kernel_rfl) mixed (E_simulcasttop_epochWriter_begin w0 h R) H

def H_simulcasttop_epochWriter_fail : HT := (.s .z (.s .z (.s .z .z)))
theorem E_simulcasttop_epochWriter_fail (w0 : Value) (h : Hp) (R : Value → Hp → Prop) : F_simulcasttop_epochWriter_fail (Sys.of Go.Proofs.Tryz.prog) ids w0 h R = denFn Go.Proofs.Tryz.prog Go.Proofs.Tryz.f180 H_simulcasttop_epochWriter_fail [w0] h R := by kernel_rfl
theorem C_simulcasttop_epochWriter_fail {w0 : Value} {h : Hp} {R : Value → Hp → Prop} (H : F_simulcasttop_epochWriter_fail (Sys.of Go.Proofs.Tryz.prog) ids w0 h R) : (Sys.of Go.Proofs.Tryz.prog).C ids.f_simulcasttop_epochWriter_fail [w0] h R :=
  cl_of_den Go.Proofs.Tryz.func180 (by kernel_rfl) mixed (E_simulcasttop_epochWriter_fail w0 h R) H

def H_simulcasttop_epochWriter_look : HT := (.s .z (.s .z (.s .z .z)))
theorem E_simulcasttop_epochWriter_look (w0 phase1 at2 : Value) (h : Hp) (R : Value → Hp → Prop) : F_simulcasttop_epochWriter_look (Sys.of Go.Proofs.Tryz.prog) ids w0 phase1 at2 h R = denFn Go.Proofs.Tryz.prog Go.Proofs.Tryz.f181 H_simulcasttop_epochWriter_look [w0, phase1, at2] h R := by kernel_rfl
theorem C_simulcasttop_epochWriter_look {w0 phase1 at2 : Value} {h : Hp} {R : Value → Hp → Prop} (H : F_simulcasttop_epochWriter_look (Sys.of Go.Proofs.Tryz.prog) ids w0 phase1 at2 h R) : (Sys.of Go.Proofs.Tryz.prog).C ids.f_simulcasttop_epochWriter_look [w0, phase1, at2] h R :=
  cl_of_den Go.Proofs.Tryz.func181 (by kernel_rfl) mixed (E_simulcasttop_epochWriter_look w0 phase1 at2 h R) H

def H_reclaim_Bag_Retire : HT := (.s .z (.s (.b (.j [6] [2, 3, 4, 41] .z (.c (.s .z .z) (.j [16] [2, 3, 4, 41] .z (.c (.s .z .z) (.s .z (.c (.s .z .z) .z))))))) (.j [5] [4, 41] (.o (oc [0, 1, 3] (.alt (oc [2, 4, 5, 6, 7, 8] .nil) (oc [4, 2, 5, 6, 7, 8] .nil)))) .z)))
theorem E_reclaim_Bag_Retire (b0 i1 : Value) (h : Hp) (R : Value → Hp → Prop) : F_reclaim_Bag_Retire (Sys.of Go.Proofs.Tryz.prog) ids b0 i1 h R = denFn Go.Proofs.Tryz.prog Go.Proofs.Tryz.f182 H_reclaim_Bag_Retire [b0, i1] h R := by kernel_rfl
theorem C_reclaim_Bag_Retire {b0 i1 : Value} {h : Hp} {R : Value → Hp → Prop} (H : F_reclaim_Bag_Retire (Sys.of Go.Proofs.Tryz.prog) ids b0 i1 h R) : (Sys.of Go.Proofs.Tryz.prog).C ids.f_reclaim_Bag_Retire [b0, i1] h R :=
  cl_of_den Go.Proofs.Tryz.func182 (by kernel_rfl) mixed (E_reclaim_Bag_Retire b0 i1 h R) H

def H_layout_Layout_Announce : HT := (.s .z (.s .z .z))
theorem E_layout_Layout_Announce (l0 t1 : Value) (h : Hp) (R : Value → Hp → Prop) : F_layout_Layout_Announce (Sys.of Go.Proofs.Tryz.prog) ids l0 t1 h R = denFn Go.Proofs.Tryz.prog Go.Proofs.Tryz.f183 H_layout_Layout_Announce [l0, t1] h R := by kernel_rfl
theorem C_layout_Layout_Announce {l0 t1 : Value} {h : Hp} {R : Value → Hp → Prop} (H : F_layout_Layout_Announce (Sys.of Go.Proofs.Tryz.prog) ids l0 t1 h R) : (Sys.of Go.Proofs.Tryz.prog).C ids.f_layout_Layout_Announce [l0, t1] h R :=
  cl_of_den Go.Proofs.Tryz.func183 (by kernel_rfl) mixed (E_layout_Layout_Announce l0 t1 h R) H

def H_slices_Clip_int64_int64 : HT := (.s .z (.s .z .z))
theorem E_slices_Clip_int64_int64 (s0 : Value) (h : Hp) (R : Value → Hp → Prop) : F_slices_Clip_int64_int64 (Sys.of Go.Proofs.Tryz.prog) ids s0 h R = denFn Go.Proofs.Tryz.prog Go.Proofs.Tryz.f184 H_slices_Clip_int64_int64 [s0] h R := by kernel_rfl
theorem C_slices_Clip_int64_int64 {s0 : Value} {h : Hp} {R : Value → Hp → Prop} (H : F_slices_Clip_int64_int64 (Sys.of Go.Proofs.Tryz.prog) ids s0 h R) : (Sys.of Go.Proofs.Tryz.prog).C ids.f_slices_Clip_int64_int64 [s0] h R :=
  cl_of_den Go.Proofs.Tryz.func184 (by kernel_rfl) mixed (E_slices_Clip_int64_int64 s0 h R) H

def H_slices_Clip_int_int : HT := (.s .z (.s .z .z))
theorem E_slices_Clip_int_int (s0 : Value) (h : Hp) (R : Value → Hp → Prop) : F_slices_Clip_int_int (Sys.of Go.Proofs.Tryz.prog) ids s0 h R = denFn Go.Proofs.Tryz.prog Go.Proofs.Tryz.f185 H_slices_Clip_int_int [s0] h R := by kernel_rfl
theorem C_slices_Clip_int_int {s0 : Value} {h : Hp} {R : Value → Hp → Prop} (H : F_slices_Clip_int_int (Sys.of Go.Proofs.Tryz.prog) ids s0 h R) : (Sys.of Go.Proofs.Tryz.prog).C ids.f_slices_Clip_int_int [s0] h R :=
  cl_of_den Go.Proofs.Tryz.func185 (by kernel_rfl) mixed (E_slices_Clip_int_int s0 h R) H

def H_era_Advance : HT := (.s .z (.s .z .z))
theorem E_era_Advance (l0 : Value) (h : Hp) (R : Value → Hp → Prop) : F_era_Advance (Sys.of Go.Proofs.Tryz.prog) ids l0 h R = denFn Go.Proofs.Tryz.prog Go.Proofs.Tryz.f186 H_era_Advance [l0] h R := by kernel_rfl
theorem C_era_Advance {l0 : Value} {h : Hp} {R : Value → Hp → Prop} (H : F_era_Advance (Sys.of Go.Proofs.Tryz.prog) ids l0 h R) : (Sys.of Go.Proofs.Tryz.prog).C ids.f_era_Advance [l0] h R :=
  cl_of_den Go.Proofs.Tryz.func186 (by kernel_rfl) mixed (E_era_Advance l0 h R) H

def H_slices_ContainsFunc_reclaim_Item_reclaim_Item : HT := (.s .z (.s .z .z))
theorem E_slices_ContainsFunc_reclaim_Item_reclaim_Item (s0 f1 : Value) (h : Hp) (R : Value → Hp → Prop) : F_slices_ContainsFunc_reclaim_Item_reclaim_Item (Sys.of Go.Proofs.Tryz.prog) ids s0 f1 h R = denFn Go.Proofs.Tryz.prog Go.Proofs.Tryz.f187 H_slices_ContainsFunc_reclaim_Item_reclaim_Item [s0, f1] h R := by kernel_rfl
theorem C_slices_ContainsFunc_reclaim_Item_reclaim_Item {s0 f1 : Value} {h : Hp} {R : Value → Hp → Prop} (H : F_slices_ContainsFunc_reclaim_Item_reclaim_Item (Sys.of Go.Proofs.Tryz.prog) ids s0 f1 h R) : (Sys.of Go.Proofs.Tryz.prog).C ids.f_slices_ContainsFunc_reclaim_Item_reclaim_Item [s0, f1] h R :=
  cl_of_den Go.Proofs.Tryz.func187 (by kernel_rfl) mixed (E_slices_ContainsFunc_reclaim_Item_reclaim_Item s0 f1 h R) H

def H_reclaim_Bag_Retire_1 : HT := (.s .z (.s .z .z))
theorem E_reclaim_Bag_Retire_1 (o0 v1 : Value) (h : Hp) (R : Value → Hp → Prop) : F_reclaim_Bag_Retire_1 (Sys.of Go.Proofs.Tryz.prog) ids o0 v1 h R = denFn Go.Proofs.Tryz.prog Go.Proofs.Tryz.f188 H_reclaim_Bag_Retire_1 [o0, v1] h R := by kernel_rfl
theorem C_reclaim_Bag_Retire_1 {o0 v1 : Value} {h : Hp} {R : Value → Hp → Prop} (H : F_reclaim_Bag_Retire_1 (Sys.of Go.Proofs.Tryz.prog) ids o0 v1 h R) : (Sys.of Go.Proofs.Tryz.prog).C ids.f_reclaim_Bag_Retire_1 [o0, v1] h R :=
  cl_of_den Go.Proofs.Tryz.func188 (by kernel_rfl) mixed (E_reclaim_Bag_Retire_1 o0 v1 h R) H

def H_slices_Clone_reclaim_Item_reclaim_Item : HT := (.s .z (.s (.s .z (.c (.s .z .z) .z)) (.s .z .z)))
theorem E_slices_Clone_reclaim_Item_reclaim_Item (s0 : Value) (h : Hp) (R : Value → Hp → Prop) : F_slices_Clone_reclaim_Item_reclaim_Item (Sys.of Go.Proofs.Tryz.prog) ids s0 h R = denFn Go.Proofs.Tryz.prog Go.Proofs.Tryz.f189 H_slices_Clone_reclaim_Item_reclaim_Item [s0] h R := by kernel_rfl
theorem C_slices_Clone_reclaim_Item_reclaim_Item {s0 : Value} {h : Hp} {R : Value → Hp → Prop} (H : F_slices_Clone_reclaim_Item_reclaim_Item (Sys.of Go.Proofs.Tryz.prog) ids s0 h R) : (Sys.of Go.Proofs.Tryz.prog).C ids.f_slices_Clone_reclaim_Item_reclaim_Item [s0] h R :=
  cl_of_den Go.Proofs.Tryz.func189 (by kernel_rfl) mixed (E_slices_Clone_reclaim_Item_reclaim_Item s0 h R) H

def H_era_made : HT := (.s .z (.s (.s .z (.c (.s .z .z) .z)) (.s .z (.j [] [8, 24] (.s .z (.c .z .z)) (.s .z .z)))))
theorem E_era_made (l0 t1 first2 : Value) (h : Hp) (R : Value → Hp → Prop) : F_era_made (Sys.of Go.Proofs.Tryz.prog) ids l0 t1 first2 h R = denFn Go.Proofs.Tryz.prog Go.Proofs.Tryz.f190 H_era_made [l0, t1, first2] h R := by kernel_rfl
theorem C_era_made {l0 t1 first2 : Value} {h : Hp} {R : Value → Hp → Prop} (H : F_era_made (Sys.of Go.Proofs.Tryz.prog) ids l0 t1 first2 h R) : (Sys.of Go.Proofs.Tryz.prog).C ids.f_era_made [l0, t1, first2] h R :=
  cl_of_den Go.Proofs.Tryz.func190 (by kernel_rfl) mixed (E_era_made l0 t1 first2 h R) H

def H_era_Advance_1 : HT := (.s .z (.s .z .z))
theorem E_era_Advance_1 (c0 v1 : Value) (h : Hp) (R : Value → Hp → Prop) : F_era_Advance_1 (Sys.of Go.Proofs.Tryz.prog) ids c0 v1 h R = denFn Go.Proofs.Tryz.prog Go.Proofs.Tryz.f191 H_era_Advance_1 [c0, v1] h R := by kernel_rfl
theorem C_era_Advance_1 {c0 v1 : Value} {h : Hp} {R : Value → Hp → Prop} (H : F_era_Advance_1 (Sys.of Go.Proofs.Tryz.prog) ids c0 v1 h R) : (Sys.of Go.Proofs.Tryz.prog).C ids.f_era_Advance_1 [c0, v1] h R :=
  cl_of_den Go.Proofs.Tryz.func191 (by kernel_rfl) mixed (E_era_Advance_1 c0 v1 h R) H

def H_era_code_look : HT := (.s .z (.s .z (.s (.o (oc [0, 1, 2, 3, 4, 5] .nil)) .z)))
theorem E_era_code_look (c0 then1 : Value) (h : Hp) (R : Value → Hp → Prop) : F_era_code_look (Sys.of Go.Proofs.Tryz.prog) ids c0 then1 h R = denFn Go.Proofs.Tryz.prog Go.Proofs.Tryz.f192 H_era_code_look [c0, then1] h R := by kernel_rfl
theorem C_era_code_look {c0 then1 : Value} {h : Hp} {R : Value → Hp → Prop} (H : F_era_code_look (Sys.of Go.Proofs.Tryz.prog) ids c0 then1 h R) : (Sys.of Go.Proofs.Tryz.prog).C ids.f_era_code_look [c0, then1] h R :=
  cl_of_den Go.Proofs.Tryz.func192 (by kernel_rfl) mixed (E_era_code_look c0 then1 h R) H

def H_era_code_raise : HT := (.s .z (.s (.j [11] [2, 3, 4, 5, 35] .z (.c (.s .z .z) .z)) (.s (.o (oc [0, 1, 2, 3, 4, 5, 6, 7, 8, 9, 10] .nil)) (.s (.o (oc [0, 1, 2, 3, 4, 5, 6, 7, 8, 9] .nil)) .z))))
theorem E_era_code_raise (c0 g1 : Value) (h : Hp) (R : Value → Hp → Prop) : F_era_code_raise (Sys.of Go.Proofs.Tryz.prog) ids c0 g1 h R = denFn Go.Proofs.Tryz.prog Go.Proofs.Tryz.f193 H_era_code_raise [c0, g1] h R := by kernel_rfl
theorem C_era_code_raise {c0 g1 : Value} {h : Hp} {R : Value → Hp → Prop} (H : F_era_code_raise (Sys.of Go.Proofs.Tryz.prog) ids c0 g1 h R) : (Sys.of Go.Proofs.Tryz.prog).C ids.f_era_code_raise [c0, g1] h R :=
  cl_of_den Go.Proofs.Tryz.func193 (by kernel_rfl) mixed (E_era_code_raise c0 g1 h R) H

def H_slices_IndexFunc_reclaim_Item_reclaim_Item : HT := (.s .z (.s (.s .z (.b (.l [8] [0, 1, 7, 19] (.s .z (.s (.c .z .z) (.s (.b (.s .z (.s .z (.c (.s .z .z) .z)))) .z)))))) (.s .z .z)))
theorem E_slices_IndexFunc_reclaim_Item_reclaim_Item (s0 f1 : Value) (h : Hp) (R : Value → Hp → Prop) : F_slices_IndexFunc_reclaim_Item_reclaim_Item (Sys.of Go.Proofs.Tryz.prog) ids s0 f1 h R = denFn Go.Proofs.Tryz.prog Go.Proofs.Tryz.f194 H_slices_IndexFunc_reclaim_Item_reclaim_Item [s0, f1] h R := by kernel_rfl
theorem C_slices_IndexFunc_reclaim_Item_reclaim_Item {s0 f1 : Value} {h : Hp} {R : Value → Hp → Prop} (H : F_slices_IndexFunc_reclaim_Item_reclaim_Item (Sys.of Go.Proofs.Tryz.prog) ids s0 f1 h R) : (Sys.of Go.Proofs.Tryz.prog).C ids.f_slices_IndexFunc_reclaim_Item_reclaim_Item [s0, f1] h R :=
  cl_of_den Go.Proofs.Tryz.func194 (by kernel_rfl) mixed (E_slices_IndexFunc_reclaim_Item_reclaim_Item s0 f1 h R) H

def H_era_code_done : HT := (.s .z (.s .z (.s .z .z)))
theorem E_era_code_done (c0 time1 : Value) (h : Hp) (R : Value → Hp → Prop) : F_era_code_done (Sys.of Go.Proofs.Tryz.prog) ids c0 time1 h R = denFn Go.Proofs.Tryz.prog Go.Proofs.Tryz.f195 H_era_code_done [c0, time1] h R := by kernel_rfl
theorem C_era_code_done {c0 time1 : Value} {h : Hp} {R : Value → Hp → Prop} (H : F_era_code_done (Sys.of Go.Proofs.Tryz.prog) ids c0 time1 h R) : (Sys.of Go.Proofs.Tryz.prog).C ids.f_era_code_done [c0, time1] h R :=
  cl_of_den Go.Proofs.Tryz.func195 (by kernel_rfl) mixed (E_era_code_done c0 time1 h R) H

def H_simulcasttop_epochReader_Next : HT := (.s .z (.j [] [2, 3, 5, 135] (.s .z (.c (.s .z (.s .z (.s (.s .z (.c (.s (.o (oc [0, 1, 2, 3, 4, 5] .nil)) .z) .z)) (.s .z (.s .z (.s (.s .z (.c (.s .z (.s (.o (oc [0, 1, 2, 3, 4, 5, 6, 7, 8] .nil)) .z)) .z)) (.s .z .z))))))) .z)) (.j [] [2, 5, 135] (.s .z (.b (.s .z (.c (.s (.s .z (.c (.s .z .z) .z)) (.s (.o (oc [0, 1, 2, 3, 4, 5, 6, 7, 8, 9, 10, 11, 12, 13, 14] .nil)) .z)) (.s .z (.c (.s .z (.s (.o (oc [0, 1, 2, 3, 4, 5, 6, 7, 8] .nil)) .z)) (.s .z (.c (.s (.s .z (.c (.s .z (.s (.o (oc [0, 1, 2, 3, 4, 5, 6, 7, 8, 9, 10, 11, 12, 13, 14] .nil)) .z)) .z)) .z) .z)))))))) (.s (.s .z (.c (.s .z (.s .z .z)) .z)) (.s .z (.s (.o (oc [0, 1, 2, 3, 4, 5, 6, 7, 8, 9, 10, 11, 12, 13, 14] .nil)) .z))))))
theorem E_simulcasttop_epochReader_Next (r0 g1 : Value) (h : Hp) (R : Value → Hp → Prop) : F_simulcasttop_epochReader_Next (Sys.of Go.Proofs.Tryz.prog) ids r0 g1 h R = denFn Go.Proofs.Tryz.prog Go.Proofs.Tryz.f324 H_simulcasttop_epochReader_Next [r0, g1] h R := by kernel_rfl
theorem C_simulcasttop_epochReader_Next {r0 g1 : Value} {h : Hp} {R : Value → Hp → Prop} (H : F_simulcasttop_epochReader_Next (Sys.of Go.Proofs.Tryz.prog) ids r0 g1 h R) : (Sys.of Go.Proofs.Tryz.prog).C ids.f_simulcasttop_epochReader_Next [r0, g1] h R :=
  cl_of_den Go.Proofs.Tryz.func324 (by kernel_rfl) mixed (E_simulcasttop_epochReader_Next r0 g1 h R) H

def H_era_Era : HT := (.s .z (.s .z (.s (.j [17] [4, 20] .z (.c (.s .z .z) .z)) (.s .z .z))))
theorem E_era_Era (c0 : Value) (h : Hp) (R : Value → Hp → Prop) : F_era_Era (Sys.of Go.Proofs.Tryz.prog) ids c0 h R = denFn Go.Proofs.Tryz.prog Go.Proofs.Tryz.f325 H_era_Era [c0] h R := by kernel_rfl
theorem C_era_Era {c0 : Value} {h : Hp} {R : Value → Hp → Prop} (H : F_era_Era (Sys.of Go.Proofs.Tryz.prog) ids c0 h R) : (Sys.of Go.Proofs.Tryz.prog).C ids.f_era_Era [c0] h R :=
  cl_of_den Go.Proofs.Tryz.func325 (by kernel_rfl) mixed (E_era_Era c0 h R) H

def H_simulcasttop_epochReader_run : HT := (.s .z (.s (.s .z (.c (.s .z .z) .z)) (.s .z (.s .z (.s (.o (oc [0, 1, 2, 3, 4, 5, 6] .nil)) .z)))))
theorem E_simulcasttop_epochReader_run (r0 c1 e2 : Value) (h : Hp) (R : Value → Hp → Prop) : F_simulcasttop_epochReader_run (Sys.of Go.Proofs.Tryz.prog) ids r0 c1 e2 h R = denFn Go.Proofs.Tryz.prog Go.Proofs.Tryz.f326 H_simulcasttop_epochReader_run [r0, c1, e2] h R := by kernel_rfl
theorem C_simulcasttop_epochReader_run {r0 c1 e2 : Value} {h : Hp} {R : Value → Hp → Prop} (H : F_simulcasttop_epochReader_run (Sys.of Go.Proofs.Tryz.prog) ids r0 c1 e2 h R) : (Sys.of Go.Proofs.Tryz.prog).C ids.f_simulcasttop_epochReader_run [r0, c1, e2] h R :=
  cl_of_den Go.Proofs.Tryz.func326 (by kernel_rfl) mixed (E_simulcasttop_epochReader_run r0 c1 e2 h R) H

def H_era_Enter : HT := (.s .z (.s (.s .z (.s .z (.c (.s .z .z) .z))) (.s .z .z)))
theorem E_era_Enter (l0 t1 : Value) (h : Hp) (R : Value → Hp → Prop) : F_era_Enter (Sys.of Go.Proofs.Tryz.prog) ids l0 t1 h R = denFn Go.Proofs.Tryz.prog Go.Proofs.Tryz.f327 H_era_Enter [l0, t1] h R := by kernel_rfl
theorem C_era_Enter {l0 t1 : Value} {h : Hp} {R : Value → Hp → Prop} (H : F_era_Enter (Sys.of Go.Proofs.Tryz.prog) ids l0 t1 h R) : (Sys.of Go.Proofs.Tryz.prog).C ids.f_era_Enter [l0, t1] h R :=
  cl_of_den Go.Proofs.Tryz.func327 (by kernel_rfl) mixed (E_era_Enter l0 t1 h R) H

def H_era_Leave : HT := (.s .z (.s (.s .z (.s .z (.c (.s .z .z) .z))) (.s .z .z)))
theorem E_era_Leave (l0 t1 : Value) (h : Hp) (R : Value → Hp → Prop) : F_era_Leave (Sys.of Go.Proofs.Tryz.prog) ids l0 t1 h R = denFn Go.Proofs.Tryz.prog Go.Proofs.Tryz.f328 H_era_Leave [l0, t1] h R := by kernel_rfl
theorem C_era_Leave {l0 t1 : Value} {h : Hp} {R : Value → Hp → Prop} (H : F_era_Leave (Sys.of Go.Proofs.Tryz.prog) ids l0 t1 h R) : (Sys.of Go.Proofs.Tryz.prog).C ids.f_era_Leave [l0, t1] h R :=
  cl_of_den Go.Proofs.Tryz.func328 (by kernel_rfl) mixed (E_era_Leave l0 t1 h R) H

def H_era_check : HT := (.s .z (.s (.b (.s .z (.c (.s .z .z) (.j [9] [18] .z (.c (.s .z .z) .z))))) (.s .z .z)))
theorem E_era_check (l0 t1 : Value) (h : Hp) (R : Value → Hp → Prop) : F_era_check (Sys.of Go.Proofs.Tryz.prog) ids l0 t1 h R = denFn Go.Proofs.Tryz.prog Go.Proofs.Tryz.f329 H_era_check [l0, t1] h R := by kernel_rfl
theorem C_era_check {l0 t1 : Value} {h : Hp} {R : Value → Hp → Prop} (H : F_era_check (Sys.of Go.Proofs.Tryz.prog) ids l0 t1 h R) : (Sys.of Go.Proofs.Tryz.prog).C ids.f_era_check [l0, t1] h R :=
  cl_of_den Go.Proofs.Tryz.func329 (by kernel_rfl) mixed (E_era_check l0 t1 h R) H

def H_era_Enter_1 : HT := (.s .z (.s .z .z))
theorem E_era_Enter_1 (c0 v1 : Value) (h : Hp) (R : Value → Hp → Prop) : F_era_Enter_1 (Sys.of Go.Proofs.Tryz.prog) ids c0 v1 h R = denFn Go.Proofs.Tryz.prog Go.Proofs.Tryz.f330 H_era_Enter_1 [c0, v1] h R := by kernel_rfl
theorem C_era_Enter_1 {c0 v1 : Value} {h : Hp} {R : Value → Hp → Prop} (H : F_era_Enter_1 (Sys.of Go.Proofs.Tryz.prog) ids c0 v1 h R) : (Sys.of Go.Proofs.Tryz.prog).C ids.f_era_Enter_1 [c0, v1] h R :=
  cl_of_den Go.Proofs.Tryz.func330 (by kernel_rfl) mixed (E_era_Enter_1 c0 v1 h R) H

def H_era_code_announce : HT := (.s .z (.s .z (.s .z (.s (.o (oc [0, 1, 2, 3, 4, 5, 6, 7] .nil)) .z))))
theorem E_era_code_announce (c0 g1 : Value) (h : Hp) (R : Value → Hp → Prop) : F_era_code_announce (Sys.of Go.Proofs.Tryz.prog) ids c0 g1 h R = denFn Go.Proofs.Tryz.prog Go.Proofs.Tryz.f331 H_era_code_announce [c0, g1] h R := by kernel_rfl
theorem C_era_code_announce {c0 g1 : Value} {h : Hp} {R : Value → Hp → Prop} (H : F_era_code_announce (Sys.of Go.Proofs.Tryz.prog) ids c0 g1 h R) : (Sys.of Go.Proofs.Tryz.prog).C ids.f_era_code_announce [c0, g1] h R :=
  cl_of_den Go.Proofs.Tryz.func331 (by kernel_rfl) mixed (E_era_code_announce c0 g1 h R) H

def H_era_Leave_1 : HT := (.s .z (.s .z (.s (.o (oc [0, 1, 2, 3, 4, 5] .nil)) .z)))
theorem E_era_Leave_1 (c0 v1 : Value) (h : Hp) (R : Value → Hp → Prop) : F_era_Leave_1 (Sys.of Go.Proofs.Tryz.prog) ids c0 v1 h R = denFn Go.Proofs.Tryz.prog Go.Proofs.Tryz.f332 H_era_Leave_1 [c0, v1] h R := by kernel_rfl
theorem C_era_Leave_1 {c0 v1 : Value} {h : Hp} {R : Value → Hp → Prop} (H : F_era_Leave_1 (Sys.of Go.Proofs.Tryz.prog) ids c0 v1 h R) : (Sys.of Go.Proofs.Tryz.prog).C ids.f_era_Leave_1 [c0, v1] h R :=
  cl_of_den Go.Proofs.Tryz.func332 (by kernel_rfl) mixed (E_era_Leave_1 c0 v1 h R) H

def H_era_Leave_1_1 : HT := (.s .z (.s .z .z))
theorem E_era_Leave_1_1 (c0 v1 : Value) (h : Hp) (R : Value → Hp → Prop) : F_era_Leave_1_1 (Sys.of Go.Proofs.Tryz.prog) ids c0 v1 h R = denFn Go.Proofs.Tryz.prog Go.Proofs.Tryz.f333 H_era_Leave_1_1 [c0, v1] h R := by kernel_rfl
theorem C_era_Leave_1_1 {c0 v1 : Value} {h : Hp} {R : Value → Hp → Prop} (H : F_era_Leave_1_1 (Sys.of Go.Proofs.Tryz.prog) ids c0 v1 h R) : (Sys.of Go.Proofs.Tryz.prog).C ids.f_era_Leave_1_1 [c0, v1] h R :=
  cl_of_den Go.Proofs.Tryz.func333 (by kernel_rfl) mixed (E_era_Leave_1_1 c0 v1 h R) H

def H_era_code_announce_1 : HT := (.s .z (.s .z .z))
theorem E_era_code_announce_1 (c0 v1 : Value) (h : Hp) (R : Value → Hp → Prop) : F_era_code_announce_1 (Sys.of Go.Proofs.Tryz.prog) ids c0 v1 h R = denFn Go.Proofs.Tryz.prog Go.Proofs.Tryz.f334 H_era_code_announce_1 [c0, v1] h R := by kernel_rfl
theorem C_era_code_announce_1 {c0 v1 : Value} {h : Hp} {R : Value → Hp → Prop} (H : F_era_code_announce_1 (Sys.of Go.Proofs.Tryz.prog) ids c0 v1 h R) : (Sys.of Go.Proofs.Tryz.prog).C ids.f_era_code_announce_1 [c0, v1] h R :=
  cl_of_den Go.Proofs.Tryz.func334 (by kernel_rfl) mixed (E_era_code_announce_1 c0 v1 h R) H

def H_era_code_compare : HT := (.s .z (.s (.s .z (.c (.s .z .z) .z)) (.s .z .z)))
theorem E_era_code_compare (c0 g1 : Value) (h : Hp) (R : Value → Hp → Prop) : F_era_code_compare (Sys.of Go.Proofs.Tryz.prog) ids c0 g1 h R = denFn Go.Proofs.Tryz.prog Go.Proofs.Tryz.f335 H_era_code_compare [c0, g1] h R := by kernel_rfl
theorem C_era_code_compare {c0 g1 : Value} {h : Hp} {R : Value → Hp → Prop} (H : F_era_code_compare (Sys.of Go.Proofs.Tryz.prog) ids c0 g1 h R) : (Sys.of Go.Proofs.Tryz.prog).C ids.f_era_code_compare [c0, g1] h R :=
  cl_of_den Go.Proofs.Tryz.func335 (by kernel_rfl) mixed (E_era_code_compare c0 g1 h R) H

def H_era_code_Next : HT := (.s .z (.s (.s .z (.c (.s .z .z) .z)) (.s .z (.s (.o (oc [0, 1, 2, 3, 4, 5, 6, 7] .nil)) .z))))
theorem E_era_code_Next (c0 g1 : Value) (h : Hp) (R : Value → Hp → Prop) : F_era_code_Next (Sys.of Go.Proofs.Tryz.prog) ids c0 g1 h R = denFn Go.Proofs.Tryz.prog Go.Proofs.Tryz.f338 H_era_code_Next [c0, g1] h R := by kernel_rfl
theorem C_era_code_Next {c0 g1 : Value} {h : Hp} {R : Value → Hp → Prop} (H : F_era_code_Next (Sys.of Go.Proofs.Tryz.prog) ids c0 g1 h R) : (Sys.of Go.Proofs.Tryz.prog).C ids.f_era_code_Next [c0, g1] h R :=
  cl_of_den Go.Proofs.Tryz.func338 (by kernel_rfl) mixed (E_era_code_Next c0 g1 h R) H

end Go.En
