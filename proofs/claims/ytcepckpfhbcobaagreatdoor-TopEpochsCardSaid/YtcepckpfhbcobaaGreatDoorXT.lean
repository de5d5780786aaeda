/-
  Clean texts of 121 functions: what each of them does, printed by program out of the translation.
-/
import Derived.Test.YtcepckpfhbcobaaGreatDoorXB
namespace Go.En
/-- the numbers of functions and types -/
structure Ids where
  mt : TypeId → String → Option FuncId
  f_simulcasttop_TopEpochs : Nat
  f_simulcasttop_epochAwake : Nat
  f_simulcasttop_epochWorld : Nat
  f_task_World_Step : Nat
  f_simulcasttop_epochSafe : Nat
  f_task_Task_Done : Nat
  f_task_Task_Code : Nat
  f_reclaim_Bag_Sweep : Nat
  f_reclaim_Bag_Len : Nat
  f_task_World_Alone : Nat
  f_task_Task_Steps : Nat
  f_machine_Machine_Word : Nat
  f_layout_Layout_Cell : Nat
  f_layout_Layout_First : Nat
  f_simulcasttop_epochValue : Nat
  f_machine_New : Nat
  f_task_Make : Nat
  f_task_World_dead : Nat
  f_machine_Machine_Crash : Nat
  f_task_World_takes : Nat
  f_task_World_step : Nat
  f_task_World_stop : Nat
  f_slices_Contains_int_int : Nat
  f_reclaim_Item_way : Nat
  f_slices_Sort_int_int : Nat
  f_task_World_stopped : Nat
  f_machine_Machine_Size : Nat
  f_memory_Memory_Last : Nat
  f_layout_Layout_at : Nat
  f_layout_Layout_right : Nat
  f_layout_Layout_Size : Nat
  f_layout_Layout_Era : Nat
  f_layout_Layout_Slot : Nat
  f_layout_Layout_Block : Nat
  f_memory_New : Nat
  f_line_New : Nat
  f_task_Start : Nat
  f_slices_Clone_int_int : Nat
  f_task_Task_Act : Nat
  f_machine_Machine_Do : Nat
  f_slices_Clone_task_Task_task_Task : Nat
  f_task_Task_Give : Nat
  f_slices_Index_int_int : Nat
  f_slices_ContainsFunc_int64_int64 : Nat
  f_reclaim_Item_lives : Nat
  f_reclaim_Item_named : Nat
  f_slices_pdqsortOrdered_int : Nat
  f_math_bits_Len : Nat
  f_layout_Layout_from : Nat
  f_layout_Layout_Check : Nat
  f_memory_Memory_Size : Nat
  f_memory_Memory_History : Nat
  f_history_History_Last : Nat
  f_layout_Layout_many : Nat
  f_history_New : Nat
  f_slices_Clone_api_Word_api_Word : Nat
  f_task_Task_told : Nat
  f_machine_Machine_check : Nat
  f_machine_Changes : Nat
  f_machine_Machine_write : Nat
  f_line_Lines_Flush : Nat
  f_line_Lines_Sync : Nat
  f_machine_Machine_read : Nat
  f_slices_Clip_api_Got_api_Got : Nat
  f_slices_IndexFunc_int64_int64 : Nat
  f_slices_insertionSortOrdered_int : Nat
  f_slices_heapSortOrdered_int : Nat
  f_slices_breakPatternsOrdered_int : Nat
  f_slices_choosePivotOrdered_int : Nat
  f_slices_reverseRangeOrdered_int : Nat
  f_slices_partialInsertionSortOrdered_int : Nat
  f_cmp_Less_int : Nat
  f_slices_partitionEqualOrdered_int : Nat
  f_slices_partitionOrdered_int : Nat
  f_math_bits_Len64 : Nat
  f_layout_Layout_long : Nat
  f_layout_between : Nat
  f_memory_Memory_place : Nat
  f_history_History_At : Nat
  f_memory_Memory_Swap : Nat
  f_memory_Memory_Store : Nat
  f_line_Lines_Store : Nat
  f_line_Lines_has : Nat
  f_slices_Clone_line_log_line_log : Nat
  f_memory_Memory_Look : Nat
  f_memory_Memory_Load : Nat
  f_cmp_isNaN_int : Nat
  f_memory_Memory_adds : Nat
  f_memory_Memory_wrong : Nat
  f_slices_Clip_line_store_line_store : Nat
  f_memory_Memory_look : Nat
  f_memory_picker_last : Nat
  f_memory_Memory_Seen : Nat
  f_view_View_With : Nat
  f_history_History_Len : Nat
  f_history_History_Add : Nat
  f_memory_Memory_with : Nat
  f_memory_Memory_thread : Nat
  f_memory_Memory_finds : Nat
  f_view_View_At : Nat
  f_maps_Clone_map_api_Loc_int_api_Loc_int : Nat
  f_slices_Clip_history_Message_history_Message : Nat
  f_view_Join : Nat
  f_simulcasttop_epochWriter_Next : Nat
  f_simulcasttop_epochWriter_begin : Nat
  f_simulcasttop_epochWriter_fail : Nat
  f_simulcasttop_epochWriter_look : Nat
  f_reclaim_Bag_Retire : Nat
  f_layout_Layout_Announce : Nat
  f_slices_Clip_int64_int64 : Nat
  f_slices_Clip_int_int : Nat
  f_era_Advance : Nat
  f_slices_ContainsFunc_reclaim_Item_reclaim_Item : Nat
  f_reclaim_Bag_Retire_1 : Nat
  f_slices_Clone_reclaim_Item_reclaim_Item : Nat
  f_era_made : Nat
  f_era_Advance_1 : Nat
  f_era_code_look : Nat
  f_era_code_raise : Nat
  f_slices_IndexFunc_reclaim_Item_reclaim_Item : Nat
  f_era_code_done : Nat
  f_simulcasttop_epochReader_Next : Nat
  f_era_Era : Nat
  f_simulcasttop_epochReader_run : Nat
  f_era_Enter : Nat
  f_era_Leave : Nat
  f_era_check : Nat
  f_era_Enter_1 : Nat
  f_era_code_announce : Nat
  f_era_Leave_1 : Nat
  f_era_Leave_1_1 : Nat
  f_era_code_announce_1 : Nat
  f_era_code_compare : Nat
  f_era_code_Next : Nat
  t_int64 : Nat
  t_int : Nat
  t_bool : Nat
  t_uint8 : Nat
  t_2_uint8 : Nat
  t_memory_Memory : Nat
  t_line_Lines : Nat
  t_machine_Machine : Nat
  t_task_World : Nat
  t_api_Pick : Nat
  t_task_Code : Nat
  t_api_Word : Nat
  t_api_Act : Nat
  t_task_Task : Nat
  t_layout_Layout : Nat
  t_reclaim_Bag : Nat
  t_simulcasttop_epochWriter : Nat
  t_simulcasttop_epochReader : Nat
  t_reclaim_Item : Nat
  t_api_Got : Nat
  t_history_History : Nat
  t_map_api_Loc_int : Nat
  t_view_View : Nat
  t_history_Message : Nat
  t_line_log : Nat
  t_line_store : Nat
  t_era_code : Nat

def F_simulcasttop_TopEpochs (S : Sys) (I : Ids) (ops0 reads1 l2 : Value) (h : Hp) (R : Value → Hp → Prop) : Prop :=
  Eb (nw (Value.cells reads1) I.t_2_uint8 h) fun reads4 h1 =>
  S.C I.f_simulcasttop_epochAwake [] h1 fun v18 h2 =>
  Vb (uno .not v18) fun v19 =>
  Br v19 (
    R (Value.bool false) h2) (
    Jn1 (fun v27 h3 =>
        Br v27 (
          R (Value.bool true) h3) (
          Vb (lda 2 reads4 h3) fun v30 =>
          S.C I.f_simulcasttop_epochWorld [ops0, v30] h3 fun v31 h4 =>
          Vb (ext 0 v31) fun v32 =>
          Vb (ext 1 v31) fun v33 =>
          Eb (nw #[Value.slice none 0 0, Value.slice none 0 0, Value.slice none 0 0, Value.slice none 0 0, Value.map none, Value.slice none 0 0, Value.int IntKind.i64 0, Value.slice none 0 0, Value.slice none 0 0] I.t_task_World h4) fun x7 h5 =>
          Sb (sto 9 x7 v32 h5) fun h6 =>
          Vb (uno .not v33) fun v35 =>
          Br v35 (
            R (Value.bool false) h6) (
            Vb (lnS l2) fun v37 =>
            Lp1 (Value.int IntKind.i64 0) h6 fun v38 h7 again0 =>
            Vb (bin .lss v38 v37) fun v39 =>
            Br v39 (
              Jn0 (fun h8 =>
                  Vb (bin .add v38 (Value.int IntKind.i64 1)) fun v54 =>
                  again0 v54 h8) fun J1 =>
              Vb (ixs 3 l2 v38) fun v40 =>
              Vb (lda 3 v40 h7) fun v41 =>
              Eb (nw #[Value.int IntKind.i64 0, Value.int IntKind.i64 0, Value.int IntKind.i64 0] I.t_api_Pick h7) fun p10 h9 =>
              Sb (sto 3 p10 v41 h9) fun h10 =>
              Vb (fa 0 p10) fun v42 =>
              Vb (ldc v42 h10) fun v43 =>
              Vb (bin .neq v43 (Value.int IntKind.i64 0)) fun v44 =>
              Br v44 (
                J1 h10) (
                Vb (lda 9 x7 h10) fun v46 =>
                Vb (lda 3 p10 h10) fun v47 =>
                S.C I.f_task_World_Step [v46, v47] h10 fun v48 h11 =>
                Vb (ext 0 v48) fun v49 =>
                Vb (ext 1 v48) fun v50 =>
                Sb (sto 9 x7 v49 h11) fun h12 =>
                Vb (lda 9 x7 h12) fun v51 =>
                S.C I.f_simulcasttop_epochSafe [v51] h12 fun v52 h13 =>
                Vb (uno .not v52) fun v53 =>
                Br v53 (
                  R (Value.bool false) h13) (
                  J1 h13))) (
              Eb (bsl #[Value.int IntKind.i64 0] 1 3 I.t_int [(0, (Value.int IntKind.i64 2)), (1, (Value.int IntKind.i64 3)), (2, (Value.int IntKind.i64 1))] h7) fun v55 h14 =>
              Vb (lnS v55) fun v56 =>
              Lp1 (Value.int IntKind.i64 0) h14 fun v57 h15 again1 =>
              Vb (bin .lss v57 v56) fun v58 =>
              Br v58 (
                Vb (ixs 1 v55 v57) fun v59 =>
                Vb (ldc v59 h15) fun v60 =>
                Lp1 (Value.int IntKind.i64 0) h15 fun n13 h16 again2 =>
                Vb (fa 7 x7) fun v61 =>
                Vb (ldc v61 h16) fun v62 =>
                Vb (bin .sub v60 (Value.int IntKind.i64 1)) fun v64 =>
                Vb (ixs 11 v62 v64) fun v65 =>
                Vb (lda 11 v65 h16) fun v66 =>
                S.C I.f_task_Task_Done [v66] h16 fun v67 h17 =>
                Vb (uno .not v67) fun v68 =>
                Br v68 (
                  Vb (lda 9 x7 h17) fun v72 =>
                  Vb (bldS [(0, 1), (1, 1), (2, 1)] #[Value.int IntKind.i64 0, Value.int IntKind.i64 0, Value.int IntKind.i64 0] [(1, v60)]) fun v74 =>
                  S.C I.f_task_World_Step [v72, v74] h17 fun v75 h18 =>
                  Vb (ext 0 v75) fun v76 =>
                  Vb (ext 1 v75) fun v77 =>
                  Sb (sto 9 x7 v76 h18) fun h19 =>
                  Jn1 (fun v84 h20 =>
                      Br v84 (
                        R (Value.bool false) h20) (
                        Vb (bin .add n13 (Value.int IntKind.i64 1)) fun v70 =>
                        again2 v70 h20)) fun J2 =>
                  Vb (bin .gtr n13 (Value.int IntKind.i64 2000)) fun v79 =>
                  Br v79 (
                    J2 (Value.bool true) h19) (
                    Vb (lda 9 x7 h19) fun v81 =>
                    S.C I.f_simulcasttop_epochSafe [v81] h19 fun v82 h21 =>
                    Vb (uno .not v82) fun v83 =>
                    J2 v83 h21)) (
                  Vb (bin .add v57 (Value.int IntKind.i64 1)) fun v85 =>
                  again1 v85 h17)) (
                Vb (fa 7 x7) fun v87 =>
                Vb (ldc v87 h15) fun v88 =>
                Vb (ixs 11 v88 (Value.int IntKind.i64 0)) fun v89 =>
                Vb (lda 11 v89 h15) fun v90 =>
                S.C I.f_task_Task_Code [v90] h15 fun v91 h22 =>
                Vb (tas I.t_simulcasttop_epochWriter (Value.agg #[Value.int IntKind.i64 0, Value.int IntKind.i64 0, Value.int IntKind.i64 0, Value.slice none 0 0, Value.int IntKind.i64 0, Value.nilIface, Value.slice none 0 0, Value.slice none 0 0, Value.int IntKind.i64 0, Value.int IntKind.i64 0, Value.int IntKind.i64 0, Value.int IntKind.i64 0, Value.int IntKind.i64 0, Value.int IntKind.i64 0, Value.int IntKind.i64 0, Value.int IntKind.i64 0, Value.int IntKind.i64 0, Value.int IntKind.u32 0, Value.int IntKind.u32 0, Value.int IntKind.i64 0, Value.slice none 0 0, Value.bool false]) true v91) fun v92 =>
                Vb (ext 0 v92) fun v93 =>
                Vb (ext 1 v92) fun v94 =>
                Eb (nw #[Value.int IntKind.i64 0, Value.int IntKind.i64 0, Value.int IntKind.i64 0, Value.slice none 0 0, Value.int IntKind.i64 0, Value.nilIface, Value.slice none 0 0, Value.slice none 0 0, Value.int IntKind.i64 0, Value.int IntKind.i64 0, Value.int IntKind.i64 0, Value.int IntKind.i64 0, Value.int IntKind.i64 0, Value.int IntKind.i64 0, Value.int IntKind.i64 0, Value.int IntKind.i64 0, Value.int IntKind.i64 0, Value.int IntKind.u32 0, Value.int IntKind.u32 0, Value.int IntKind.i64 0, Value.slice none 0 0, Value.bool false] I.t_simulcasttop_epochWriter h22) fun w14 h23 =>
                Sb (sto 22 w14 v93 h23) fun h24 =>
                Vb (fa 6 w14) fun v96 =>
                Vb (lda 1 v96 h24) fun v97 =>
                Eb (bsl #[Value.int IntKind.i64 0] 1 3 I.t_int64 [(0, (Value.int IntKind.i64 0)), (1, (Value.int IntKind.i64 0)), (2, (Value.int IntKind.i64 0))] h24) fun v98 h25 =>
                S.C I.f_reclaim_Bag_Sweep [v97, v98, (Value.slice none 0 0)] h25 fun v99 h26 =>
                Vb (ext 0 v99) fun v100 =>
                Vb (ext 1 v99) fun v101 =>
                Eb (nw #[Value.slice none 0 0] I.t_reclaim_Bag h26) fun left16 h27 =>
                Sb (sto 1 left16 v100 h27) fun h28 =>
                Jn1 (fun v6 h29 =>
                    R v6 h29) fun J3 =>
                Vb (lda 1 left16 h28) fun v102 =>
                S.C I.f_reclaim_Bag_Len [v102] h28 fun v103 h30 =>
                Vb (bin .eql v103 (Value.int IntKind.i64 0)) fun v104 =>
                Br v104 (
                  Vb (fa 6 w14) fun v106 =>
                  Vb (lda 1 v106 h30) fun v107 =>
                  Vb (fa 7 w14) fun v109 =>
                  Vb (ldc v109 h30) fun v110 =>
                  Vb (lnS v110) fun v111 =>
                  S.C I.f_reclaim_Bag_Len [v107] h30 fun v108 h31 =>
                  ldc v109 h31 = some v110 ∧
                  Vb (bin .add v108 v111) fun v112 =>
                  Vb (bin .eql v112 (Value.int IntKind.i64 3)) fun v113 =>
                  J3 v113 h31) (
                  J3 (Value.bool false) h30)))))) fun J0 =>
    Vb (lnS ops0) fun v21 =>
    Vb (bin .gtr v21 (Value.int IntKind.i64 12)) fun v22 =>
    Br v22 (
      J0 (Value.bool true) h2) (
      Vb (lnS l2) fun v25 =>
      Vb (bin .gtr v25 (Value.int IntKind.i64 250)) fun v26 =>
      J0 v26 h2))

def F_math_bits_Len (S : Sys) (I : Ids) (x0 : Value) (h : Hp) (R : Value → Hp → Prop) : Prop :=
  S.C I.f_math_bits_Len64 [x0] h fun v7 h1 =>
  R v7 h1

def F_cmp_Less_int (S : Sys) (I : Ids) (x0 y1 : Value) (h : Hp) (R : Value → Hp → Prop) : Prop :=
  Jn1 (fun v4 h1 =>
      R v4 h1) fun J0 =>
  S.C I.f_cmp_isNaN_int [x0] h fun v6 h2 =>
  Br v6 (
    S.C I.f_cmp_isNaN_int [y1] h2 fun v9 h3 =>
    Vb (uno .not v9) fun v10 =>
    Br v10 (
      J0 (Value.bool true) h3) (
      Vb (bin .lss x0 y1) fun v15 =>
      J0 v15 h3)) (
    Vb (bin .lss x0 y1) fun v15_1 =>
    J0 v15_1 h2)

def F_math_bits_Len64 (S : Sys) (I : Ids) (x0 : Value) (h : Hp) (R : Value → Hp → Prop) : Prop :=
  Jn2 (fun x0_1 n2 h1 =>
      Jn2 (fun x0_2 n2_1 h2 =>
          Jn2 (fun x0_3 n2_2 h3 =>
              Vb (cvi .u8 x0_3) fun v21 =>
              Vb (idst (Value.string { data := (List.toArray (List.append (List.append [0, 1, 2, 2, 3, 3, 3, 3, 4, 4, 4, 4, 4, 4, 4, 4, 5, 5, 5, 5, 5, 5, 5, 5, 5, 5, 5, 5, 5, 5, 5, 5, 6, 6, 6, 6, 6, 6, 6, 6, 6, 6, 6, 6, 6, 6, 6, 6, 6, 6, 6, 6, 6, 6, 6, 6, 6, 6, 6, 6, 6, 6, 6, 6] [7, 7, 7, 7, 7, 7, 7, 7, 7, 7, 7, 7, 7, 7, 7, 7, 7, 7, 7, 7, 7, 7, 7, 7, 7, 7, 7, 7, 7, 7, 7, 7, 7, 7, 7, 7, 7, 7, 7, 7, 7, 7, 7, 7, 7, 7, 7, 7, 7, 7, 7, 7, 7, 7, 7, 7, 7, 7, 7, 7, 7, 7, 7, 7]) (List.append [8, 8, 8, 8, 8, 8, 8, 8, 8, 8, 8, 8, 8, 8, 8, 8, 8, 8, 8, 8, 8, 8, 8, 8, 8, 8, 8, 8, 8, 8, 8, 8, 8, 8, 8, 8, 8, 8, 8, 8, 8, 8, 8, 8, 8, 8, 8, 8, 8, 8, 8, 8, 8, 8, 8, 8, 8, 8, 8, 8, 8, 8, 8, 8] [8, 8, 8, 8, 8, 8, 8, 8, 8, 8, 8, 8, 8, 8, 8, 8, 8, 8, 8, 8, 8, 8, 8, 8, 8, 8, 8, 8, 8, 8, 8, 8, 8, 8, 8, 8, 8, 8, 8, 8, 8, 8, 8, 8, 8, 8, 8, 8, 8, 8, 8, 8, 8, 8, 8, 8, 8, 8, 8, 8, 8, 8, 8, 8]))) }) v21) fun v22 =>
              Vb (cvi .i64 v22) fun v23 =>
              Vb (bin .add n2_2 v23) fun v24 =>
              R v24 h3) fun J2 =>
          Vb (bin .geq x0_2 (Value.int IntKind.u64 256)) fun v14 =>
          Br v14 (
            Vb (bin .shr x0_2 (Value.int IntKind.u64 8)) fun v16 =>
            Vb (bin .add n2_1 (Value.int IntKind.i64 8)) fun v18 =>
            J2 v16 v18 h2) (
            J2 x0_2 n2_1 h2)) fun J1 =>
      Vb (bin .geq x0_1 (Value.int IntKind.u64 65536)) fun v8 =>
      Br v8 (
        Vb (bin .shr x0_1 (Value.int IntKind.u64 16)) fun v10 =>
        Vb (bin .add n2 (Value.int IntKind.i64 16)) fun v12 =>
        J1 v10 v12 h1) (
        J1 x0_1 n2 h1)) fun J0 =>
  Vb (bin .geq x0 (Value.int IntKind.u64 4294967296)) fun v4 =>
  Br v4 (
    Vb (bin .shr x0 (Value.int IntKind.u64 32)) fun v6 =>
    J0 v6 (Value.int IntKind.i64 32) h) (
    J0 x0 (Value.int IntKind.i64 0) h)

def F_cmp_isNaN_int (S : Sys) (I : Ids) (x0 : Value) (h : Hp) (R : Value → Hp → Prop) : Prop :=
  Vb (bin .neq x0 x0) fun v5 =>
  R v5 h

def F_simulcasttop_epochAwake (S : Sys) (I : Ids) (h : Hp) (R : Value → Hp → Prop) : Prop :=
  Eb (bsl #[Value.int IntKind.u8 0] 1 3 I.t_uint8 [(0, (Value.int IntKind.u8 1)), (1, (Value.int IntKind.u8 0)), (2, (Value.int IntKind.u8 1))] h) fun v9 h1 =>
  Vb (bldA 1 #[Value.int IntKind.u8 0, Value.int IntKind.u8 0] []) fun v10 =>
  S.C I.f_simulcasttop_epochWorld [v9, v10] h1 fun v11 h2 =>
  Vb (ext 0 v11) fun v12 =>
  Vb (ext 1 v11) fun v13 =>
  Eb (nw #[Value.slice none 0 0, Value.slice none 0 0, Value.slice none 0 0, Value.slice none 0 0, Value.map none, Value.slice none 0 0, Value.int IntKind.i64 0, Value.slice none 0 0, Value.slice none 0 0] I.t_task_World h2) fun x1 h3 =>
  Sb (sto 9 x1 v12 h3) fun h4 =>
  Vb (lda 9 x1 h4) fun v15 =>
  S.C I.f_task_World_Alone [v15, (Value.int IntKind.i64 1), (Value.int IntKind.i64 100)] h4 fun v16 h5 =>
  Vb (ext 0 v16) fun v17 =>
  Vb (ext 1 v16) fun v18 =>
  Sb (sto 9 x1 v17 h5) fun h6 =>
  Jn1 (fun v32 h7 =>
      Br v32 (
        R (Value.bool false) h7) (
        Vb (fa 7 x1) fun v34 =>
        Vb (ldc v34 h7) fun v35 =>
        Vb (ixs 11 v35 (Value.int IntKind.i64 0)) fun v36 =>
        Vb (lda 11 v36 h7) fun v37 =>
        S.C I.f_task_Task_Code [v37] h7 fun v38 h8 =>
        Vb (tas I.t_simulcasttop_epochWriter (Value.agg #[Value.int IntKind.i64 0, Value.int IntKind.i64 0, Value.int IntKind.i64 0, Value.slice none 0 0, Value.int IntKind.i64 0, Value.nilIface, Value.slice none 0 0, Value.slice none 0 0, Value.int IntKind.i64 0, Value.int IntKind.i64 0, Value.int IntKind.i64 0, Value.int IntKind.i64 0, Value.int IntKind.i64 0, Value.int IntKind.i64 0, Value.int IntKind.i64 0, Value.int IntKind.i64 0, Value.int IntKind.i64 0, Value.int IntKind.u32 0, Value.int IntKind.u32 0, Value.int IntKind.i64 0, Value.slice none 0 0, Value.bool false]) true v38) fun v39 =>
        Vb (ext 0 v39) fun v40 =>
        Vb (ext 1 v39) fun v41 =>
        Eb (nw #[Value.int IntKind.i64 0, Value.int IntKind.i64 0, Value.int IntKind.i64 0, Value.slice none 0 0, Value.int IntKind.i64 0, Value.nilIface, Value.slice none 0 0, Value.slice none 0 0, Value.int IntKind.i64 0, Value.int IntKind.i64 0, Value.int IntKind.i64 0, Value.int IntKind.i64 0, Value.int IntKind.i64 0, Value.int IntKind.i64 0, Value.int IntKind.i64 0, Value.int IntKind.i64 0, Value.int IntKind.i64 0, Value.int IntKind.u32 0, Value.int IntKind.u32 0, Value.int IntKind.i64 0, Value.slice none 0 0, Value.bool false] I.t_simulcasttop_epochWriter h8) fun w4 h9 =>
        Sb (sto 22 w4 v40 h9) fun h10 =>
        Jn1 (fun v6 h11 =>
            Jn1 (fun v0 h12 =>
                R v0 h12) fun J2 =>
            Br v41 (
              Vb (fa 0 v6) fun v53 =>
              Vb (ldc v53 h11) fun v54 =>
              Vb (bin .eql v54 (Value.int IntKind.i64 19)) fun v55 =>
              Br v55 (
                Vb (fa 7 w4) fun v58 =>
                Vb (ldc v58 h11) fun v59 =>
                Vb (lnS v59) fun v60 =>
                Vb (bin .eql v60 (Value.int IntKind.i64 3)) fun v61 =>
                Br v61 (
                  Vb (fa 6 w4) fun v64 =>
                  Vb (lda 1 v64 h11) fun v65 =>
                  S.C I.f_reclaim_Bag_Len [v65] h11 fun v66 h13 =>
                  Vb (bin .eql v66 (Value.int IntKind.i64 0)) fun v67 =>
                  J2 v67 h13) (
                  J2 (Value.bool false) h11)) (
                J2 (Value.bool false) h11)) (
              J2 (Value.bool false) h11)) fun J1 =>
        Vb (fa 0 x1) fun v43 =>
        Vb (lda 7 v43 h10) fun v44 =>
        Vb (fa 0 w4) fun v45 =>
        Vb (lda 3 v45 h10) fun v46 =>
        And (
          S.C I.f_layout_Layout_Cell [v46, (Value.int IntKind.i64 0)] h10 fun v47 h14 =>
          lda 7 v43 h14 = some v44 ∧
          And (
            S.C I.f_machine_Machine_Word [v44, v47] h14 fun v48 h15 =>
            Vb (ext 0 v48) fun v49 =>
            Vb (ext 1 v48) fun v50 =>
            Eb (nw #[Value.int IntKind.i64 0, Value.int IntKind.u32 0, Value.int IntKind.u32 0] I.t_api_Word h15) fun v6_1 h16 =>
            Sb (sto 3 v6_1 v49 h16) fun h17 =>
            J1 v6_1 h17) (
            Eb (nw #[Value.int IntKind.i64 0, Value.int IntKind.u32 0, Value.int IntKind.u32 0] I.t_api_Word h14) fun v6_2 h18 =>
            lda 7 v43 h18 = some v44 ∧
            S.C I.f_machine_Machine_Word [v44, v47] h18 fun v48_1 h19 =>
            Vb (ext 0 v48_1) fun v49_1 =>
            Vb (ext 1 v48_1) fun v50_1 =>
            Sb (sto 3 v6_2 v49_1 h19) fun h20 =>
            J1 v6_2 h20)) (
          Eb (nw #[Value.int IntKind.i64 0, Value.int IntKind.u32 0, Value.int IntKind.u32 0] I.t_api_Word h10) fun v6_3 h21 =>
          lda 3 v45 h21 = some v46 ∧
          lda 7 v43 h21 = some v44 ∧
          S.C I.f_layout_Layout_Cell [v46, (Value.int IntKind.i64 0)] h21 fun v47_1 h22 =>
          lda 7 v43 h22 = some v44 ∧
          S.C I.f_machine_Machine_Word [v44, v47_1] h22 fun v48_2 h23 =>
          Vb (ext 0 v48_2) fun v49_2 =>
          Vb (ext 1 v48_2) fun v50_2 =>
          Sb (sto 3 v6_3 v49_2 h23) fun h24 =>
          J1 v6_3 h24))) fun J0 =>
  Vb (uno .not v13) fun v20 =>
  Br v20 (
    J0 (Value.bool true) h6) (
    Vb (uno .not v18) fun v23 =>
    Br v23 (
      J0 (Value.bool true) h6) (
      Vb (fa 7 x1) fun v26 =>
      Vb (ldc v26 h6) fun v27 =>
      Vb (ixs 11 v27 (Value.int IntKind.i64 0)) fun v28 =>
      Vb (lda 11 v28 h6) fun v29 =>
      S.C I.f_task_Task_Steps [v29] h6 fun v30 h25 =>
      Vb (bin .neq v30 (Value.int IntKind.i64 14)) fun v31 =>
      J0 v31 h25))

def F_simulcasttop_epochWorld (S : Sys) (I : Ids) (ops0 reads1 : Value) (h : Hp) (R : Value → Hp → Prop) : Prop :=
  Eb (nw (Value.cells reads1) I.t_2_uint8 h) fun reads3 h1 =>
  Eb (nw #[Value.slice none 0 0, Value.slice none 0 0, Value.slice none 0 0, Value.slice none 0 0, Value.map none, Value.slice none 0 0, Value.int IntKind.i64 0, Value.slice none 0 0, Value.slice none 0 0] I.t_task_World h1) fun v4 h2 =>
  Vb (bldS [(0, 1), (1, 1), (2, 1)] #[Value.int IntKind.i64 0, Value.int IntKind.i64 0, Value.int IntKind.i64 0] [(0, (Value.int IntKind.i64 3)), (1, (Value.int IntKind.i64 8))]) fun v13 =>
  Eb (nw #[Value.int IntKind.i64 0, Value.int IntKind.i64 0, Value.int IntKind.i64 0] I.t_layout_Layout h2) fun l6 h3 =>
  Sb (sto 3 l6 v13 h3) fun h4 =>
  Vb (lda 3 l6 h4) fun v14 =>
  S.C I.f_layout_Layout_First [v14] h4 fun v15 h5 =>
  Vb (lnS v15) fun v17 =>
  Vb (bin .eql v17 (Value.int IntKind.i64 0)) fun v18 =>
  Br v18 (
    Vb (bldS [(0, 7), (7, 1), (8, 1)] #[Value.slice none 0 0, Value.slice none 0 0, Value.slice none 0 0, Value.slice none 0 0, Value.map none, Value.slice none 0 0, Value.int IntKind.i64 0, Value.slice none 0 0, Value.slice none 0 0] []) fun v19 =>
    Sb (sto 9 v4 v19 h5) fun h6 =>
    Vb (lda 9 v4 h6) fun r0 =>
    R (.tuple #[r0, (Value.bool false)]) h6) (
    Jn1 (fun w8 h7 =>
        Vb (fa 8 w8) fun v26 =>
        Vb (ixa 4 1 v26 (Value.int IntKind.i64 0)) fun v27 =>
        Sb (sto 1 v27 (Value.int IntKind.i64 1) h7) fun h8 =>
        Vb (fa 12 w8) fun v28 =>
        Vb (ixa 4 1 v28 (Value.int IntKind.i64 0)) fun v29 =>
        Sb (sto 1 v29 (Value.int IntKind.i64 1) h8) fun h9 =>
        Vb (lda 3 l6 h9) fun v31 =>
        Vb (fa 16 w8) fun v33 =>
        Vb (lda 3 v33 h9) fun v34 =>
        S.C I.f_layout_Layout_Cell [v31, (Value.int IntKind.i64 0)] h9 fun v32 h10 =>
        lda 3 v33 h10 = some v34 ∧
        Vb (ixs 3 v15 v32) fun v35 =>
        Sb (sto 3 v35 v34 h10) fun h11 =>
        S.C I.f_machine_New [(Value.int IntKind.i64 3), v15] h11 fun v38 h12 =>
        Vb (ext 0 v38) fun v39 =>
        Vb (ext 1 v38) fun v40 =>
        Eb (nw #[Value.slice none 0 0, Value.slice none 0 0, Value.slice none 0 0, Value.slice none 0 0, Value.map none, Value.slice none 0 0, Value.int IntKind.i64 0] I.t_machine_Machine h12) fun m9 h13 =>
        Sb (sto 7 m9 v39 h13) fun h14 =>
        Vb (lda 7 m9 h14) fun v42 =>
        Vb (lda 22 w8 h14) fun v43 =>
        Vb (some (.iface I.t_simulcasttop_epochWriter v43)) fun v44 =>
        Vb (lda 3 l6 h14) fun v45 =>
        Vb (ixa 2 1 reads3 (Value.int IntKind.i64 0)) fun v46 =>
        Vb (ldc v46 h14) fun v47 =>
        Vb (bin .rem v47 (Value.int IntKind.u8 6)) fun v48 =>
        Vb (cvi .i64 v48) fun v49 =>
        Vb (bldS [(0, 3), (3, 1), (4, 1), (5, 1), (6, 1), (7, 1), (8, 1), (9, 1), (10, 1)] #[Value.int IntKind.i64 0, Value.int IntKind.i64 0, Value.int IntKind.i64 0, Value.int IntKind.i64 0, Value.int IntKind.i64 0, Value.int IntKind.i64 0, Value.int IntKind.i64 0, Value.nilIface, Value.int IntKind.i64 0, Value.int IntKind.i64 0, Value.int IntKind.i64 0] [(0, v45), (1, (Value.int IntKind.i64 2)), (2, v49)]) fun v50 =>
        Vb (some (.iface I.t_simulcasttop_epochReader v50)) fun v51 =>
        Vb (lda 3 l6 h14) fun v52 =>
        Vb (ixa 2 1 reads3 (Value.int IntKind.i64 1)) fun v53 =>
        Vb (ldc v53 h14) fun v54 =>
        Vb (bin .rem v54 (Value.int IntKind.u8 6)) fun v55 =>
        Vb (cvi .i64 v55) fun v56 =>
        Vb (bldS [(0, 3), (3, 1), (4, 1), (5, 1), (6, 1), (7, 1), (8, 1), (9, 1), (10, 1)] #[Value.int IntKind.i64 0, Value.int IntKind.i64 0, Value.int IntKind.i64 0, Value.int IntKind.i64 0, Value.int IntKind.i64 0, Value.int IntKind.i64 0, Value.int IntKind.i64 0, Value.nilIface, Value.int IntKind.i64 0, Value.int IntKind.i64 0, Value.int IntKind.i64 0] [(0, v52), (1, (Value.int IntKind.i64 3)), (2, v56)]) fun v57 =>
        Vb (some (.iface I.t_simulcasttop_epochReader v57)) fun v58 =>
        Eb (bsl #[Value.nilIface] 1 3 I.t_task_Code [(0, v44), (1, v51), (2, v58)] h14) fun v59 h15 =>
        S.C I.f_task_Make [v42, v59] h15 fun v60 h16 =>
        Vb (ext 0 v60) fun v61 =>
        Vb (ext 1 v60) fun v62 =>
        Eb (nw #[Value.slice none 0 0, Value.slice none 0 0, Value.slice none 0 0, Value.slice none 0 0, Value.map none, Value.slice none 0 0, Value.int IntKind.i64 0, Value.slice none 0 0, Value.slice none 0 0] I.t_task_World h16) fun x11 h17 =>
        Sb (sto 9 x11 v61 h17) fun h18 =>
        Jn1 (fun v5 h19 =>
            Vb (lda 9 v4 h19) fun r0 =>
            R (.tuple #[r0, v5]) h19) fun J1 =>
        Vb (lda 9 x11 h18) fun v63 =>
        Vb (bin .eql v40 (Value.int IntKind.i64 0)) fun v65 =>
        Br v65 (
          Vb (bin .eql v62 (Value.int IntKind.i64 0)) fun v68 =>
          Sb (sto 9 v4 v63 h18) fun h20 =>
          J1 v68 h20) (
          Sb (sto 9 v4 v63 h18) fun h21 =>
          J1 (Value.bool false) h21)) fun J0 =>
    Vb (lda 3 l6 h5) fun v20 =>
    And (
      Eb (bsl #[Value.int IntKind.i64 0] 1 3 I.t_int [(0, (Value.int IntKind.i64 1)), (1, (Value.int IntKind.i64 2)), (2, (Value.int IntKind.i64 3))] h5) fun v22 h22 =>
      lda 3 l6 h22 = some v20 ∧
      And (
        S.C I.f_simulcasttop_epochValue [(Value.int IntKind.i64 0), (Value.int IntKind.i64 1)] h22 fun v23 h23 =>
        lda 3 l6 h23 = some v20 ∧
        Vb (bldS [(0, 1), (1, 1), (2, 1)] #[Value.int IntKind.i64 0, Value.int IntKind.u32 0, Value.int IntKind.u32 0] [(0, v23)]) fun v24 =>
        Vb (bldS [(0, 3), (3, 1), (4, 1), (5, 1), (6, 1), (7, 1), (8, 4), (12, 4), (16, 3), (19, 1), (20, 1), (21, 1)] #[Value.int IntKind.i64 0, Value.int IntKind.i64 0, Value.int IntKind.i64 0, Value.slice none 0 0, Value.int IntKind.i64 0, Value.nilIface, Value.slice none 0 0, Value.slice none 0 0, Value.int IntKind.i64 0, Value.int IntKind.i64 0, Value.int IntKind.i64 0, Value.int IntKind.i64 0, Value.int IntKind.i64 0, Value.int IntKind.i64 0, Value.int IntKind.i64 0, Value.int IntKind.i64 0, Value.int IntKind.i64 0, Value.int IntKind.u32 0, Value.int IntKind.u32 0, Value.int IntKind.i64 0, Value.slice none 0 0, Value.bool false] [(0, v20), (1, ops0), (5, v22), (8, v24)]) fun v25 =>
        Eb (nw #[Value.int IntKind.i64 0, Value.int IntKind.i64 0, Value.int IntKind.i64 0, Value.slice none 0 0, Value.int IntKind.i64 0, Value.nilIface, Value.slice none 0 0, Value.slice none 0 0, Value.int IntKind.i64 0, Value.int IntKind.i64 0, Value.int IntKind.i64 0, Value.int IntKind.i64 0, Value.int IntKind.i64 0, Value.int IntKind.i64 0, Value.int IntKind.i64 0, Value.int IntKind.i64 0, Value.int IntKind.i64 0, Value.int IntKind.u32 0, Value.int IntKind.u32 0, Value.int IntKind.i64 0, Value.slice none 0 0, Value.bool false] I.t_simulcasttop_epochWriter h23) fun w8_1 h24 =>
        lda 3 l6 h24 = some v20 ∧
        Sb (sto 22 w8_1 v25 h24) fun h25 =>
        J0 w8_1 h25) (
        Eb (nw #[Value.int IntKind.i64 0, Value.int IntKind.i64 0, Value.int IntKind.i64 0, Value.slice none 0 0, Value.int IntKind.i64 0, Value.nilIface, Value.slice none 0 0, Value.slice none 0 0, Value.int IntKind.i64 0, Value.int IntKind.i64 0, Value.int IntKind.i64 0, Value.int IntKind.i64 0, Value.int IntKind.i64 0, Value.int IntKind.i64 0, Value.int IntKind.i64 0, Value.int IntKind.i64 0, Value.int IntKind.i64 0, Value.int IntKind.u32 0, Value.int IntKind.u32 0, Value.int IntKind.i64 0, Value.slice none 0 0, Value.bool false] I.t_simulcasttop_epochWriter h22) fun w8_2 h26 =>
        lda 3 l6 h26 = some v20 ∧
        S.C I.f_simulcasttop_epochValue [(Value.int IntKind.i64 0), (Value.int IntKind.i64 1)] h26 fun v23_1 h27 =>
        lda 3 l6 h27 = some v20 ∧
        Vb (bldS [(0, 1), (1, 1), (2, 1)] #[Value.int IntKind.i64 0, Value.int IntKind.u32 0, Value.int IntKind.u32 0] [(0, v23_1)]) fun v24_1 =>
        Vb (bldS [(0, 3), (3, 1), (4, 1), (5, 1), (6, 1), (7, 1), (8, 4), (12, 4), (16, 3), (19, 1), (20, 1), (21, 1)] #[Value.int IntKind.i64 0, Value.int IntKind.i64 0, Value.int IntKind.i64 0, Value.slice none 0 0, Value.int IntKind.i64 0, Value.nilIface, Value.slice none 0 0, Value.slice none 0 0, Value.int IntKind.i64 0, Value.int IntKind.i64 0, Value.int IntKind.i64 0, Value.int IntKind.i64 0, Value.int IntKind.i64 0, Value.int IntKind.i64 0, Value.int IntKind.i64 0, Value.int IntKind.i64 0, Value.int IntKind.i64 0, Value.int IntKind.u32 0, Value.int IntKind.u32 0, Value.int IntKind.i64 0, Value.slice none 0 0, Value.bool false] [(0, v20), (1, ops0), (5, v22), (8, v24_1)]) fun v25_1 =>
        Sb (sto 22 w8_2 v25_1 h27) fun h28 =>
        J0 w8_2 h28)) (
    And (
      S.C I.f_simulcasttop_epochValue [(Value.int IntKind.i64 0), (Value.int IntKind.i64 1)] h5 fun v23_2 h29 =>
      lda 3 l6 h29 = some v20 ∧
      Vb (bldS [(0, 1), (1, 1), (2, 1)] #[Value.int IntKind.i64 0, Value.int IntKind.u32 0, Value.int IntKind.u32 0] [(0, v23_2)]) fun v24_2 =>
      And (
        Eb (bsl #[Value.int IntKind.i64 0] 1 3 I.t_int [(0, (Value.int IntKind.i64 1)), (1, (Value.int IntKind.i64 2)), (2, (Value.int IntKind.i64 3))] h29) fun v22_1 h30 =>
        lda 3 l6 h30 = some v20 ∧
        Vb (bldS [(0, 3), (3, 1), (4, 1), (5, 1), (6, 1), (7, 1), (8, 4), (12, 4), (16, 3), (19, 1), (20, 1), (21, 1)] #[Value.int IntKind.i64 0, Value.int IntKind.i64 0, Value.int IntKind.i64 0, Value.slice none 0 0, Value.int IntKind.i64 0, Value.nilIface, Value.slice none 0 0, Value.slice none 0 0, Value.int IntKind.i64 0, Value.int IntKind.i64 0, Value.int IntKind.i64 0, Value.int IntKind.i64 0, Value.int IntKind.i64 0, Value.int IntKind.i64 0, Value.int IntKind.i64 0, Value.int IntKind.i64 0, Value.int IntKind.i64 0, Value.int IntKind.u32 0, Value.int IntKind.u32 0, Value.int IntKind.i64 0, Value.slice none 0 0, Value.bool false] [(0, v20), (1, ops0), (5, v22_1), (8, v24_2)]) fun v25_2 =>
        Eb (nw #[Value.int IntKind.i64 0, Value.int IntKind.i64 0, Value.int IntKind.i64 0, Value.slice none 0 0, Value.int IntKind.i64 0, Value.nilIface, Value.slice none 0 0, Value.slice none 0 0, Value.int IntKind.i64 0, Value.int IntKind.i64 0, Value.int IntKind.i64 0, Value.int IntKind.i64 0, Value.int IntKind.i64 0, Value.int IntKind.i64 0, Value.int IntKind.i64 0, Value.int IntKind.i64 0, Value.int IntKind.i64 0, Value.int IntKind.u32 0, Value.int IntKind.u32 0, Value.int IntKind.i64 0, Value.slice none 0 0, Value.bool false] I.t_simulcasttop_epochWriter h30) fun w8_3 h31 =>
        lda 3 l6 h31 = some v20 ∧
        Sb (sto 22 w8_3 v25_2 h31) fun h32 =>
        J0 w8_3 h32) (
        Eb (nw #[Value.int IntKind.i64 0, Value.int IntKind.i64 0, Value.int IntKind.i64 0, Value.slice none 0 0, Value.int IntKind.i64 0, Value.nilIface, Value.slice none 0 0, Value.slice none 0 0, Value.int IntKind.i64 0, Value.int IntKind.i64 0, Value.int IntKind.i64 0, Value.int IntKind.i64 0, Value.int IntKind.i64 0, Value.int IntKind.i64 0, Value.int IntKind.i64 0, Value.int IntKind.i64 0, Value.int IntKind.i64 0, Value.int IntKind.u32 0, Value.int IntKind.u32 0, Value.int IntKind.i64 0, Value.slice none 0 0, Value.bool false] I.t_simulcasttop_epochWriter h29) fun w8_4 h33 =>
        lda 3 l6 h33 = some v20 ∧
        Eb (bsl #[Value.int IntKind.i64 0] 1 3 I.t_int [(0, (Value.int IntKind.i64 1)), (1, (Value.int IntKind.i64 2)), (2, (Value.int IntKind.i64 3))] h33) fun v22_2 h34 =>
        lda 3 l6 h34 = some v20 ∧
        Vb (bldS [(0, 3), (3, 1), (4, 1), (5, 1), (6, 1), (7, 1), (8, 4), (12, 4), (16, 3), (19, 1), (20, 1), (21, 1)] #[Value.int IntKind.i64 0, Value.int IntKind.i64 0, Value.int IntKind.i64 0, Value.slice none 0 0, Value.int IntKind.i64 0, Value.nilIface, Value.slice none 0 0, Value.slice none 0 0, Value.int IntKind.i64 0, Value.int IntKind.i64 0, Value.int IntKind.i64 0, Value.int IntKind.i64 0, Value.int IntKind.i64 0, Value.int IntKind.i64 0, Value.int IntKind.i64 0, Value.int IntKind.i64 0, Value.int IntKind.i64 0, Value.int IntKind.u32 0, Value.int IntKind.u32 0, Value.int IntKind.i64 0, Value.slice none 0 0, Value.bool false] [(0, v20), (1, ops0), (5, v22_2), (8, v24_2)]) fun v25_3 =>
        Sb (sto 22 w8_4 v25_3 h34) fun h35 =>
        J0 w8_4 h35)) (
      Eb (nw #[Value.int IntKind.i64 0, Value.int IntKind.i64 0, Value.int IntKind.i64 0, Value.slice none 0 0, Value.int IntKind.i64 0, Value.nilIface, Value.slice none 0 0, Value.slice none 0 0, Value.int IntKind.i64 0, Value.int IntKind.i64 0, Value.int IntKind.i64 0, Value.int IntKind.i64 0, Value.int IntKind.i64 0, Value.int IntKind.i64 0, Value.int IntKind.i64 0, Value.int IntKind.i64 0, Value.int IntKind.i64 0, Value.int IntKind.u32 0, Value.int IntKind.u32 0, Value.int IntKind.i64 0, Value.slice none 0 0, Value.bool false] I.t_simulcasttop_epochWriter h5) fun w8_5 h36 =>
      lda 3 l6 h36 = some v20 ∧
      And (
        Eb (bsl #[Value.int IntKind.i64 0] 1 3 I.t_int [(0, (Value.int IntKind.i64 1)), (1, (Value.int IntKind.i64 2)), (2, (Value.int IntKind.i64 3))] h36) fun v22_3 h37 =>
        lda 3 l6 h37 = some v20 ∧
        S.C I.f_simulcasttop_epochValue [(Value.int IntKind.i64 0), (Value.int IntKind.i64 1)] h37 fun v23_3 h38 =>
        lda 3 l6 h38 = some v20 ∧
        Vb (bldS [(0, 1), (1, 1), (2, 1)] #[Value.int IntKind.i64 0, Value.int IntKind.u32 0, Value.int IntKind.u32 0] [(0, v23_3)]) fun v24_3 =>
        Vb (bldS [(0, 3), (3, 1), (4, 1), (5, 1), (6, 1), (7, 1), (8, 4), (12, 4), (16, 3), (19, 1), (20, 1), (21, 1)] #[Value.int IntKind.i64 0, Value.int IntKind.i64 0, Value.int IntKind.i64 0, Value.slice none 0 0, Value.int IntKind.i64 0, Value.nilIface, Value.slice none 0 0, Value.slice none 0 0, Value.int IntKind.i64 0, Value.int IntKind.i64 0, Value.int IntKind.i64 0, Value.int IntKind.i64 0, Value.int IntKind.i64 0, Value.int IntKind.i64 0, Value.int IntKind.i64 0, Value.int IntKind.i64 0, Value.int IntKind.i64 0, Value.int IntKind.u32 0, Value.int IntKind.u32 0, Value.int IntKind.i64 0, Value.slice none 0 0, Value.bool false] [(0, v20), (1, ops0), (5, v22_3), (8, v24_3)]) fun v25_4 =>
        Sb (sto 22 w8_5 v25_4 h38) fun h39 =>
        J0 w8_5 h39) (
        S.C I.f_simulcasttop_epochValue [(Value.int IntKind.i64 0), (Value.int IntKind.i64 1)] h36 fun v23_4 h40 =>
        lda 3 l6 h40 = some v20 ∧
        Vb (bldS [(0, 1), (1, 1), (2, 1)] #[Value.int IntKind.i64 0, Value.int IntKind.u32 0, Value.int IntKind.u32 0] [(0, v23_4)]) fun v24_4 =>
        Eb (bsl #[Value.int IntKind.i64 0] 1 3 I.t_int [(0, (Value.int IntKind.i64 1)), (1, (Value.int IntKind.i64 2)), (2, (Value.int IntKind.i64 3))] h40) fun v22_4 h41 =>
        lda 3 l6 h41 = some v20 ∧
        Vb (bldS [(0, 3), (3, 1), (4, 1), (5, 1), (6, 1), (7, 1), (8, 4), (12, 4), (16, 3), (19, 1), (20, 1), (21, 1)] #[Value.int IntKind.i64 0, Value.int IntKind.i64 0, Value.int IntKind.i64 0, Value.slice none 0 0, Value.int IntKind.i64 0, Value.nilIface, Value.slice none 0 0, Value.slice none 0 0, Value.int IntKind.i64 0, Value.int IntKind.i64 0, Value.int IntKind.i64 0, Value.int IntKind.i64 0, Value.int IntKind.i64 0, Value.int IntKind.i64 0, Value.int IntKind.i64 0, Value.int IntKind.i64 0, Value.int IntKind.i64 0, Value.int IntKind.u32 0, Value.int IntKind.u32 0, Value.int IntKind.i64 0, Value.slice none 0 0, Value.bool false] [(0, v20), (1, ops0), (5, v22_4), (8, v24_4)]) fun v25_5 =>
        Sb (sto 22 w8_5 v25_5 h41) fun h42 =>
        J0 w8_5 h42))))

def F_task_World_Step (S : Sys) (I : Ids) (w0 p1 : Value) (h : Hp) (R : Value → Hp → Prop) : Prop :=
  Eb (nw (Value.cells w0) I.t_task_World h) fun w2 h1 =>
  Eb (nw (Value.cells p1) I.t_api_Pick h1) fun p3 h2 =>
  Eb (nw #[Value.slice none 0 0, Value.slice none 0 0, Value.slice none 0 0, Value.slice none 0 0, Value.map none, Value.slice none 0 0, Value.int IntKind.i64 0, Value.slice none 0 0, Value.slice none 0 0] I.t_task_World h2) fun v4 h3 =>
  Jn0 (fun h4 =>
      Vb (lda 9 w2 h4) fun v43 =>
      Sb (sto 9 v4 v43 h4) fun h5 =>
      Vb (lda 9 v4 h5) fun r0 =>
      R (.tuple #[r0, (Value.bool false)]) h5) fun J0 =>
  Vb (lda 9 w2 h3) fun v7 =>
  S.C I.f_task_World_dead [v7] h3 fun v8 h6 =>
  Br v8 (
    J0 h6) (
    Vb (fa 0 p3) fun v10 =>
    Vb (ldc v10 h6) fun v11 =>
    Vb (bin .eql v11 (Value.int IntKind.i64 2)) fun v12 =>
    Br v12 (
      Vb (fa 0 w2) fun v13 =>
      Vb (lda 7 v13 h6) fun v14 =>
      Vb (fa 2 p3) fun v15 =>
      Vb (ldc v15 h6) fun v16 =>
      S.C I.f_machine_Machine_Crash [v14, v16] h6 fun v17 h7 =>
      Vb (bldS [(0, 7), (7, 1), (8, 1)] #[Value.slice none 0 0, Value.slice none 0 0, Value.slice none 0 0, Value.slice none 0 0, Value.map none, Value.slice none 0 0, Value.int IntKind.i64 0, Value.slice none 0 0, Value.slice none 0 0] [(0, v17)]) fun v18 =>
      Sb (sto 9 v4 v18 h7) fun h8 =>
      Vb (lda 9 v4 h8) fun r0 =>
      R (.tuple #[r0, (Value.bool true)]) h8) (
      Vb (lda 9 w2 h6) fun v20 =>
      Vb (fa 1 p3) fun v21 =>
      Vb (ldc v21 h6) fun v22 =>
      S.C I.f_task_World_takes [v20, v22] h6 fun v23 h9 =>
      Vb (uno .not v23) fun v24 =>
      Br v24 (
        J0 h9) (
        Vb (fa 0 p3) fun v26 =>
        Vb (ldc v26 h9) fun v27 =>
        Vb (bin .eql v27 (Value.int IntKind.i64 0)) fun v28 =>
        Br v28 (
          Vb (lda 9 w2 h9) fun v29 =>
          Vb (fa 1 p3) fun v30 =>
          Vb (ldc v30 h9) fun v31 =>
          Vb (fa 2 p3) fun v32 =>
          Vb (ldc v32 h9) fun v33 =>
          S.C I.f_task_World_step [v29, v31, v33] h9 fun v34 h10 =>
          Sb (sto 9 v4 v34 h10) fun h11 =>
          Vb (lda 9 v4 h11) fun r0 =>
          R (.tuple #[r0, (Value.bool true)]) h11) (
          Vb (fa 0 p3) fun v36 =>
          Vb (ldc v36 h9) fun v37 =>
          Vb (bin .eql v37 (Value.int IntKind.i64 1)) fun v38 =>
          Br v38 (
            Vb (lda 9 w2 h9) fun v39 =>
            Vb (fa 1 p3) fun v40 =>
            Vb (ldc v40 h9) fun v41 =>
            S.C I.f_task_World_stop [v39, v41] h9 fun v42 h12 =>
            Sb (sto 9 v4 v42 h12) fun h13 =>
            Vb (lda 9 v4 h13) fun r0 =>
            R (.tuple #[r0, (Value.bool true)]) h13) (
            J0 h9)))))

def F_simulcasttop_epochSafe (S : Sys) (I : Ids) (x0 : Value) (h : Hp) (R : Value → Hp → Prop) : Prop :=
  Eb (nw (Value.cells x0) I.t_task_World h) fun x1 h1 =>
  Vb (fa 7 x1) fun v12 =>
  Vb (ldc v12 h1) fun v13 =>
  Vb (ixs 11 v13 (Value.int IntKind.i64 0)) fun v14 =>
  Vb (lda 11 v14 h1) fun v15 =>
  S.C I.f_task_Task_Code [v15] h1 fun v16 h2 =>
  Vb (tas I.t_simulcasttop_epochWriter (Value.agg #[Value.int IntKind.i64 0, Value.int IntKind.i64 0, Value.int IntKind.i64 0, Value.slice none 0 0, Value.int IntKind.i64 0, Value.nilIface, Value.slice none 0 0, Value.slice none 0 0, Value.int IntKind.i64 0, Value.int IntKind.i64 0, Value.int IntKind.i64 0, Value.int IntKind.i64 0, Value.int IntKind.i64 0, Value.int IntKind.i64 0, Value.int IntKind.i64 0, Value.int IntKind.i64 0, Value.int IntKind.i64 0, Value.int IntKind.u32 0, Value.int IntKind.u32 0, Value.int IntKind.i64 0, Value.slice none 0 0, Value.bool false]) true v16) fun v17 =>
  Vb (ext 0 v17) fun v18 =>
  Vb (ext 1 v17) fun v19 =>
  Eb (nw #[Value.int IntKind.i64 0, Value.int IntKind.i64 0, Value.int IntKind.i64 0, Value.slice none 0 0, Value.int IntKind.i64 0, Value.nilIface, Value.slice none 0 0, Value.slice none 0 0, Value.int IntKind.i64 0, Value.int IntKind.i64 0, Value.int IntKind.i64 0, Value.int IntKind.i64 0, Value.int IntKind.i64 0, Value.int IntKind.i64 0, Value.int IntKind.i64 0, Value.int IntKind.i64 0, Value.int IntKind.i64 0, Value.int IntKind.u32 0, Value.int IntKind.u32 0, Value.int IntKind.i64 0, Value.slice none 0 0, Value.bool false] I.t_simulcasttop_epochWriter h2) fun w3 h3 =>
  Sb (sto 22 w3 v18 h3) fun h4 =>
  Jn1 (fun v25 h5 =>
      Br v25 (
        R (Value.bool false) h5) (
        Vb (fa 7 x1) fun v26 =>
        Vb (ldc v26 h5) fun v27 =>
        Vb (slc 11 v27 (some (Value.int IntKind.i64 1)) none none) fun v28 =>
        Vb (lnS v28) fun v29 =>
        Lp1 (Value.int IntKind.i64 0) h5 fun v30 h6 again0 =>
        Vb (bin .lss v30 v29) fun v31 =>
        Br v31 (
          Jn0 (fun h7 =>
              Vb (bin .add v30 (Value.int IntKind.i64 1)) fun v65 =>
              again0 v65 h7) fun J1 =>
          Vb (ixs 11 v28 v30) fun v32 =>
          Vb (lda 11 v32 h6) fun v33 =>
          Eb (nw #[Value.nilIface, Value.nilFunc, Value.int IntKind.i64 0, Value.int IntKind.i64 0, Value.int IntKind.i64 0, Value.int IntKind.u32 0, Value.int IntKind.u32 0, Value.int IntKind.i64 0, Value.int IntKind.u32 0, Value.int IntKind.u32 0, Value.slice none 0 0] I.t_task_Task h6) fun t6 h8 =>
          Sb (sto 11 t6 v33 h8) fun h9 =>
          Vb (lda 11 t6 h9) fun v35 =>
          S.C I.f_task_Task_Code [v35] h9 fun v36 h10 =>
          Vb (tas I.t_simulcasttop_epochReader (Value.agg #[Value.int IntKind.i64 0, Value.int IntKind.i64 0, Value.int IntKind.i64 0, Value.int IntKind.i64 0, Value.int IntKind.i64 0, Value.int IntKind.i64 0, Value.int IntKind.i64 0, Value.nilIface, Value.int IntKind.i64 0, Value.int IntKind.i64 0, Value.int IntKind.i64 0]) true v36) fun v37 =>
          Vb (ext 0 v37) fun v38 =>
          Vb (ext 1 v37) fun v39 =>
          Eb (nw #[Value.int IntKind.i64 0, Value.int IntKind.i64 0, Value.int IntKind.i64 0, Value.int IntKind.i64 0, Value.int IntKind.i64 0, Value.int IntKind.i64 0, Value.int IntKind.i64 0, Value.nilIface, Value.int IntKind.i64 0, Value.int IntKind.i64 0, Value.int IntKind.i64 0] I.t_simulcasttop_epochReader h10) fun r7 h11 =>
          Sb (sto 11 r7 v38 h11) fun h12 =>
          Vb (uno .not v39) fun v41 =>
          Br v41 (
            R (Value.bool false) h12) (
            Vb (fa 10 r7) fun v42 =>
            Vb (ldc v42 h12) fun v43 =>
            Vb (bin .eql v43 (Value.int IntKind.i64 0)) fun v44 =>
            Br v44 (
              J1 h12) (
              Vb (fa 10 r7) fun v45 =>
              Vb (ldc v45 h12) fun v46 =>
              Vb (bin .sub v46 (Value.int IntKind.i64 1)) fun v47 =>
              Vb (bin .rem v47 (Value.int IntKind.i64 16)) fun v48 =>
              Vb (fa 10 r7) fun v49 =>
              Vb (ldc v49 h12) fun v50 =>
              Vb (bin .sub v50 (Value.int IntKind.i64 1)) fun v51 =>
              Vb (bin .quo v51 (Value.int IntKind.i64 16)) fun v52 =>
              Jn1 (fun v64 h13 =>
                  Br v64 (
                    R (Value.bool false) h13) (
                    J1 h13)) fun J2 =>
              Vb (fa 8 w3) fun v54 =>
              Vb (ixa 4 1 v54 v48) fun v55 =>
              Vb (ldc v55 h12) fun v56 =>
              Vb (bin .neq v56 v52) fun v58 =>
              Br v58 (
                J2 (Value.bool true) h12) (
                Vb (fa 7 w3) fun v60 =>
                Vb (ldc v60 h12) fun v61 =>
                S.C I.f_slices_Contains_int_int [v61, v48] h12 fun v63 h14 =>
                J2 v63 h14)))) (
          R (Value.bool true) h6))) fun J0 =>
  Vb (uno .not v19) fun v21 =>
  Br v21 (
    J0 (Value.bool true) h4) (
    Vb (fa 21 w3) fun v23 =>
    Vb (ldc v23 h4) fun v24 =>
    J0 v24 h4)

def F_task_Task_Done (S : Sys) (I : Ids) (t0 : Value) (h : Hp) (R : Value → Hp → Prop) : Prop :=
  Eb (nw (Value.cells t0) I.t_task_Task h) fun t1 h1 =>
  Vb (fa 1 t1) fun v3 =>
  Vb (ldc v3 h1) fun v4 =>
  Vb (pos? (eqF v4 (Value.nilFunc))) fun v5 =>
  R v5 h1

def F_task_Task_Code (S : Sys) (I : Ids) (t0 : Value) (h : Hp) (R : Value → Hp → Prop) : Prop :=
  Eb (nw (Value.cells t0) I.t_task_Task h) fun t1 h1 =>
  Vb (fa 0 t1) fun v3 =>
  Vb (ldc v3 h1) fun v4 =>
  R v4 h1

def F_reclaim_Bag_Sweep (S : Sys) (I : Ids) (b0 announced1 held2 : Value) (h : Hp) (R : Value → Hp → Prop) : Prop :=
  Eb (nw (Value.cells b0) I.t_reclaim_Bag h) fun b3 h1 =>
  Eb (nw #[Value.slice none 0 0] I.t_reclaim_Bag h1) fun v6 h2 =>
  Vb (fa 0 b3) fun v12 =>
  Vb (ldc v12 h2) fun v13 =>
  Vb (lnS v13) fun v14 =>
  Lp3 (Value.slice none 0 0) (Value.slice none 0 0) (Value.int IntKind.i64 0) h2 fun kept8 gone9 v15 h3 again0 =>
  Vb (bin .lss v15 v14) fun v16 =>
  Br v16 (
    Jn2 (fun kept8_1 gone9_1 h4 =>
        Vb (bin .add v15 (Value.int IntKind.i64 1)) fun v32 =>
        again0 kept8_1 gone9_1 v32 h4) fun J0 =>
    Vb (ixs 3 v13 v15) fun v17 =>
    Vb (lda 3 v17 h3) fun v18 =>
    Eb (nw #[Value.int IntKind.i64 0, Value.int IntKind.i64 0, Value.int IntKind.i64 0] I.t_reclaim_Item h3) fun i11 h5 =>
    Sb (sto 3 i11 v18 h5) fun h6 =>
    Vb (lda 3 i11 h6) fun v19 =>
    S.C I.f_reclaim_Item_way [v19, announced1, held2] h6 fun v22 h7 =>
    Br v22 (
      Vb (lda 3 i11 h7) fun v24 =>
      Eb (bsl #[Value.int IntKind.i64 0, Value.int IntKind.i64 0, Value.int IntKind.i64 0] 3 1 I.t_reclaim_Item [(0, v24)] h7) fun v25 h8 =>
      Ap I.t_reclaim_Item #[Value.int IntKind.i64 0, Value.int IntKind.i64 0, Value.int IntKind.i64 0] 3 24 kept8 v25 h8 fun v26 h9 =>
      J0 v26 gone9 h9) (
      Vb (fa 0 i11) fun v28 =>
      Vb (ldc v28 h7) fun v29 =>
      Eb (bsl #[Value.int IntKind.i64 0] 1 1 I.t_int [(0, v29)] h7) fun v30 h10 =>
      Ap I.t_int #[Value.int IntKind.i64 0] 1 8 gone9 v30 h10 fun v31 h11 =>
      J0 kept8 v31 h11)) (
    S.C I.f_slices_Sort_int_int [gone9] h3 fun v34 h12 =>
    Vb (bldS [(0, 1)] #[Value.slice none 0 0] [(0, kept8)]) fun v36 =>
    Sb (sto 1 v6 v36 h12) fun h13 =>
    Vb (lda 1 v6 h13) fun r0 =>
    R (.tuple #[r0, gone9]) h13)

def F_reclaim_Bag_Len (S : Sys) (I : Ids) (b0 : Value) (h : Hp) (R : Value → Hp → Prop) : Prop :=
  Eb (nw (Value.cells b0) I.t_reclaim_Bag h) fun b1 h1 =>
  Vb (fa 0 b1) fun v3 =>
  Vb (ldc v3 h1) fun v4 =>
  Vb (lnS v4) fun v5 =>
  R v5 h1

def F_task_World_Alone (S : Sys) (I : Ids) (w0 t1 most2 : Value) (h : Hp) (R : Value → Hp → Prop) : Prop :=
  Eb (nw (Value.cells w0) I.t_task_World h) fun w3 h1 =>
  Eb (nw #[Value.slice none 0 0, Value.slice none 0 0, Value.slice none 0 0, Value.slice none 0 0, Value.map none, Value.slice none 0 0, Value.int IntKind.i64 0, Value.slice none 0 0, Value.slice none 0 0] I.t_task_World h1) fun v6 h2 =>
  Jn1 (fun v24 h3 =>
      Br v24 (
        Vb (lda 9 w3 h3) fun v25 =>
        Sb (sto 9 v6 v25 h3) fun h4 =>
        Vb (lda 9 v6 h4) fun r0 =>
        R (.tuple #[r0, (Value.bool false)]) h4) (
        Jn0 (fun h5 =>
            Vb (lda 9 w3 h5) fun v41 =>
            Vb (fa 7 w3) fun v42 =>
            Vb (ldc v42 h5) fun v43 =>
            Vb (bin .sub t1 (Value.int IntKind.i64 1)) fun v45 =>
            Vb (ixs 11 v43 v45) fun v46 =>
            Vb (lda 11 v46 h5) fun v47 =>
            S.C I.f_task_Task_Done [v47] h5 fun v48 h6 =>
            lda 9 w3 h6 = some v41 ∧
            Sb (sto 9 v6 v41 h6) fun h7 =>
            Vb (lda 9 v6 h7) fun r0 =>
            R (.tuple #[r0, v48]) h7) fun J1 =>
        Vb (mx most2 (Value.int IntKind.i64 0)) fun v27 =>
        Lp1 (Value.int IntKind.i64 0) h3 fun v28 h8 again0 =>
        Vb (bin .lss v28 v27) fun v29 =>
        Br v29 (
          Vb (lda 9 w3 h8) fun v31 =>
          Vb (bldS [(0, 1), (1, 1), (2, 1)] #[Value.int IntKind.i64 0, Value.int IntKind.i64 0, Value.int IntKind.i64 0] [(0, (Value.int IntKind.i64 0)), (1, t1)]) fun v33 =>
          S.C I.f_task_World_Step [v31, v33] h8 fun v34 h9 =>
          Vb (ext 0 v34) fun v35 =>
          Vb (ext 1 v34) fun v36 =>
          Eb (nw #[Value.slice none 0 0, Value.slice none 0 0, Value.slice none 0 0, Value.slice none 0 0, Value.map none, Value.slice none 0 0, Value.int IntKind.i64 0, Value.slice none 0 0, Value.slice none 0 0] I.t_task_World h9) fun next8 h10 =>
          Sb (sto 9 next8 v35 h10) fun h11 =>
          Vb (uno .not v36) fun v38 =>
          Br v38 (
            J1 h11) (
            Vb (lda 9 next8 h11) fun v39 =>
            Sb (sto 9 w3 v39 h11) fun h12 =>
            Vb (bin .add v28 (Value.int IntKind.i64 1)) fun v40 =>
            again0 v40 h12)) (
          J1 h8))) fun J0 =>
  Vb (bin .lss t1 (Value.int IntKind.i64 1)) fun v11 =>
  Br v11 (
    J0 (Value.bool true) h2) (
    Vb (fa 7 w3) fun v14 =>
    Vb (ldc v14 h2) fun v15 =>
    Vb (lnS v15) fun v16 =>
    Vb (bin .gtr t1 v16) fun v17 =>
    Br v17 (
      J0 (Value.bool true) h2) (
      Vb (lda 9 w3 h2) fun v20 =>
      Vb (bin .sub t1 (Value.int IntKind.i64 1)) fun v22 =>
      S.C I.f_task_World_stopped [v20, v22] h2 fun v23 h13 =>
      J0 v23 h13))

def F_task_Task_Steps (S : Sys) (I : Ids) (t0 : Value) (h : Hp) (R : Value → Hp → Prop) : Prop :=
  Eb (nw (Value.cells t0) I.t_task_Task h) fun t1 h1 =>
  Vb (fa 10 t1) fun v3 =>
  Vb (ldc v3 h1) fun v4 =>
  Vb (lnS v4) fun v5 =>
  R v5 h1

def F_machine_Machine_Word (S : Sys) (I : Ids) (m0 at1 : Value) (h : Hp) (R : Value → Hp → Prop) : Prop :=
  Eb (nw (Value.cells m0) I.t_machine_Machine h) fun m2 h1 =>
  Eb (nw #[Value.int IntKind.i64 0, Value.int IntKind.u32 0, Value.int IntKind.u32 0] I.t_api_Word h1) fun v4 h2 =>
  Vb (fa 0 m2) fun v6 =>
  Vb (lda 2 v6 h2) fun v7 =>
  S.C I.f_memory_Memory_Last [v7, at1] h2 fun v9 h3 =>
  Vb (ext 0 v9) fun v10 =>
  Vb (ext 1 v9) fun v11 =>
  Sb (sto 3 v4 v10 h3) fun h4 =>
  Vb (lda 3 v4 h4) fun r0 =>
  R (.tuple #[r0, v11]) h4

def F_layout_Layout_Cell (S : Sys) (I : Ids) (l0 i1 : Value) (h : Hp) (R : Value → Hp → Prop) : Prop :=
  Eb (nw (Value.cells l0) I.t_layout_Layout h) fun l2 h1 =>
  Vb (lda 3 l2 h1) fun v5 =>
  S.C I.f_layout_Layout_at [v5, (Value.int IntKind.i64 3), i1, (Value.int IntKind.i64 0)] h1 fun v7 h2 =>
  R v7 h2

def F_layout_Layout_First (S : Sys) (I : Ids) (l0 : Value) (h : Hp) (R : Value → Hp → Prop) : Prop :=
  Eb (nw (Value.cells l0) I.t_layout_Layout h) fun l1 h1 =>
  Vb (lda 3 l1 h1) fun v6 =>
  S.C I.f_layout_Layout_right [v6] h1 fun v7 h2 =>
  Vb (uno .not v7) fun v8 =>
  Br v8 (
    R (Value.slice none 0 0) h2) (
    Vb (lda 3 l1 h2) fun v9 =>
    S.C I.f_layout_Layout_Size [v9] h2 fun v10 h3 =>
    Eb (msl #[Value.int IntKind.i64 0, Value.int IntKind.u32 0, Value.int IntKind.u32 0] 3 16 I.t_api_Word v10 v10 h3) fun v11 h4 =>
    Vb (lda 3 l1 h4) fun v13 =>
    S.C I.f_layout_Layout_Era [v13] h4 fun v14 h5 =>
    Vb (ixs 3 v11 v14) fun v15 =>
    Vb (fa 0 v15) fun v16 =>
    Sb (sto 1 v16 (Value.int IntKind.i64 1) h5) fun h6 =>
    Lp1 (Value.int IntKind.i64 1) h6 fun t4 h7 again0 =>
    Vb (fa 0 l1) fun v18 =>
    Vb (ldc v18 h7) fun v19 =>
    Vb (bin .leq t4 v19) fun v20 =>
    Br v20 (
      Vb (lda 3 l1 h7) fun v24 =>
      S.C I.f_layout_Layout_Slot [v24, t4] h7 fun v26 h8 =>
      Vb (ixs 3 v11 v26) fun v27 =>
      Vb (fa 0 v27) fun v28 =>
      Sb (sto 1 v28 (Value.int IntKind.i64 2) h8) fun h9 =>
      Vb (bin .add t4 (Value.int IntKind.i64 1)) fun v22 =>
      again0 v22 h9) (
      Vb (fa 2 l1) fun v29 =>
      Vb (ldc v29 h7) fun v30 =>
      Lp1 (Value.int IntKind.i64 0) h7 fun v31 h10 again1 =>
      Vb (bin .lss v31 v30) fun v32 =>
      Br v32 (
        Vb (lda 3 l1 h10) fun v35 =>
        S.C I.f_layout_Layout_Block [v35, v31] h10 fun v37 h11 =>
        Vb (ixs 3 v11 v37) fun v38 =>
        Vb (fa 0 v38) fun v39 =>
        Sb (sto 1 v39 (Value.int IntKind.i64 2) h11) fun h12 =>
        Vb (bin .add v31 (Value.int IntKind.i64 1)) fun v40 =>
        again1 v40 h12) (
        R v11 h10)))

def F_simulcasttop_epochValue (S : Sys) (I : Ids) (block0 gen1 : Value) (h : Hp) (R : Value → Hp → Prop) : Prop :=
  Vb (bin .mul gen1 (Value.int IntKind.i64 16)) fun v6 =>
  Vb (bin .add v6 block0) fun v8 =>
  Vb (bin .add v8 (Value.int IntKind.i64 1)) fun v9 =>
  R v9 h

def F_machine_New (S : Sys) (I : Ids) (threads0 w1 : Value) (h : Hp) (R : Value → Hp → Prop) : Prop :=
  Eb (nw #[Value.slice none 0 0, Value.slice none 0 0, Value.slice none 0 0, Value.slice none 0 0, Value.map none, Value.slice none 0 0, Value.int IntKind.i64 0] I.t_machine_Machine h) fun v4 h1 =>
  S.C I.f_memory_New [threads0, w1] h1 fun v12 h2 =>
  Vb (ext 0 v12) fun v13 =>
  Vb (ext 1 v12) fun v14 =>
  Eb (nw #[Value.slice none 0 0, Value.slice none 0 0] I.t_memory_Memory h2) fun m6 h3 =>
  Sb (sto 2 m6 v13 h3) fun h4 =>
  Vb (bin .neq v14 (Value.int IntKind.i64 0)) fun v16 =>
  Br v16 (
    Vb (bldS [(0, 2), (2, 3), (5, 1), (6, 1)] #[Value.slice none 0 0, Value.slice none 0 0, Value.slice none 0 0, Value.slice none 0 0, Value.map none, Value.slice none 0 0, Value.int IntKind.i64 0] []) fun v17 =>
    Sb (sto 7 v4 v17 h4) fun h5 =>
    Vb (lda 7 v4 h5) fun r0 =>
    R (.tuple #[r0, v14]) h5) (
    S.C I.f_line_New [w1] h4 fun v21 h6 =>
    Vb (ext 0 v21) fun v22 =>
    Vb (ext 1 v21) fun v23 =>
    Eb (nw #[Value.slice none 0 0, Value.slice none 0 0, Value.map none] I.t_line_Lines h6) fun l8 h7 =>
    Sb (sto 3 l8 v22 h7) fun h8 =>
    Vb (bin .neq v23 (Value.int IntKind.i64 0)) fun v25 =>
    Br v25 (
      Vb (bldS [(0, 2), (2, 3), (5, 1), (6, 1)] #[Value.slice none 0 0, Value.slice none 0 0, Value.slice none 0 0, Value.slice none 0 0, Value.map none, Value.slice none 0 0, Value.int IntKind.i64 0] []) fun v26 =>
      Sb (sto 7 v4 v26 h8) fun h9 =>
      Vb (lda 7 v4 h9) fun r0 =>
      R (.tuple #[r0, v23]) h9) (
      Vb (lda 2 m6 h8) fun v28 =>
      Vb (lda 3 l8 h8) fun v29 =>
      Eb (msl #[Value.int IntKind.i64 0] 1 8 I.t_int threads0 threads0 h8) fun v31 h10 =>
      lda 3 l8 h10 = some v29 ∧
      lda 2 m6 h10 = some v28 ∧
      Vb (bldS [(0, 2), (2, 3), (5, 1), (6, 1)] #[Value.slice none 0 0, Value.slice none 0 0, Value.slice none 0 0, Value.slice none 0 0, Value.map none, Value.slice none 0 0, Value.int IntKind.i64 0] [(0, v28), (1, v29), (2, v31)]) fun v32 =>
      Sb (sto 7 v4 v32 h10) fun h11 =>
      Vb (lda 7 v4 h11) fun r0 =>
      R (.tuple #[r0, (Value.int IntKind.i64 0)]) h11))

def F_task_Make (S : Sys) (I : Ids) (m0 l1 : Value) (h : Hp) (R : Value → Hp → Prop) : Prop :=
  Eb (nw (Value.cells m0) I.t_machine_Machine h) fun m2 h1 =>
  Eb (nw #[Value.slice none 0 0, Value.slice none 0 0, Value.slice none 0 0, Value.slice none 0 0, Value.map none, Value.slice none 0 0, Value.int IntKind.i64 0, Value.slice none 0 0, Value.slice none 0 0] I.t_task_World h1) fun v4 h2 =>
  Vb (lda 7 m2 h2) fun v12 =>
  S.C I.f_machine_Machine_Size [v12] h2 fun v13 h3 =>
  Vb (ext 0 v13) fun v14 =>
  Vb (ext 1 v13) fun v15 =>
  Vb (lnS l1) fun v17 =>
  Vb (bin .gtr v17 v14) fun v19 =>
  Br v19 (
    Vb (bldS [(0, 7), (7, 1), (8, 1)] #[Value.slice none 0 0, Value.slice none 0 0, Value.slice none 0 0, Value.slice none 0 0, Value.map none, Value.slice none 0 0, Value.int IntKind.i64 0, Value.slice none 0 0, Value.slice none 0 0] []) fun v20 =>
    Sb (sto 9 v4 v20 h3) fun h4 =>
    Vb (lda 9 v4 h4) fun r0 =>
    R (.tuple #[r0, (Value.int IntKind.i64 15)]) h4) (
    Jn1 (fun w8 h5 =>
        Vb (lnS l1) fun v27 =>
        Lp1 (Value.int IntKind.i64 0) h5 fun v28 h6 again0 =>
        Vb (bin .lss v28 v27) fun v29 =>
        Br v29 (
          Vb (ixs 1 l1 v28) fun v30 =>
          Vb (ldc v30 h6) fun v31 =>
          Vb (fa 7 w8) fun v32 =>
          Vb (ldc v32 h6) fun v33 =>
          S.C I.f_task_Start [v31] h6 fun v35 h7 =>
          ldc v32 h7 = some v33 ∧
          Eb (bsl #[Value.nilIface, Value.nilFunc, Value.int IntKind.i64 0, Value.int IntKind.i64 0, Value.int IntKind.i64 0, Value.int IntKind.u32 0, Value.int IntKind.u32 0, Value.int IntKind.i64 0, Value.int IntKind.u32 0, Value.int IntKind.u32 0, Value.slice none 0 0] 11 1 I.t_task_Task [(0, v35)] h7) fun v36 h8 =>
          ldc v32 h8 = some v33 ∧
          Ap I.t_task_Task #[Value.nilIface, Value.nilFunc, Value.int IntKind.i64 0, Value.int IntKind.i64 0, Value.int IntKind.i64 0, Value.int IntKind.u32 0, Value.int IntKind.u32 0, Value.int IntKind.i64 0, Value.int IntKind.u32 0, Value.int IntKind.u32 0, Value.slice none 0 0] 11 96 v33 v36 h8 fun v37 h9 =>
          Vb (fa 7 w8) fun v38 =>
          Sb (sto 1 v38 v37 h9) fun h10 =>
          Vb (bin .add v28 (Value.int IntKind.i64 1)) fun v39 =>
          again0 v39 h10) (
          Vb (lda 9 w8 h6) fun v40 =>
          Sb (sto 9 v4 v40 h6) fun h11 =>
          Vb (lda 9 v4 h11) fun r0 =>
          R (.tuple #[r0, (Value.int IntKind.i64 0)]) h11)) fun J0 =>
    Vb (lda 7 m2 h3) fun v21 =>
    Vb (lnS l1) fun v23 =>
    And (
      Eb (msl #[Value.bool false] 1 1 I.t_bool v23 v23 h3) fun v24 h12 =>
      lda 7 m2 h12 = some v21 ∧
      Vb (bldS [(0, 7), (7, 1), (8, 1)] #[Value.slice none 0 0, Value.slice none 0 0, Value.slice none 0 0, Value.slice none 0 0, Value.map none, Value.slice none 0 0, Value.int IntKind.i64 0, Value.slice none 0 0, Value.slice none 0 0] [(0, v21), (2, v24)]) fun v25 =>
      Eb (nw #[Value.slice none 0 0, Value.slice none 0 0, Value.slice none 0 0, Value.slice none 0 0, Value.map none, Value.slice none 0 0, Value.int IntKind.i64 0, Value.slice none 0 0, Value.slice none 0 0] I.t_task_World h12) fun w8_1 h13 =>
      lda 7 m2 h13 = some v21 ∧
      Sb (sto 9 w8_1 v25 h13) fun h14 =>
      J0 w8_1 h14) (
      Eb (nw #[Value.slice none 0 0, Value.slice none 0 0, Value.slice none 0 0, Value.slice none 0 0, Value.map none, Value.slice none 0 0, Value.int IntKind.i64 0, Value.slice none 0 0, Value.slice none 0 0] I.t_task_World h3) fun w8_2 h15 =>
      lda 7 m2 h15 = some v21 ∧
      Eb (msl #[Value.bool false] 1 1 I.t_bool v23 v23 h15) fun v24_1 h16 =>
      lda 7 m2 h16 = some v21 ∧
      Vb (bldS [(0, 7), (7, 1), (8, 1)] #[Value.slice none 0 0, Value.slice none 0 0, Value.slice none 0 0, Value.slice none 0 0, Value.map none, Value.slice none 0 0, Value.int IntKind.i64 0, Value.slice none 0 0, Value.slice none 0 0] [(0, v21), (2, v24_1)]) fun v25_1 =>
      Sb (sto 9 w8_2 v25_1 h16) fun h17 =>
      J0 w8_2 h17))

def F_task_World_dead (S : Sys) (I : Ids) (w0 : Value) (h : Hp) (R : Value → Hp → Prop) : Prop :=
  Eb (nw (Value.cells w0) I.t_task_World h) fun w1 h1 =>
  Vb (fa 0 w1) fun v6 =>
  Vb (lda 7 v6 h1) fun v7 =>
  S.C I.f_machine_Machine_Size [v7] h1 fun v8 h2 =>
  Vb (ext 0 v8) fun v9 =>
  Vb (ext 1 v8) fun v10 =>
  Vb (bin .eql v9 (Value.int IntKind.i64 0)) fun v12 =>
  R v12 h2

def F_task_World_takes (S : Sys) (I : Ids) (w0 t1 : Value) (h : Hp) (R : Value → Hp → Prop) : Prop :=
  Eb (nw (Value.cells w0) I.t_task_World h) fun w2 h1 =>
  Jn1 (fun v4 h2 =>
      R v4 h2) fun J0 =>
  Vb (bin .geq t1 (Value.int IntKind.i64 1)) fun v6 =>
  Br v6 (
    Vb (fa 7 w2) fun v9 =>
    Vb (ldc v9 h1) fun v10 =>
    Vb (lnS v10) fun v11 =>
    Vb (bin .leq t1 v11) fun v12 =>
    Br v12 (
      Vb (lda 9 w2 h1) fun v15 =>
      Vb (bin .sub t1 (Value.int IntKind.i64 1)) fun v17 =>
      S.C I.f_task_World_stopped [v15, v17] h1 fun v18 h3 =>
      Vb (uno .not v18) fun v19 =>
      Br v19 (
        Vb (fa 7 w2) fun v22 =>
        Vb (ldc v22 h3) fun v23 =>
        Vb (bin .sub t1 (Value.int IntKind.i64 1)) fun v25 =>
        Vb (ixs 11 v23 v25) fun v26 =>
        Vb (lda 11 v26 h3) fun v27 =>
        S.C I.f_task_Task_Done [v27] h3 fun v28 h4 =>
        Vb (uno .not v28) fun v29 =>
        J0 v29 h4) (
        J0 (Value.bool false) h3)) (
      J0 (Value.bool false) h1)) (
    J0 (Value.bool false) h1)

def F_task_World_step (S : Sys) (I : Ids) (w0 t1 choice2 : Value) (h : Hp) (R : Value → Hp → Prop) : Prop :=
  Eb (nw (Value.cells w0) I.t_task_World h) fun w3 h1 =>
  Eb (nw #[Value.slice none 0 0, Value.slice none 0 0, Value.slice none 0 0, Value.slice none 0 0, Value.map none, Value.slice none 0 0, Value.int IntKind.i64 0, Value.slice none 0 0, Value.slice none 0 0] I.t_task_World h1) fun v6 h2 =>
  Vb (fa 7 w3) fun v13 =>
  Vb (ldc v13 h2) fun v14 =>
  Vb (bin .sub t1 (Value.int IntKind.i64 1)) fun v16 =>
  Vb (ixs 11 v14 v16) fun v17 =>
  Vb (lda 11 v17 h2) fun v18 =>
  S.C I.f_task_Task_Act [v18] h2 fun v19 h3 =>
  Vb (ext 0 v19) fun v20 =>
  Vb (ext 1 v19) fun v21 =>
  Eb (nw #[Value.int IntKind.i64 0, Value.int IntKind.i64 0, Value.int IntKind.i64 0, Value.int IntKind.u32 0, Value.int IntKind.u32 0, Value.int IntKind.i64 0, Value.int IntKind.u32 0, Value.int IntKind.u32 0] I.t_api_Act h3) fun a7 h4 =>
  Sb (sto 8 a7 v20 h4) fun h5 =>
  Vb (fa 0 w3) fun v23 =>
  Vb (lda 7 v23 h5) fun v24 =>
  Vb (lda 8 a7 h5) fun v26 =>
  S.C I.f_machine_Machine_Do [v24, t1, v26, choice2] h5 fun v28 h6 =>
  Vb (ext 0 v28) fun v29 =>
  Vb (ext 1 v28) fun v30 =>
  Vb (ext 2 v28) fun v31 =>
  Eb (nw #[Value.slice none 0 0, Value.slice none 0 0, Value.slice none 0 0, Value.slice none 0 0, Value.map none, Value.slice none 0 0, Value.int IntKind.i64 0] I.t_machine_Machine h6) fun m9 h7 =>
  Eb (nw #[Value.int IntKind.i64 0, Value.int IntKind.u32 0, Value.int IntKind.u32 0, Value.bool false] I.t_api_Got h7) fun g10 h8 =>
  Sb (sto 7 m9 v29 h8) fun h9 =>
  Sb (sto 4 g10 v30 h9) fun h10 =>
  Jn0 (fun h11 =>
      Vb (fa 7 w3) fun v37 =>
      Vb (ldc v37 h11) fun v38 =>
      S.C I.f_slices_Clone_task_Task_task_Task [v38] h11 fun v39 h12 =>
      Vb (fa 7 w3) fun v40 =>
      Sb (sto 1 v40 v39 h12) fun h13 =>
      Vb (fa 7 w3) fun v41 =>
      Vb (ldc v41 h13) fun v42 =>
      Vb (bin .sub t1 (Value.int IntKind.i64 1)) fun v44 =>
      Vb (fa 7 w3) fun v45 =>
      Vb (ldc v45 h13) fun v46 =>
      Vb (bin .sub t1 (Value.int IntKind.i64 1)) fun v48 =>
      Vb (ixs 11 v46 v48) fun v49 =>
      Vb (lda 11 v49 h13) fun v50 =>
      Vb (lda 4 g10 h13) fun v51 =>
      S.C I.f_task_Task_Give [v50, v51] h13 fun v52 h14 =>
      ldc v41 h14 = some v42 ∧
      Vb (ixs 11 v42 v44) fun v53 =>
      Sb (sto 11 v53 v52 h14) fun h15 =>
      Vb (lda 9 w3 h15) fun v54 =>
      Sb (sto 9 v6 v54 h15) fun h16 =>
      Vb (lda 9 v6 h16) fun r0 =>
      R r0 h16) fun J0 =>
  Vb (bin .neq v31 (Value.int IntKind.i64 0)) fun v33 =>
  Br v33 (
    Vb (bldS [(0, 3), (3, 1)] #[Value.int IntKind.i64 0, Value.int IntKind.u32 0, Value.int IntKind.u32 0, Value.bool false] []) fun v34 =>
    Sb (sto 4 g10 v34 h10) fun h17 =>
    J0 h17) (
    Vb (lda 7 m9 h10) fun v35 =>
    Vb (fa 0 w3) fun v36 =>
    Sb (sto 7 v36 v35 h10) fun h18 =>
    J0 h18)

def F_slices_Contains_int_int (S : Sys) (I : Ids) (s0 v1 : Value) (h : Hp) (R : Value → Hp → Prop) : Prop :=
  S.C I.f_slices_Index_int_int [s0, v1] h fun v7 h1 =>
  Vb (bin .geq v7 (Value.int IntKind.i64 0)) fun v8 =>
  R v8 h1

def F_reclaim_Item_way (S : Sys) (I : Ids) (i0 announced1 held2 : Value) (h : Hp) (R : Value → Hp → Prop) : Prop :=
  Eb (nw (Value.cells i0) I.t_reclaim_Item h) fun i3 h1 =>
  Jn1 (fun v6 h2 =>
      R v6 h2) fun J0 =>
  Vb (lda 3 i3 h1) fun v8 =>
  Vb (some (.func (.func I.f_reclaim_Item_lives) #[v8] #[])) fun v9 =>
  S.C I.f_slices_ContainsFunc_int64_int64 [announced1, v9] h1 fun v10 h3 =>
  Br v10 (
    J0 (Value.bool true) h3) (
    Vb (lda 3 i3 h3) fun v13 =>
    Vb (some (.func (.func I.f_reclaim_Item_named) #[v13] #[])) fun v14 =>
    S.C I.f_slices_ContainsFunc_int64_int64 [held2, v14] h3 fun v15 h4 =>
    J0 v15 h4)

def F_slices_Sort_int_int (S : Sys) (I : Ids) (x0 : Value) (h : Hp) (R : Value → Hp → Prop) : Prop :=
  Vb (lnS x0) fun v4 =>
  Vb (cvi .u64 v4) fun v8 =>
  S.C I.f_math_bits_Len [v8] h fun v9 h1 =>
  S.C I.f_slices_pdqsortOrdered_int [x0, (Value.int IntKind.i64 0), v4, v9] h1 fun v10 h2 =>
  R (.tuple #[]) h2

def F_task_World_stopped (S : Sys) (I : Ids) (w0 i1 : Value) (h : Hp) (R : Value → Hp → Prop) : Prop :=
  Eb (nw (Value.cells w0) I.t_task_World h) fun w2 h1 =>
  Jn1 (fun v4 h2 =>
      R v4 h2) fun J0 =>
  Vb (fa 8 w2) fun v6 =>
  Vb (ldc v6 h1) fun v7 =>
  Vb (lnS v7) fun v8 =>
  Vb (bin .lss i1 v8) fun v9 =>
  Br v9 (
    Vb (fa 8 w2) fun v11 =>
    Vb (ldc v11 h1) fun v12 =>
    Vb (ixs 1 v12 i1) fun v14 =>
    Vb (ldc v14 h1) fun v15 =>
    J0 v15 h1) (
    J0 (Value.bool false) h1)

def F_machine_Machine_Size (S : Sys) (I : Ids) (m0 : Value) (h : Hp) (R : Value → Hp → Prop) : Prop :=
  Eb (nw (Value.cells m0) I.t_machine_Machine h) fun m1 h1 =>
  Vb (fa 0 m1) fun v4 =>
  Vb (lda 2 v4 h1) fun v5 =>
  S.C I.f_memory_Memory_Size [v5] h1 fun v6 h2 =>
  Vb (ext 0 v6) fun v7 =>
  Vb (ext 1 v6) fun v8 =>
  R (.tuple #[v7, v8]) h2

def F_memory_Memory_Last (S : Sys) (I : Ids) (m0 at1 : Value) (h : Hp) (R : Value → Hp → Prop) : Prop :=
  Eb (nw (Value.cells m0) I.t_memory_Memory h) fun m2 h1 =>
  Eb (nw #[Value.int IntKind.i64 0, Value.int IntKind.u32 0, Value.int IntKind.u32 0] I.t_api_Word h1) fun v4 h2 =>
  Vb (lda 2 m2 h2) fun v9 =>
  S.C I.f_memory_Memory_History [v9, at1] h2 fun v11 h3 =>
  Vb (ext 0 v11) fun v12 =>
  Vb (ext 1 v11) fun v13 =>
  Eb (nw #[Value.slice none 0 0] I.t_history_History h3) fun x6 h4 =>
  Sb (sto 1 x6 v12 h4) fun h5 =>
  Vb (lda 1 x6 h5) fun v14 =>
  S.C I.f_history_History_Last [v14] h5 fun v15 h6 =>
  Vb (fda 0 3 v15) fun v16 =>
  Sb (sto 3 v4 v16 h6) fun h7 =>
  Vb (lda 3 v4 h7) fun r0 =>
  R (.tuple #[r0, v13]) h7

def F_layout_Layout_at (S : Sys) (I : Ids) (l0 part1 i2 more3 : Value) (h : Hp) (R : Value → Hp → Prop) : Prop :=
  Eb (nw (Value.cells l0) I.t_layout_Layout h) fun l4 h1 =>
  Jn1 (fun v22 h2 =>
      Br v22 (
        R (Value.int IntKind.i64 (-1)) h2) (
        Vb (lda 3 l4 h2) fun v23 =>
        Vb (ixa 7 1 (.pointer (some ⟨0, 0, none⟩)) part1) fun v28 =>
        Vb (ldc v28 h2) fun v29 =>
        Vb (bin .mul i2 v29) fun v30 =>
        S.C I.f_layout_Layout_from [v23, part1] h2 fun v25 h3 =>
        ldc v28 h3 = some v29 ∧
        Vb (bin .add v25 v30) fun v31 =>
        Vb (bin .add v31 more3) fun v33 =>
        R v33 h3)) fun J0 =>
  Vb (lda 3 l4 h1) fun v9 =>
  S.C I.f_layout_Layout_right [v9] h1 fun v10 h4 =>
  Vb (uno .not v10) fun v11 =>
  Br v11 (
    J0 (Value.bool true) h4) (
    Vb (bin .lss i2 (Value.int IntKind.i64 0)) fun v14 =>
    Br v14 (
      J0 (Value.bool true) h4) (
      Vb (lda 3 l4 h4) fun v18 =>
      S.C I.f_layout_Layout_many [v18, part1] h4 fun v20 h5 =>
      Vb (bin .geq i2 v20) fun v21 =>
      J0 v21 h5))

def F_layout_Layout_right (S : Sys) (I : Ids) (l0 : Value) (h : Hp) (R : Value → Hp → Prop) : Prop :=
  Eb (nw (Value.cells l0) I.t_layout_Layout h) fun l1 h1 =>
  Vb (lda 3 l1 h1) fun v3 =>
  S.C I.f_layout_Layout_Check [v3] h1 fun v4 h2 =>
  Vb (bin .eql v4 (Value.int IntKind.i64 0)) fun v5 =>
  R v5 h2

def F_layout_Layout_Size (S : Sys) (I : Ids) (l0 : Value) (h : Hp) (R : Value → Hp → Prop) : Prop :=
  Eb (nw (Value.cells l0) I.t_layout_Layout h) fun l1 h1 =>
  Vb (lda 3 l1 h1) fun v3 =>
  S.C I.f_layout_Layout_right [v3] h1 fun v4 h2 =>
  Vb (uno .not v4) fun v5 =>
  Br v5 (
    R (Value.int IntKind.i64 0) h2) (
    Vb (lda 3 l1 h2) fun v6 =>
    S.C I.f_layout_Layout_from [v6, (Value.int IntKind.i64 7)] h2 fun v7 h3 =>
    R v7 h3)

def F_layout_Layout_Era (S : Sys) (I : Ids) (l0 : Value) (h : Hp) (R : Value → Hp → Prop) : Prop :=
  Eb (nw (Value.cells l0) I.t_layout_Layout h) fun l1 h1 =>
  Vb (lda 3 l1 h1) fun v3 =>
  S.C I.f_layout_Layout_at [v3, (Value.int IntKind.i64 0), (Value.int IntKind.i64 0), (Value.int IntKind.i64 1)] h1 fun v4 h2 =>
  R v4 h2

def F_layout_Layout_Slot (S : Sys) (I : Ids) (l0 t1 : Value) (h : Hp) (R : Value → Hp → Prop) : Prop :=
  Eb (nw (Value.cells l0) I.t_layout_Layout h) fun l2 h1 =>
  Vb (lda 3 l2 h1) fun v5 =>
  Vb (bin .sub t1 (Value.int IntKind.i64 1)) fun v7 =>
  S.C I.f_layout_Layout_at [v5, (Value.int IntKind.i64 4), v7, (Value.int IntKind.i64 0)] h1 fun v8 h2 =>
  R v8 h2

def F_layout_Layout_Block (S : Sys) (I : Ids) (l0 i1 : Value) (h : Hp) (R : Value → Hp → Prop) : Prop :=
  Eb (nw (Value.cells l0) I.t_layout_Layout h) fun l2 h1 =>
  Vb (lda 3 l2 h1) fun v5 =>
  S.C I.f_layout_Layout_at [v5, (Value.int IntKind.i64 6), i1, (Value.int IntKind.i64 0)] h1 fun v7 h2 =>
  R v7 h2

def F_memory_New (S : Sys) (I : Ids) (threads0 w1 : Value) (h : Hp) (R : Value → Hp → Prop) : Prop :=
  Eb (nw #[Value.slice none 0 0, Value.slice none 0 0] I.t_memory_Memory h) fun v4 h1 =>
  Jn1 (fun v9 h2 =>
      Br v9 (
        Vb (bldS [(0, 1), (1, 1)] #[Value.slice none 0 0, Value.slice none 0 0] []) fun v16 =>
        Sb (sto 2 v4 v16 h2) fun h3 =>
        Vb (lda 2 v4 h3) fun r0 =>
        R (.tuple #[r0, (Value.int IntKind.i64 3)]) h3) (
        Vb (lnS w1) fun v19 =>
        Vb (bin .eql v19 (Value.int IntKind.i64 0)) fun v20 =>
        Br v20 (
          Vb (bldS [(0, 1), (1, 1)] #[Value.slice none 0 0, Value.slice none 0 0] []) fun v21 =>
          Sb (sto 2 v4 v21 h2) fun h4 =>
          Vb (lda 2 v4 h4) fun r0 =>
          R (.tuple #[r0, (Value.int IntKind.i64 8)]) h4) (
          Vb (lnS w1) fun v24 =>
          Vb (bin .gtr v24 (Value.int IntKind.i64 4096)) fun v25 =>
          Br v25 (
            Vb (bldS [(0, 1), (1, 1)] #[Value.slice none 0 0, Value.slice none 0 0] []) fun v26 =>
            Sb (sto 2 v4 v26 h2) fun h5 =>
            Vb (lda 2 v4 h5) fun r0 =>
            R (.tuple #[r0, (Value.int IntKind.i64 15)]) h5) (
            Eb (msl #[Value.map none] 1 8 I.t_view_View threads0 threads0 h2) fun v28 h6 =>
            Vb (bldS [(0, 1), (1, 1)] #[Value.slice none 0 0, Value.slice none 0 0] [(1, v28)]) fun v29 =>
            Eb (nw #[Value.slice none 0 0, Value.slice none 0 0] I.t_memory_Memory h6) fun m6 h7 =>
            Sb (sto 2 m6 v29 h7) fun h8 =>
            Vb (lnS w1) fun v31 =>
            Lp1 (Value.int IntKind.i64 0) h8 fun v32 h9 again0 =>
            Vb (bin .lss v32 v31) fun v33 =>
            Br v33 (
              Vb (ixs 3 w1 v32) fun v34 =>
              Vb (lda 3 v34 h9) fun v35 =>
              Eb (nw #[Value.int IntKind.i64 0, Value.int IntKind.u32 0, Value.int IntKind.u32 0] I.t_api_Word h9) fun x8 h10 =>
              Sb (sto 3 x8 v35 h10) fun h11 =>
              Vb (fa 0 m6) fun v36 =>
              Vb (ldc v36 h11) fun v37 =>
              Vb (lda 3 x8 h11) fun v38 =>
              S.C I.f_history_New [v38] h11 fun v39 h12 =>
              ldc v36 h12 = some v37 ∧
              Eb (bsl #[Value.slice none 0 0] 1 1 I.t_history_History [(0, v39)] h12) fun v40 h13 =>
              ldc v36 h13 = some v37 ∧
              Ap I.t_history_History #[Value.slice none 0 0] 1 24 v37 v40 h13 fun v41 h14 =>
              Vb (fa 0 m6) fun v42 =>
              Sb (sto 1 v42 v41 h14) fun h15 =>
              Vb (bin .add v32 (Value.int IntKind.i64 1)) fun v43 =>
              again0 v43 h15) (
              Vb (lda 2 m6 h9) fun v44 =>
              Sb (sto 2 v4 v44 h9) fun h16 =>
              Vb (lda 2 v4 h16) fun r0 =>
              R (.tuple #[r0, (Value.int IntKind.i64 0)]) h16))))) fun J0 =>
  Vb (bin .lss threads0 (Value.int IntKind.i64 1)) fun v11 =>
  Br v11 (
    J0 (Value.bool true) h1) (
    Vb (bin .gtr threads0 (Value.int IntKind.i64 8)) fun v14 =>
    J0 v14 h1)

def F_line_New (S : Sys) (I : Ids) (w0 : Value) (h : Hp) (R : Value → Hp → Prop) : Prop :=
  Eb (nw #[Value.slice none 0 0, Value.slice none 0 0, Value.map none] I.t_line_Lines h) fun v2 h1 =>
  Vb (lnS w0) fun v5 =>
  Vb (bin .gtr v5 (Value.int IntKind.i64 4096)) fun v6 =>
  Br v6 (
    Vb (bldS [(0, 1), (1, 1), (2, 1)] #[Value.slice none 0 0, Value.slice none 0 0, Value.map none] []) fun v7 =>
    Sb (sto 3 v2 v7 h1) fun h2 =>
    Vb (lda 3 v2 h2) fun r0 =>
    R (.tuple #[r0, (Value.int IntKind.i64 7)]) h2) (
    Jn1 (fun v3 h3 =>
        Vb (lda 3 v2 h3) fun r0 =>
        R (.tuple #[r0, v3]) h3) fun J0 =>
    Vb (lnS w0) fun v11 =>
    Vb (bin .add v11 (Value.int IntKind.i64 8)) fun v12 =>
    Vb (bin .sub v12 (Value.int IntKind.i64 1)) fun v13 =>
    Vb (bin .quo v13 (Value.int IntKind.i64 8)) fun v14 =>
    And (
      S.C I.f_slices_Clone_api_Word_api_Word [w0] h1 fun v9 h4 =>
      Eb (msl #[Value.slice none 0 0, Value.int IntKind.i64 0] 2 32 I.t_line_log v14 v14 h4) fun v15 h5 =>
      Vb (bldS [(0, 1), (1, 1), (2, 1)] #[Value.slice none 0 0, Value.slice none 0 0, Value.map none] [(0, v9), (1, v15)]) fun v16 =>
      Sb (sto 3 v2 v16 h5) fun h6 =>
      J0 (Value.int IntKind.i64 0) h6) (
      Eb (msl #[Value.slice none 0 0, Value.int IntKind.i64 0] 2 32 I.t_line_log v14 v14 h1) fun v15_1 h7 =>
      S.C I.f_slices_Clone_api_Word_api_Word [w0] h7 fun v9_1 h8 =>
      Vb (bldS [(0, 1), (1, 1), (2, 1)] #[Value.slice none 0 0, Value.slice none 0 0, Value.map none] [(0, v9_1), (1, v15_1)]) fun v16_1 =>
      Sb (sto 3 v2 v16_1 h8) fun h9 =>
      J0 (Value.int IntKind.i64 0) h9))

def F_task_Start (S : Sys) (I : Ids) (c0 : Value) (h : Hp) (R : Value → Hp → Prop) : Prop :=
  Eb (nw #[Value.nilIface, Value.nilFunc, Value.int IntKind.i64 0, Value.int IntKind.i64 0, Value.int IntKind.i64 0, Value.int IntKind.u32 0, Value.int IntKind.u32 0, Value.int IntKind.i64 0, Value.int IntKind.u32 0, Value.int IntKind.u32 0, Value.slice none 0 0] I.t_task_Task h) fun v2 h1 =>
  Vb (inl .eql c0) fun v4 =>
  Br v4 (
    Vb (bldS [(0, 1), (1, 1), (2, 8), (10, 1)] #[Value.nilIface, Value.nilFunc, Value.int IntKind.i64 0, Value.int IntKind.i64 0, Value.int IntKind.i64 0, Value.int IntKind.u32 0, Value.int IntKind.u32 0, Value.int IntKind.i64 0, Value.int IntKind.u32 0, Value.int IntKind.u32 0, Value.slice none 0 0] []) fun v5 =>
    Sb (sto 11 v2 v5 h1) fun h2 =>
    Vb (lda 11 v2 h2) fun r0 =>
    R r0 h2) (
    Vb (bldS [(0, 1), (1, 1), (2, 8), (10, 1)] #[Value.nilIface, Value.nilFunc, Value.int IntKind.i64 0, Value.int IntKind.i64 0, Value.int IntKind.i64 0, Value.int IntKind.u32 0, Value.int IntKind.u32 0, Value.int IntKind.i64 0, Value.int IntKind.u32 0, Value.int IntKind.u32 0, Value.slice none 0 0] []) fun v6 =>
    Vb (bldS [(0, 3), (3, 1)] #[Value.int IntKind.i64 0, Value.int IntKind.u32 0, Value.int IntKind.u32 0, Value.bool false] []) fun v8 =>
    Ci S.C I.mt "Next" c0 [v8] h1 fun v9 h3 =>
    Vb (ext 0 v9) fun v10 =>
    Vb (ext 1 v9) fun v11 =>
    Vb (ext 2 v9) fun v12 =>
    S.C I.f_task_Task_told [v6, v10, v11, v12] h3 fun v13 h4 =>
    Sb (sto 11 v2 v13 h4) fun h5 =>
    Vb (lda 11 v2 h5) fun r0 =>
    R r0 h5)

def F_slices_Clone_int_int (S : Sys) (I : Ids) (s0 : Value) (h : Hp) (R : Value → Hp → Prop) : Prop :=
  Vb (pos? (eqS s0 (Value.slice none 0 0))) fun v4 =>
  Br v4 (
    R (Value.slice none 0 0) h) (
    Eb (bsl #[Value.int IntKind.i64 0] 1 0 I.t_int [] h) fun v5 h1 =>
    Ap I.t_int #[Value.int IntKind.i64 0] 1 8 v5 s0 h1 fun v7 h2 =>
    R v7 h2)

def F_task_Task_Act (S : Sys) (I : Ids) (t0 : Value) (h : Hp) (R : Value → Hp → Prop) : Prop :=
  Eb (nw (Value.cells t0) I.t_task_Task h) fun t1 h1 =>
  Eb (nw #[Value.int IntKind.i64 0, Value.int IntKind.i64 0, Value.int IntKind.i64 0, Value.int IntKind.u32 0, Value.int IntKind.u32 0, Value.int IntKind.i64 0, Value.int IntKind.u32 0, Value.int IntKind.u32 0] I.t_api_Act h1) fun v2 h2 =>
  Vb (fa 2 t1) fun v4 =>
  Vb (lda 8 v4 h2) fun v5 =>
  Vb (lda 11 t1 h2) fun v6 =>
  S.C I.f_task_Task_Done [v6] h2 fun v7 h3 =>
  lda 8 v4 h3 = some v5 ∧
  Vb (uno .not v7) fun v8 =>
  Sb (sto 8 v2 v5 h3) fun h4 =>
  Vb (lda 8 v2 h4) fun r0 =>
  R (.tuple #[r0, v8]) h4

def F_machine_Machine_Do (S : Sys) (I : Ids) (m0 t1 a2 choice3 : Value) (h : Hp) (R : Value → Hp → Prop) : Prop :=
  Eb (nw (Value.cells m0) I.t_machine_Machine h) fun m4 h1 =>
  Eb (nw (Value.cells a2) I.t_api_Act h1) fun a6 h2 =>
  Eb (nw #[Value.slice none 0 0, Value.slice none 0 0, Value.slice none 0 0, Value.slice none 0 0, Value.map none, Value.slice none 0 0, Value.int IntKind.i64 0] I.t_machine_Machine h2) fun v8 h3 =>
  Eb (nw #[Value.int IntKind.i64 0, Value.int IntKind.u32 0, Value.int IntKind.u32 0, Value.bool false] I.t_api_Got h3) fun v9 h4 =>
  Vb (lda 7 m4 h4) fun v13 =>
  Vb (lda 8 a6 h4) fun v15 =>
  S.C I.f_machine_Machine_check [v13, t1, v15] h4 fun v16 h5 =>
  Vb (bin .neq v16 (Value.int IntKind.i64 0)) fun v18 =>
  Br v18 (
    Vb (lda 7 m4 h5) fun v19 =>
    Vb (bldS [(0, 3), (3, 1)] #[Value.int IntKind.i64 0, Value.int IntKind.u32 0, Value.int IntKind.u32 0, Value.bool false] []) fun v20 =>
    Sb (sto 7 v8 v19 h5) fun h6 =>
    Sb (sto 4 v9 v20 h6) fun h7 =>
    Vb (lda 7 v8 h7) fun r0 =>
    Vb (lda 4 v9 h7) fun r1 =>
    R (.tuple #[r0, r1, v16]) h7) (
    Vb (bldS [(0, 3), (3, 1)] #[Value.int IntKind.i64 0, Value.int IntKind.u32 0, Value.int IntKind.u32 0, Value.bool false] [(1, (Value.bool true))]) fun v22 =>
    Eb (nw #[Value.int IntKind.i64 0, Value.int IntKind.u32 0, Value.int IntKind.u32 0, Value.bool false] I.t_api_Got h5) fun g12 h8 =>
    Sb (sto 4 g12 v22 h8) fun h9 =>
    Jn0 (fun h10 =>
        Vb (fa 5 m4) fun v71 =>
        Vb (ldc v71 h10) fun v72 =>
        S.C I.f_slices_Clone_int_int [v72] h10 fun v73 h11 =>
        Vb (fa 5 m4) fun v74 =>
        Sb (sto 1 v74 v73 h11) fun h12 =>
        Vb (fa 5 m4) fun v75 =>
        Vb (ldc v75 h12) fun v76 =>
        Vb (bin .sub t1 (Value.int IntKind.i64 1)) fun v78 =>
        Vb (ixs 1 v76 v78) fun v79 =>
        Vb (ldc v79 h12) fun v80 =>
        Vb (bin .add v80 (Value.int IntKind.i64 1)) fun v81 =>
        Vb (ixs 1 v76 v78) fun v82 =>
        Sb (sto 1 v82 v81 h12) fun h13 =>
        Vb (lda 7 m4 h13) fun v83 =>
        Vb (lda 4 g12 h13) fun v84 =>
        Sb (sto 7 v8 v83 h13) fun h14 =>
        lda 4 g12 h14 = some v84 ∧
        Sb (sto 4 v9 v84 h14) fun h15 =>
        Vb (lda 7 v8 h15) fun r0 =>
        Vb (lda 4 v9 h15) fun r1 =>
        R (.tuple #[r0, r1, (Value.int IntKind.i64 0)]) h15) fun J0 =>
    Vb (lda 8 a6 h9) fun v24 =>
    S.C I.f_machine_Changes [v24] h9 fun v25 h16 =>
    Br v25 (
      Vb (lda 7 m4 h16) fun v27 =>
      Vb (lda 8 a6 h16) fun v29 =>
      S.C I.f_machine_Machine_write [v27, t1, v29] h16 fun v30 h17 =>
      Vb (ext 0 v30) fun v31 =>
      Vb (ext 1 v30) fun v32 =>
      Sb (sto 7 m4 v31 h17) fun h18 =>
      Sb (sto 4 g12 v32 h18) fun h19 =>
      J0 h19) (
      Vb (fa 0 a6) fun v34 =>
      Vb (ldc v34 h16) fun v35 =>
      Vb (bin .eql v35 (Value.int IntKind.i64 7)) fun v36 =>
      Br v36 (
        Vb (fa 2 m4) fun v38 =>
        Vb (lda 3 v38 h16) fun v39 =>
        Vb (fa 1 a6) fun v41 =>
        Vb (ldc v41 h16) fun v42 =>
        S.C I.f_line_Lines_Flush [v39, t1, v42] h16 fun v43 h20 =>
        Vb (ext 0 v43) fun v44 =>
        Vb (ext 1 v43) fun v45 =>
        Vb (fa 2 m4) fun v46 =>
        Sb (sto 3 v46 v44 h20) fun h21 =>
        J0 h21) (
        Vb (fa 0 a6) fun v48 =>
        Vb (ldc v48 h16) fun v49 =>
        Vb (bin .eql v49 (Value.int IntKind.i64 8)) fun v50 =>
        Br v50 (
          Vb (fa 2 m4) fun v52 =>
          Vb (lda 3 v52 h16) fun v53 =>
          S.C I.f_line_Lines_Sync [v53, t1] h16 fun v55 h22 =>
          Vb (ext 0 v55) fun v56 =>
          Vb (ext 1 v55) fun v57 =>
          Vb (fa 2 m4) fun v58 =>
          Sb (sto 3 v58 v56 h22) fun h23 =>
          J0 h23) (
          Vb (fa 0 a6) fun v60 =>
          Vb (ldc v60 h16) fun v61 =>
          Vb (bin .neq v61 (Value.int IntKind.i64 0)) fun v62 =>
          Br v62 (
            Vb (lda 7 m4 h16) fun v64 =>
            Vb (lda 8 a6 h16) fun v66 =>
            S.C I.f_machine_Machine_read [v64, t1, v66, choice3] h16 fun v68 h24 =>
            Vb (ext 0 v68) fun v69 =>
            Vb (ext 1 v68) fun v70 =>
            Sb (sto 7 m4 v69 h24) fun h25 =>
            Sb (sto 4 g12 v70 h25) fun h26 =>
            J0 h26) (
            J0 h16)))))

def F_slices_Clone_task_Task_task_Task (S : Sys) (I : Ids) (s0 : Value) (h : Hp) (R : Value → Hp → Prop) : Prop :=
  Vb (pos? (eqS s0 (Value.slice none 0 0))) fun v4 =>
  Br v4 (
    R (Value.slice none 0 0) h) (
    Eb (bsl #[Value.nilIface, Value.nilFunc, Value.int IntKind.i64 0, Value.int IntKind.i64 0, Value.int IntKind.i64 0, Value.int IntKind.u32 0, Value.int IntKind.u32 0, Value.int IntKind.i64 0, Value.int IntKind.u32 0, Value.int IntKind.u32 0, Value.slice none 0 0] 11 0 I.t_task_Task [] h) fun v5 h1 =>
    Ap I.t_task_Task #[Value.nilIface, Value.nilFunc, Value.int IntKind.i64 0, Value.int IntKind.i64 0, Value.int IntKind.i64 0, Value.int IntKind.u32 0, Value.int IntKind.u32 0, Value.int IntKind.i64 0, Value.int IntKind.u32 0, Value.int IntKind.u32 0, Value.slice none 0 0] 11 96 v5 s0 h1 fun v7 h2 =>
    R v7 h2)

def F_task_Task_Give (S : Sys) (I : Ids) (t0 g1 : Value) (h : Hp) (R : Value → Hp → Prop) : Prop :=
  Eb (nw (Value.cells t0) I.t_task_Task h) fun t2 h1 =>
  Eb (nw (Value.cells g1) I.t_api_Got h1) fun g3 h2 =>
  Eb (nw #[Value.nilIface, Value.nilFunc, Value.int IntKind.i64 0, Value.int IntKind.i64 0, Value.int IntKind.i64 0, Value.int IntKind.u32 0, Value.int IntKind.u32 0, Value.int IntKind.i64 0, Value.int IntKind.u32 0, Value.int IntKind.u32 0, Value.slice none 0 0] I.t_task_Task h2) fun v4 h3 =>
  Vb (lda 11 t2 h3) fun v6 =>
  S.C I.f_task_Task_Done [v6] h3 fun v7 h4 =>
  Br v7 (
    Vb (lda 11 t2 h4) fun v8 =>
    Sb (sto 11 v4 v8 h4) fun h5 =>
    Vb (lda 11 v4 h5) fun r0 =>
    R r0 h5) (
    Vb (fa 1 t2) fun v9 =>
    Vb (ldc v9 h4) fun v10 =>
    Jn0 (fun h6 =>
        Vb (lda 11 t2 h6) fun v18 =>
        Vb (lda 4 g3 h6) fun v20 =>
        Cw S.C S.Y I.mt v10 [v20] h6 fun v21 h7 =>
        lda 11 t2 h7 = some v18 ∧
        Vb (ext 0 v21) fun v22 =>
        Vb (ext 1 v21) fun v23 =>
        Vb (ext 2 v21) fun v24 =>
        S.C I.f_task_Task_told [v18, v22, v23, v24] h7 fun v25 h8 =>
        Sb (sto 11 v4 v25 h8) fun h9 =>
        Vb (lda 11 v4 h9) fun r0 =>
        R r0 h9) fun J0 =>
    Vb (fa 10 t2) fun v11 =>
    Vb (ldc v11 h4) fun v12 =>
    Vb (lda 4 g3 h4) fun v14 =>
    And (
      S.C I.f_slices_Clip_api_Got_api_Got [v12] h4 fun v13 h10 =>
      lda 4 g3 h10 = some v14 ∧
      Eb (bsl #[Value.int IntKind.i64 0, Value.int IntKind.u32 0, Value.int IntKind.u32 0, Value.bool false] 4 1 I.t_api_Got [(0, v14)] h10) fun v15 h11 =>
      Ap I.t_api_Got #[Value.int IntKind.i64 0, Value.int IntKind.u32 0, Value.int IntKind.u32 0, Value.bool false] 4 24 v13 v15 h11 fun v16 h12 =>
      Vb (fa 10 t2) fun v17 =>
      Sb (sto 1 v17 v16 h12) fun h13 =>
      J0 h13) (
      Eb (bsl #[Value.int IntKind.i64 0, Value.int IntKind.u32 0, Value.int IntKind.u32 0, Value.bool false] 4 1 I.t_api_Got [(0, v14)] h4) fun v15_1 h14 =>
      ldc v11 h14 = some v12 ∧
      S.C I.f_slices_Clip_api_Got_api_Got [v12] h14 fun v13_1 h15 =>
      Ap I.t_api_Got #[Value.int IntKind.i64 0, Value.int IntKind.u32 0, Value.int IntKind.u32 0, Value.bool false] 4 24 v13_1 v15_1 h15 fun v16_1 h16 =>
      Vb (fa 10 t2) fun v17_1 =>
      Sb (sto 1 v17_1 v16_1 h16) fun h17 =>
      J0 h17))

def F_slices_Index_int_int (S : Sys) (I : Ids) (s0 v1 : Value) (h : Hp) (R : Value → Hp → Prop) : Prop :=
  Vb (lnS s0) fun v7 =>
  Lp1 (Value.int IntKind.i64 0) h fun v8 h1 again0 =>
  Vb (bin .lss v8 v7) fun v9 =>
  Br v9 (
    Vb (ixs 1 s0 v8) fun v14 =>
    Vb (ldc v14 h1) fun v15 =>
    Vb (bin .eql v1 v15) fun v16 =>
    Br v16 (
      R v8 h1) (
      Vb (bin .add v8 (Value.int IntKind.i64 1)) fun v18 =>
      again0 v18 h1)) (
    R (Value.int IntKind.i64 (-1)) h1)

def F_slices_ContainsFunc_int64_int64 (S : Sys) (I : Ids) (s0 f1 : Value) (h : Hp) (R : Value → Hp → Prop) : Prop :=
  S.C I.f_slices_IndexFunc_int64_int64 [s0, f1] h fun v7 h1 =>
  Vb (bin .geq v7 (Value.int IntKind.i64 0)) fun v8 =>
  R v8 h1

def F_reclaim_Item_lives (S : Sys) (I : Ids) (i0 era1 : Value) (h : Hp) (R : Value → Hp → Prop) : Prop :=
  Eb (nw (Value.cells i0) I.t_reclaim_Item h) fun i2 h1 =>
  Jn1 (fun v4 h2 =>
      R v4 h2) fun J0 =>
  Vb (bin .neq era1 (Value.int IntKind.i64 0)) fun v6 =>
  Br v6 (
    Vb (fa 1 i2) fun v9 =>
    Vb (ldc v9 h1) fun v10 =>
    Vb (bin .geq era1 v10) fun v11 =>
    Br v11 (
      Vb (fa 2 i2) fun v15 =>
      Vb (ldc v15 h1) fun v16 =>
      Vb (bin .leq era1 v16) fun v17 =>
      J0 v17 h1) (
      J0 (Value.bool false) h1)) (
    J0 (Value.bool false) h1)

def F_slices_pdqsortOrdered_int (S : Sys) (I : Ids) (data0 a1 b2 limit3 : Value) (h : Hp) (R : Value → Hp → Prop) : Prop :=
  Lp5 a1 b2 limit3 (Value.bool true) (Value.bool true) h fun a1_1 b2_1 limit3_1 wasBalanced8 wasPartitioned9 h1 again0 =>
  Vb (bin .sub b2_1 a1_1) fun v21 =>
  Vb (bin .leq v21 (Value.int IntKind.i64 12)) fun v23 =>
  Br v23 (
    S.C I.f_slices_insertionSortOrdered_int [data0, a1_1, b2_1] h1 fun v27 h2 =>
    R (.tuple #[]) h2) (
    Vb (bin .eql limit3_1 (Value.int IntKind.i64 0)) fun v29 =>
    Br v29 (
      S.C I.f_slices_heapSortOrdered_int [data0, a1_1, b2_1] h1 fun v33 h3 =>
      R (.tuple #[]) h3) (
      Jn1 (fun limit3_2 h4 =>
          S.C I.f_slices_choosePivotOrdered_int [data0, a1_1, b2_1] h4 fun v46 h5 =>
          Vb (ext 0 v46) fun v47 =>
          Vb (ext 1 v46) fun v48 =>
          Jn2 (fun pivot11 hint12 h6 =>
              Jn0 (fun h7 =>
                  Jn1 (fun v87 h8 =>
                      Br v87 (
                        S.C I.f_slices_partitionEqualOrdered_int [data0, a1_1, b2_1, pivot11] h8 fun v92 h9 =>
                        again0 v92 b2_1 limit3_2 wasBalanced8 wasPartitioned9 h9) (
                        S.C I.f_slices_partitionOrdered_int [data0, a1_1, b2_1, pivot11] h8 fun v99 h10 =>
                        Vb (ext 0 v99) fun v100 =>
                        Vb (ext 1 v99) fun v101 =>
                        Vb (bin .sub v100 a1_1) fun v105 =>
                        Vb (bin .sub b2_1 v100) fun v108 =>
                        Vb (bin .quo v21 (Value.int IntKind.i64 8)) fun v110 =>
                        Vb (bin .lss v105 v108) fun v113 =>
                        Br v113 (
                          Vb (bin .geq v105 v110) fun v116 =>
                          S.C I.f_slices_pdqsortOrdered_int [data0, a1_1, v100, limit3_2] h10 fun v121 h11 =>
                          Vb (bin .add v100 (Value.int IntKind.i64 1)) fun v123 =>
                          again0 v123 b2_1 limit3_2 v116 v101 h11) (
                          Vb (bin .geq v108 v110) fun v126 =>
                          Vb (bin .add v100 (Value.int IntKind.i64 1)) fun v129 =>
                          S.C I.f_slices_pdqsortOrdered_int [data0, v129, b2_1, limit3_2] h10 fun v132 h12 =>
                          again0 a1_1 v100 limit3_2 v126 v101 h12))) fun J3 =>
                  Vb (bin .gtr a1_1 (Value.int IntKind.i64 0)) fun v74 =>
                  Br v74 (
                    Vb (bin .sub a1_1 (Value.int IntKind.i64 1)) fun v78 =>
                    Vb (ixs 1 data0 v78) fun v79 =>
                    Vb (ldc v79 h7) fun v80 =>
                    Vb (ixs 1 data0 pivot11) fun v83 =>
                    Vb (ldc v83 h7) fun v84 =>
                    S.C I.f_cmp_Less_int [v80, v84] h7 fun v85 h13 =>
                    Vb (uno .not v85) fun v86 =>
                    J3 v86 h13) (
                    J3 (Value.bool false) h7)) fun J2 =>
              Jn1 (fun v68 h14 =>
                  Br v68 (
                    S.C I.f_slices_partialInsertionSortOrdered_int [data0, a1_1, b2_1] h14 fun v72 h15 =>
                    Br v72 (
                      R (.tuple #[]) h15) (
                      J2 h15)) (
                    J2 h14)) fun J4 =>
              Br wasBalanced8 (
                Br wasPartitioned9 (
                  Vb (bin .eql hint12 (Value.int IntKind.i64 1)) fun v67 =>
                  J4 v67 h6) (
                  J4 (Value.bool false) h6)) (
                J4 (Value.bool false) h6)) fun J1 =>
          Vb (bin .eql v48 (Value.int IntKind.i64 2)) fun v50 =>
          Br v50 (
            S.C I.f_slices_reverseRangeOrdered_int [data0, a1_1, b2_1] h5 fun v54 h16 =>
            Vb (bin .sub b2_1 (Value.int IntKind.i64 1)) fun v56 =>
            Vb (bin .sub v47 a1_1) fun v59 =>
            Vb (bin .sub v56 v59) fun v60 =>
            J1 v60 (Value.int IntKind.i64 1) h16) (
            J1 v47 v48 h5)) fun J0 =>
      Vb (uno .not wasBalanced8) fun v35 =>
      Br v35 (
        S.C I.f_slices_breakPatternsOrdered_int [data0, a1_1, b2_1] h1 fun v39 h17 =>
        Vb (bin .sub limit3_1 (Value.int IntKind.i64 1)) fun v41 =>
        J0 v41 h17) (
        J0 limit3_1 h1)))

def F_layout_Layout_from (S : Sys) (I : Ids) (l0 part1 : Value) (h : Hp) (R : Value → Hp → Prop) : Prop :=
  Eb (nw (Value.cells l0) I.t_layout_Layout h) fun l2 h1 =>
  Lp2 (Value.int IntKind.i64 0) (Value.int IntKind.i64 0) h1 fun n5 v8 h2 again0 =>
  Vb (bin .lss v8 part1) fun v9 =>
  Br v9 (
    Vb (lda 3 l2 h2) fun v12 =>
    S.C I.f_layout_Layout_long [v12, v8] h2 fun v14 h3 =>
    Vb (bin .add n5 v14) fun v15 =>
    Vb (bin .add v8 (Value.int IntKind.i64 1)) fun v16 =>
    again0 v15 v16 h3) (
    R n5 h2)

def F_layout_Layout_Check (S : Sys) (I : Ids) (l0 : Value) (h : Hp) (R : Value → Hp → Prop) : Prop :=
  Eb (nw (Value.cells l0) I.t_layout_Layout h) fun l1 h1 =>
  Jn1 (fun v3 h2 =>
      Br v3 (
        R (Value.int IntKind.i64 3) h2) (
        Vb (lda 3 l1 h2) fun v17 =>
        S.C I.f_layout_Layout_from [v17, (Value.int IntKind.i64 7)] h2 fun v18 h3 =>
        Vb (bin .gtr v18 (Value.int IntKind.i64 4096)) fun v19 =>
        Br v19 (
          R (Value.int IntKind.i64 19) h3) (
          R (Value.int IntKind.i64 0) h3))) fun J0 =>
  Vb (fa 0 l1) fun v4 =>
  Vb (ldc v4 h1) fun v5 =>
  S.C I.f_layout_between [v5, (Value.int IntKind.i64 1), (Value.int IntKind.i64 8)] h1 fun v6 h4 =>
  Vb (uno .not v6) fun v7 =>
  Br v7 (
    J0 v7 h4) (
    Vb (fa 1 l1) fun v8 =>
    Vb (ldc v8 h4) fun v9 =>
    S.C I.f_layout_between [v9, (Value.int IntKind.i64 1), (Value.int IntKind.i64 2048)] h4 fun v10 h5 =>
    Vb (uno .not v10) fun v11 =>
    Br v11 (
      J0 v11 h5) (
      Vb (fa 2 l1) fun v12 =>
      Vb (ldc v12 h5) fun v13 =>
      S.C I.f_layout_between [v13, (Value.int IntKind.i64 0), (Value.int IntKind.i64 64)] h5 fun v14 h6 =>
      Vb (uno .not v14) fun v15 =>
      J0 v15 h6))

def F_memory_Memory_Size (S : Sys) (I : Ids) (m0 : Value) (h : Hp) (R : Value → Hp → Prop) : Prop :=
  Eb (nw (Value.cells m0) I.t_memory_Memory h) fun m1 h1 =>
  Vb (fa 1 m1) fun v4 =>
  Vb (ldc v4 h1) fun v5 =>
  Vb (lnS v5) fun v6 =>
  Vb (fa 0 m1) fun v7 =>
  Vb (ldc v7 h1) fun v8 =>
  Vb (lnS v8) fun v9 =>
  R (.tuple #[v6, v9]) h1

def F_memory_Memory_History (S : Sys) (I : Ids) (m0 at1 : Value) (h : Hp) (R : Value → Hp → Prop) : Prop :=
  Eb (nw (Value.cells m0) I.t_memory_Memory h) fun m2 h1 =>
  Eb (nw #[Value.slice none 0 0] I.t_history_History h1) fun v4 h2 =>
  Vb (lda 2 m2 h2) fun v6 =>
  S.C I.f_memory_Memory_place [v6, at1] h2 fun v8 h3 =>
  Vb (uno .not v8) fun v9 =>
  Br v9 (
    Vb (bldS [(0, 1)] #[Value.slice none 0 0] []) fun v10 =>
    Sb (sto 1 v4 v10 h3) fun h4 =>
    Vb (lda 1 v4 h4) fun r0 =>
    R (.tuple #[r0, (Value.bool false)]) h4) (
    Vb (fa 0 m2) fun v11 =>
    Vb (ldc v11 h3) fun v12 =>
    Vb (ixs 1 v12 at1) fun v14 =>
    Vb (lda 1 v14 h3) fun v15 =>
    Sb (sto 1 v4 v15 h3) fun h5 =>
    Vb (lda 1 v4 h5) fun r0 =>
    R (.tuple #[r0, (Value.bool true)]) h5)

def F_history_History_Last (S : Sys) (I : Ids) (x0 : Value) (h : Hp) (R : Value → Hp → Prop) : Prop :=
  Eb (nw (Value.cells x0) I.t_history_History h) fun x1 h1 =>
  Eb (nw #[Value.int IntKind.i64 0, Value.int IntKind.u32 0, Value.int IntKind.u32 0, Value.int IntKind.i64 0, Value.map none] I.t_history_Message h1) fun v2 h2 =>
  Vb (lda 1 x1 h2) fun v6 =>
  Vb (fa 0 x1) fun v7 =>
  Vb (ldc v7 h2) fun v8 =>
  Vb (lnS v8) fun v9 =>
  Vb (bin .sub v9 (Value.int IntKind.i64 1)) fun v10 =>
  S.C I.f_history_History_At [v6, v10] h2 fun v11 h3 =>
  Vb (ext 0 v11) fun v12 =>
  Vb (ext 1 v11) fun v13 =>
  Eb (nw #[Value.int IntKind.i64 0, Value.int IntKind.u32 0, Value.int IntKind.u32 0, Value.int IntKind.i64 0, Value.map none] I.t_history_Message h3) fun m3 h4 =>
  Sb (sto 5 m3 v12 h4) fun h5 =>
  Vb (lda 5 m3 h5) fun v14 =>
  Sb (sto 5 v2 v14 h5) fun h6 =>
  Vb (lda 5 v2 h6) fun r0 =>
  R r0 h6

def F_layout_Layout_many (S : Sys) (I : Ids) (l0 part1 : Value) (h : Hp) (R : Value → Hp → Prop) : Prop :=
  Eb (nw (Value.cells l0) I.t_layout_Layout h) fun l2 h1 =>
  Vb (fa 0 l2) fun v5 =>
  Vb (ldc v5 h1) fun v6 =>
  Vb (fa 0 l2) fun v7 =>
  Vb (ldc v7 h1) fun v8 =>
  Vb (fa 1 l2) fun v9 =>
  Vb (ldc v9 h1) fun v10 =>
  Vb (fa 0 l2) fun v11 =>
  Vb (ldc v11 h1) fun v12 =>
  Vb (fa 2 l2) fun v13 =>
  Vb (ldc v13 h1) fun v14 =>
  Vb (fa 2 l2) fun v15 =>
  Vb (ldc v15 h1) fun v16 =>
  Vb (bldA 1 #[Value.int IntKind.i64 0, Value.int IntKind.i64 0, Value.int IntKind.i64 0, Value.int IntKind.i64 0, Value.int IntKind.i64 0, Value.int IntKind.i64 0, Value.int IntKind.i64 0] [(0, (Value.int IntKind.i64 1)), (1, v6), (2, v8), (3, v10), (4, v12), (5, v14), (6, v16)]) fun v17 =>
  Vb (idc 7 1 v17 part1) fun v19 =>
  R v19 h1

def F_history_New (S : Sys) (I : Ids) (w0 : Value) (h : Hp) (R : Value → Hp → Prop) : Prop :=
  Eb (nw (Value.cells w0) I.t_api_Word h) fun w1 h1 =>
  Eb (nw #[Value.slice none 0 0] I.t_history_History h1) fun v2 h2 =>
  Vb (lda 3 w1 h2) fun v3 =>
  Vb (bldS [(0, 3), (3, 1), (4, 1)] #[Value.int IntKind.i64 0, Value.int IntKind.u32 0, Value.int IntKind.u32 0, Value.int IntKind.i64 0, Value.map none] [(0, v3)]) fun v4 =>
  Eb (bsl #[Value.int IntKind.i64 0, Value.int IntKind.u32 0, Value.int IntKind.u32 0, Value.int IntKind.i64 0, Value.map none] 5 1 I.t_history_Message [(0, v4)] h2) fun v5 h3 =>
  Vb (bldS [(0, 1)] #[Value.slice none 0 0] [(0, v5)]) fun v6 =>
  Sb (sto 1 v2 v6 h3) fun h4 =>
  Vb (lda 1 v2 h4) fun r0 =>
  R r0 h4

def F_slices_Clone_api_Word_api_Word (S : Sys) (I : Ids) (s0 : Value) (h : Hp) (R : Value → Hp → Prop) : Prop :=
  Vb (pos? (eqS s0 (Value.slice none 0 0))) fun v4 =>
  Br v4 (
    R (Value.slice none 0 0) h) (
    Eb (bsl #[Value.int IntKind.i64 0, Value.int IntKind.u32 0, Value.int IntKind.u32 0] 3 0 I.t_api_Word [] h) fun v5 h1 =>
    Ap I.t_api_Word #[Value.int IntKind.i64 0, Value.int IntKind.u32 0, Value.int IntKind.u32 0] 3 16 v5 s0 h1 fun v7 h2 =>
    R v7 h2)

def F_task_Task_told (S : Sys) (I : Ids) (t0 c1 a2 done3 : Value) (h : Hp) (R : Value → Hp → Prop) : Prop :=
  Eb (nw (Value.cells t0) I.t_task_Task h) fun t4 h1 =>
  Eb (nw (Value.cells a2) I.t_api_Act h1) fun a6 h2 =>
  Eb (nw #[Value.nilIface, Value.nilFunc, Value.int IntKind.i64 0, Value.int IntKind.i64 0, Value.int IntKind.i64 0, Value.int IntKind.u32 0, Value.int IntKind.u32 0, Value.int IntKind.i64 0, Value.int IntKind.u32 0, Value.int IntKind.u32 0, Value.slice none 0 0] I.t_task_Task h2) fun v8 h3 =>
  Vb (lda 8 a6 h3) fun v10 =>
  Vb (fa 0 t4) fun v11 =>
  Sb (sto 1 v11 c1 h3) fun h4 =>
  lda 8 a6 h4 = some v10 ∧
  Vb (fa 2 t4) fun v12 =>
  Sb (sto 8 v12 v10 h4) fun h5 =>
  Vb (fa 1 t4) fun v13 =>
  Sb (sto 1 v13 (Value.nilFunc) h5) fun h6 =>
  Jn1 (fun v18 h7 =>
      Br v18 (
        Vb (bldS [(0, 1), (1, 1), (2, 3), (5, 3)] #[Value.int IntKind.i64 0, Value.int IntKind.i64 0, Value.int IntKind.i64 0, Value.int IntKind.u32 0, Value.int IntKind.u32 0, Value.int IntKind.i64 0, Value.int IntKind.u32 0, Value.int IntKind.u32 0] []) fun v19 =>
        Vb (fa 2 t4) fun v20 =>
        Sb (sto 8 v20 v19 h7) fun h8 =>
        Vb (lda 11 t4 h8) fun v21 =>
        Sb (sto 11 v8 v21 h8) fun h9 =>
        Vb (lda 11 v8 h9) fun r0 =>
        R r0 h9) (
        Vb (nck c1) fun v23 =>
        Vb (some (.func (.method "Next") #[v23] #[])) fun v24 =>
        Vb (fa 1 t4) fun v25 =>
        Sb (sto 1 v25 v24 h7) fun h10 =>
        Vb (lda 11 t4 h10) fun v26 =>
        Sb (sto 11 v8 v26 h10) fun h11 =>
        Vb (lda 11 v8 h11) fun r0 =>
        R r0 h11)) fun J0 =>
  Br done3 (
    J0 (Value.bool true) h6) (
    Vb (inl .eql c1) fun v17 =>
    J0 v17 h6)

def F_machine_Machine_check (S : Sys) (I : Ids) (m0 t1 a2 : Value) (h : Hp) (R : Value → Hp → Prop) : Prop :=
  Eb (nw (Value.cells m0) I.t_machine_Machine h) fun m3 h1 =>
  Eb (nw (Value.cells a2) I.t_api_Act h1) fun a5 h2 =>
  Vb (lda 7 m3 h2) fun v10 =>
  S.C I.f_machine_Machine_Size [v10] h2 fun v11 h3 =>
  Vb (ext 0 v11) fun v12 =>
  Vb (ext 1 v11) fun v13 =>
  Jn1 (fun v14 h4 =>
      Br v14 (
        R (Value.int IntKind.i64 3) h4) (
        Jn1 (fun v22 h5 =>
            Br v22 (
              R (Value.int IntKind.i64 2) h5) (
              Jn1 (fun v31 h6 =>
                  Br v31 (
                    R (Value.int IntKind.i64 1) h6) (
                    R (Value.int IntKind.i64 0) h6)) fun J2 =>
              Vb (fa 0 a5) fun v32 =>
              Vb (ldc v32 h5) fun v33 =>
              Vb (bin .neq v33 (Value.int IntKind.i64 0)) fun v34 =>
              Br v34 (
                Vb (fa 0 a5) fun v36 =>
                Vb (ldc v36 h5) fun v37 =>
                Vb (bin .neq v37 (Value.int IntKind.i64 8)) fun v38 =>
                Br v38 (
                  Vb (fa 1 a5) fun v41 =>
                  Vb (ldc v41 h5) fun v42 =>
                  Vb (bin .lss v42 (Value.int IntKind.i64 0)) fun v43 =>
                  Br v43 (
                    J2 (Value.bool true) h5) (
                    Vb (fa 1 a5) fun v45 =>
                    Vb (ldc v45 h5) fun v46 =>
                    Vb (bin .geq v46 v13) fun v48 =>
                    J2 v48 h5)) (
                  J2 (Value.bool false) h5)) (
                J2 (Value.bool false) h5))) fun J1 =>
        Vb (fa 0 a5) fun v23 =>
        Vb (ldc v23 h4) fun v24 =>
        Vb (bin .lss v24 (Value.int IntKind.i64 0)) fun v25 =>
        Br v25 (
          J1 (Value.bool true) h4) (
          Vb (fa 0 a5) fun v27 =>
          Vb (ldc v27 h4) fun v28 =>
          Vb (bin .gtr v28 (Value.int IntKind.i64 8)) fun v29 =>
          J1 v29 h4))) fun J0 =>
  Vb (bin .lss t1 (Value.int IntKind.i64 1)) fun v16 =>
  Br v16 (
    J0 (Value.bool true) h3) (
    Vb (bin .gtr t1 v12) fun v20 =>
    J0 v20 h3)

def F_machine_Changes (S : Sys) (I : Ids) (a0 : Value) (h : Hp) (R : Value → Hp → Prop) : Prop :=
  Eb (nw (Value.cells a0) I.t_api_Act h) fun a1 h1 =>
  Jn1 (fun v2 h2 =>
      R v2 h2) fun J0 =>
  Vb (fa 0 a1) fun v3 =>
  Vb (ldc v3 h1) fun v4 =>
  Vb (bin .eql v4 (Value.int IntKind.i64 3)) fun v5 =>
  Br v5 (
    J0 (Value.bool true) h1) (
    Vb (fa 0 a1) fun v7 =>
    Vb (ldc v7 h1) fun v8 =>
    Vb (bin .eql v8 (Value.int IntKind.i64 4)) fun v9 =>
    Br v9 (
      J0 (Value.bool true) h1) (
      Vb (fa 0 a1) fun v12 =>
      Vb (ldc v12 h1) fun v13 =>
      Vb (bin .eql v13 (Value.int IntKind.i64 6)) fun v14 =>
      J0 v14 h1))

def F_machine_Machine_write (S : Sys) (I : Ids) (m0 t1 a2 : Value) (h : Hp) (R : Value → Hp → Prop) : Prop :=
  Eb (nw (Value.cells m0) I.t_machine_Machine h) fun m3 h1 =>
  Eb (nw (Value.cells a2) I.t_api_Act h1) fun a5 h2 =>
  Eb (nw #[Value.slice none 0 0, Value.slice none 0 0, Value.slice none 0 0, Value.slice none 0 0, Value.map none, Value.slice none 0 0, Value.int IntKind.i64 0] I.t_machine_Machine h2) fun v6 h3 =>
  Eb (nw #[Value.int IntKind.i64 0, Value.int IntKind.u32 0, Value.int IntKind.u32 0, Value.bool false] I.t_api_Got h3) fun v7 h4 =>
  Vb (bldS [(0, 3), (3, 1)] #[Value.int IntKind.i64 0, Value.int IntKind.u32 0, Value.int IntKind.u32 0, Value.bool false] [(1, (Value.bool true))]) fun v9 =>
  Eb (nw #[Value.int IntKind.i64 0, Value.int IntKind.u32 0, Value.int IntKind.u32 0, Value.bool false] I.t_api_Got h4) fun g8 h5 =>
  Sb (sto 4 g8 v9 h5) fun h6 =>
  Jn0 (fun h7 =>
      Jn0 (fun h8 =>
          Vb (lda 7 m3 h8) fun v59 =>
          Vb (lda 4 g8 h8) fun v60 =>
          Sb (sto 7 v6 v59 h8) fun h9 =>
          lda 4 g8 h9 = some v60 ∧
          Sb (sto 4 v7 v60 h9) fun h10 =>
          Vb (lda 7 v6 h10) fun r0 =>
          Vb (lda 4 v7 h10) fun r1 =>
          R (.tuple #[r0, r1]) h10) fun J1 =>
      Vb (fa 3 g8) fun v46 =>
      Vb (ldc v46 h7) fun v47 =>
      Br v47 (
        Vb (fa 2 m3) fun v49 =>
        Vb (lda 3 v49 h7) fun v50 =>
        Vb (fa 1 a5) fun v51 =>
        Vb (ldc v51 h7) fun v52 =>
        Vb (fa 5 a5) fun v53 =>
        Vb (lda 3 v53 h7) fun v54 =>
        S.C I.f_line_Lines_Store [v50, v52, v54] h7 fun v55 h11 =>
        Vb (ext 0 v55) fun v56 =>
        Vb (ext 1 v55) fun v57 =>
        Vb (fa 2 m3) fun v58 =>
        Sb (sto 3 v58 v56 h11) fun h12 =>
        J1 h12) (
        J1 h7)) fun J0 =>
  Vb (fa 0 a5) fun v10 =>
  Vb (ldc v10 h6) fun v11 =>
  Vb (bin .eql v11 (Value.int IntKind.i64 6)) fun v12 =>
  Br v12 (
    Vb (fa 0 m3) fun v14 =>
    Vb (lda 2 v14 h6) fun v15 =>
    Vb (fa 1 a5) fun v17 =>
    Vb (ldc v17 h6) fun v18 =>
    Vb (fa 2 a5) fun v19 =>
    Vb (lda 3 v19 h6) fun v20 =>
    Vb (fa 5 a5) fun v21 =>
    Vb (lda 3 v21 h6) fun v22 =>
    S.C I.f_memory_Memory_Swap [v15, t1, v18, v20, v22] h6 fun v23 h13 =>
    Vb (ext 0 v23) fun v24 =>
    Vb (ext 1 v23) fun v25 =>
    Vb (ext 2 v23) fun v26 =>
    Vb (ext 3 v23) fun v27 =>
    Vb (fa 0 m3) fun v28 =>
    Sb (sto 2 v28 v24 h13) fun h14 =>
    Vb (fa 0 g8) fun v29 =>
    Sb (sto 3 v29 v25 h14) fun h15 =>
    Vb (fa 3 g8) fun v30 =>
    Sb (sto 1 v30 v26 h15) fun h16 =>
    J0 h16) (
    Vb (fa 0 m3) fun v32 =>
    Vb (lda 2 v32 h6) fun v33 =>
    Vb (fa 1 a5) fun v35 =>
    Vb (ldc v35 h6) fun v36 =>
    Vb (fa 5 a5) fun v37 =>
    Vb (lda 3 v37 h6) fun v38 =>
    Vb (fa 0 a5) fun v39 =>
    Vb (ldc v39 h6) fun v40 =>
    Vb (bin .eql v40 (Value.int IntKind.i64 4)) fun v41 =>
    S.C I.f_memory_Memory_Store [v33, t1, v36, v38, v41] h6 fun v42 h17 =>
    Vb (ext 0 v42) fun v43 =>
    Vb (ext 1 v42) fun v44 =>
    Vb (fa 0 m3) fun v45 =>
    Sb (sto 2 v45 v43 h17) fun h18 =>
    J0 h18)

def F_machine_Machine_read (S : Sys) (I : Ids) (m0 t1 a2 choice3 : Value) (h : Hp) (R : Value → Hp → Prop) : Prop :=
  Eb (nw (Value.cells m0) I.t_machine_Machine h) fun m4 h1 =>
  Eb (nw (Value.cells a2) I.t_api_Act h1) fun a6 h2 =>
  Eb (nw #[Value.slice none 0 0, Value.slice none 0 0, Value.slice none 0 0, Value.slice none 0 0, Value.map none, Value.slice none 0 0, Value.int IntKind.i64 0] I.t_machine_Machine h2) fun v8 h3 =>
  Eb (nw #[Value.int IntKind.i64 0, Value.int IntKind.u32 0, Value.int IntKind.u32 0, Value.bool false] I.t_api_Got h3) fun v9 h4 =>
  Eb (nw #[Value.int IntKind.i64 0, Value.int IntKind.u32 0, Value.int IntKind.u32 0] I.t_api_Word h4) fun w10 h5 =>
  Jn0 (fun h6 =>
      Vb (lda 7 m4 h6) fun v40 =>
      Vb (lda 3 w10 h6) fun v41 =>
      Vb (bldS [(0, 3), (3, 1)] #[Value.int IntKind.i64 0, Value.int IntKind.u32 0, Value.int IntKind.u32 0, Value.bool false] [(0, v41), (1, (Value.bool true))]) fun v42 =>
      Sb (sto 7 v8 v40 h6) fun h7 =>
      lda 3 w10 h7 = some v41 ∧
      Sb (sto 4 v9 v42 h7) fun h8 =>
      Vb (lda 7 v8 h8) fun r0 =>
      Vb (lda 4 v9 h8) fun r1 =>
      R (.tuple #[r0, r1]) h8) fun J0 =>
  Vb (fa 0 a6) fun v11 =>
  Vb (ldc v11 h5) fun v12 =>
  Vb (bin .eql v12 (Value.int IntKind.i64 5)) fun v13 =>
  Br v13 (
    Vb (fa 0 m4) fun v15 =>
    Vb (lda 2 v15 h5) fun v16 =>
    Vb (fa 1 a6) fun v18 =>
    Vb (ldc v18 h5) fun v19 =>
    S.C I.f_memory_Memory_Look [v16, t1, v19] h5 fun v20 h9 =>
    Vb (ext 0 v20) fun v21 =>
    Vb (ext 1 v20) fun v22 =>
    Vb (ext 2 v20) fun v23 =>
    Vb (fa 0 m4) fun v24 =>
    Sb (sto 2 v24 v21 h9) fun h10 =>
    Sb (sto 3 w10 v22 h10) fun h11 =>
    J0 h11) (
    Vb (fa 0 m4) fun v26 =>
    Vb (lda 2 v26 h5) fun v27 =>
    Vb (fa 1 a6) fun v29 =>
    Vb (ldc v29 h5) fun v30 =>
    Vb (fa 0 a6) fun v31 =>
    Vb (ldc v31 h5) fun v32 =>
    Vb (bin .eql v32 (Value.int IntKind.i64 2)) fun v33 =>
    S.C I.f_memory_Memory_Load [v27, t1, v30, v33, choice3] h5 fun v35 h12 =>
    Vb (ext 0 v35) fun v36 =>
    Vb (ext 1 v35) fun v37 =>
    Vb (ext 2 v35) fun v38 =>
    Vb (fa 0 m4) fun v39 =>
    Sb (sto 2 v39 v36 h12) fun h13 =>
    Sb (sto 3 w10 v37 h13) fun h14 =>
    J0 h14)

def F_slices_Clip_api_Got_api_Got (S : Sys) (I : Ids) (s0 : Value) (h : Hp) (R : Value → Hp → Prop) : Prop :=
  Vb (lnS s0) fun v5 =>
  Vb (lnS s0) fun v7 =>
  Vb (slc 4 s0 none (some v5) (some v7)) fun v8 =>
  R v8 h

def F_slices_IndexFunc_int64_int64 (S : Sys) (I : Ids) (s0 f1 : Value) (h : Hp) (R : Value → Hp → Prop) : Prop :=
  Vb (lnS s0) fun v7 =>
  Lp1 (Value.int IntKind.i64 0) h fun v8 h1 again0 =>
  Vb (bin .lss v8 v7) fun v9 =>
  Br v9 (
    Vb (ixs 1 s0 v8) fun v14 =>
    Vb (ldc v14 h1) fun v15 =>
    Cw S.C S.Y I.mt f1 [v15] h1 fun v16 h2 =>
    Br v16 (
      R v8 h2) (
      Vb (bin .add v8 (Value.int IntKind.i64 1)) fun v18 =>
      again0 v18 h2)) (
    R (Value.int IntKind.i64 (-1)) h1)

def F_slices_insertionSortOrdered_int (S : Sys) (I : Ids) (data0 a1 b2 : Value) (h : Hp) (R : Value → Hp → Prop) : Prop :=
  Vb (bin .add a1 (Value.int IntKind.i64 1)) fun v9 =>
  Lp1 v9 h fun i6 h1 again0 =>
  Vb (bin .lss i6 b2) fun v12 =>
  Br v12 (
    Lp1 i6 h1 fun j7 h2 again1 =>
    Jn1 (fun v30 h3 =>
        Br v30 (
          Vb (bin .sub j7 (Value.int IntKind.i64 1)) fun v37 =>
          Vb (bin .sub j7 (Value.int IntKind.i64 1)) fun v40 =>
          Vb (ixs 1 data0 v40) fun v41 =>
          Vb (ldc v41 h3) fun v42 =>
          Vb (ixs 1 data0 j7) fun v45 =>
          Vb (ldc v45 h3) fun v46 =>
          Vb (ixs 1 data0 j7) fun v47 =>
          Sb (sto 1 v47 v42 h3) fun h4 =>
          Vb (ixs 1 data0 v37) fun v48 =>
          Sb (sto 1 v48 v46 h4) fun h5 =>
          Vb (bin .sub j7 (Value.int IntKind.i64 1)) fun v32 =>
          again1 v32 h5) (
          Vb (bin .add i6 (Value.int IntKind.i64 1)) fun v14 =>
          again0 v14 h3)) fun J0 =>
    Vb (bin .gtr j7 a1) fun v18 =>
    Br v18 (
      Vb (ixs 1 data0 j7) fun v22 =>
      Vb (ldc v22 h2) fun v23 =>
      Vb (bin .sub j7 (Value.int IntKind.i64 1)) fun v26 =>
      Vb (ixs 1 data0 v26) fun v27 =>
      Vb (ldc v27 h2) fun v28 =>
      S.C I.f_cmp_Less_int [v23, v28] h2 fun v29 h6 =>
      J0 v29 h6) (
      J0 (Value.bool false) h2)) (
    R (.tuple #[]) h1)

def F_layout_Layout_long (S : Sys) (I : Ids) (l0 part1 : Value) (h : Hp) (R : Value → Hp → Prop) : Prop :=
  Eb (nw (Value.cells l0) I.t_layout_Layout h) fun l2 h1 =>
  Vb (lda 3 l2 h1) fun v6 =>
  Vb (ixa 7 1 (.pointer (some ⟨0, 0, none⟩)) part1) fun v10 =>
  Vb (ldc v10 h1) fun v11 =>
  S.C I.f_layout_Layout_many [v6, part1] h1 fun v8 h2 =>
  ldc v10 h2 = some v11 ∧
  Vb (bin .mul v8 v11) fun v12 =>
  Jn1 (fun n5 h3 =>
      Vb (bin .add n5 (Value.int IntKind.i64 8)) fun v24 =>
      Vb (bin .sub v24 (Value.int IntKind.i64 1)) fun v25 =>
      Vb (bin .quo v25 (Value.int IntKind.i64 8)) fun v26 =>
      Vb (bin .mul v26 (Value.int IntKind.i64 8)) fun v27 =>
      R v27 h3) fun J0 =>
  Jn1 (fun v22 h4 =>
      Br v22 (
        J0 (Value.int IntKind.i64 8) h4) (
        J0 v12 h4)) fun J1 =>
  Vb (ixa 7 1 (.pointer (some ⟨0, 0, none⟩)) part1) fun v14 =>
  Vb (ldc v14 h2) fun v15 =>
  Vb (bin .eql v15 (Value.int IntKind.i64 0)) fun v16 =>
  Br v16 (
    Vb (lda 3 l2 h2) fun v18 =>
    S.C I.f_layout_Layout_many [v18, part1] h2 fun v20 h5 =>
    Vb (bin .gtr v20 (Value.int IntKind.i64 0)) fun v21 =>
    J1 v21 h5) (
    J1 (Value.bool false) h2)

def F_layout_between (S : Sys) (I : Ids) (n0 least1 most2 : Value) (h : Hp) (R : Value → Hp → Prop) : Prop :=
  Jn1 (fun v6 h1 =>
      R v6 h1) fun J0 =>
  Vb (bin .geq n0 least1) fun v9 =>
  Br v9 (
    Vb (bin .leq n0 most2) fun v13 =>
    J0 v13 h) (
    J0 (Value.bool false) h)

def F_memory_Memory_place (S : Sys) (I : Ids) (m0 at1 : Value) (h : Hp) (R : Value → Hp → Prop) : Prop :=
  Eb (nw (Value.cells m0) I.t_memory_Memory h) fun m2 h1 =>
  Jn1 (fun v4 h2 =>
      R v4 h2) fun J0 =>
  Vb (bin .geq at1 (Value.int IntKind.i64 0)) fun v6 =>
  Br v6 (
    Vb (fa 0 m2) fun v9 =>
    Vb (ldc v9 h1) fun v10 =>
    Vb (lnS v10) fun v11 =>
    Vb (bin .lss at1 v11) fun v12 =>
    J0 v12 h1) (
    J0 (Value.bool false) h1)

def F_history_History_At (S : Sys) (I : Ids) (x0 i1 : Value) (h : Hp) (R : Value → Hp → Prop) : Prop :=
  Eb (nw (Value.cells x0) I.t_history_History h) fun x2 h1 =>
  Eb (nw #[Value.int IntKind.i64 0, Value.int IntKind.u32 0, Value.int IntKind.u32 0, Value.int IntKind.i64 0, Value.map none] I.t_history_Message h1) fun v4 h2 =>
  Jn1 (fun v14 h3 =>
      Br v14 (
        Vb (bldS [(0, 3), (3, 1), (4, 1)] #[Value.int IntKind.i64 0, Value.int IntKind.u32 0, Value.int IntKind.u32 0, Value.int IntKind.i64 0, Value.map none] []) fun v15 =>
        Sb (sto 5 v4 v15 h3) fun h4 =>
        Vb (lda 5 v4 h4) fun r0 =>
        R (.tuple #[r0, (Value.bool false)]) h4) (
        Vb (fa 0 x2) fun v16 =>
        Vb (ldc v16 h3) fun v17 =>
        Vb (ixs 5 v17 i1) fun v19 =>
        Vb (lda 5 v19 h3) fun v20 =>
        Sb (sto 5 v4 v20 h3) fun h5 =>
        Vb (lda 5 v4 h5) fun r0 =>
        R (.tuple #[r0, (Value.bool true)]) h5)) fun J0 =>
  Vb (bin .lss i1 (Value.int IntKind.i64 0)) fun v7 =>
  Br v7 (
    J0 (Value.bool true) h2) (
    Vb (fa 0 x2) fun v10 =>
    Vb (ldc v10 h2) fun v11 =>
    Vb (lnS v11) fun v12 =>
    Vb (bin .geq i1 v12) fun v13 =>
    J0 v13 h2)

def F_memory_Memory_Swap (S : Sys) (I : Ids) (m0 t1 at2 old3 next4 : Value) (h : Hp) (R : Value → Hp → Prop) : Prop :=
  Eb (nw (Value.cells m0) I.t_memory_Memory h) fun m5 h1 =>
  Eb (nw (Value.cells old3) I.t_api_Word h1) fun old8 h2 =>
  Eb (nw (Value.cells next4) I.t_api_Word h2) fun next9 h3 =>
  Eb (nw #[Value.slice none 0 0, Value.slice none 0 0] I.t_memory_Memory h3) fun v10 h4 =>
  Eb (nw #[Value.int IntKind.i64 0, Value.int IntKind.u32 0, Value.int IntKind.u32 0] I.t_api_Word h4) fun v11 h5 =>
  Vb (lda 2 m5 h5) fun v18 =>
  S.C I.f_memory_Memory_Look [v18, t1, at2] h5 fun v21 h6 =>
  Vb (ext 0 v21) fun v22 =>
  Vb (ext 1 v21) fun v23 =>
  Vb (ext 2 v21) fun v24 =>
  Eb (nw #[Value.slice none 0 0, Value.slice none 0 0] I.t_memory_Memory h6) fun out14 h7 =>
  Eb (nw #[Value.int IntKind.i64 0, Value.int IntKind.u32 0, Value.int IntKind.u32 0] I.t_api_Word h7) fun w15 h8 =>
  Sb (sto 2 out14 v22 h8) fun h9 =>
  Sb (sto 3 w15 v23 h9) fun h10 =>
  Jn1 (fun v31 h11 =>
      Br v31 (
        Vb (lda 2 out14 h11) fun v32 =>
        Vb (lda 3 w15 h11) fun v33 =>
        Sb (sto 2 v10 v32 h11) fun h12 =>
        lda 3 w15 h12 = some v33 ∧
        Sb (sto 3 v11 v33 h12) fun h13 =>
        Vb (lda 2 v10 h13) fun r0 =>
        Vb (lda 3 v11 h13) fun r1 =>
        R (.tuple #[r0, r1, (Value.bool false), v24]) h13) (
        Vb (lda 2 out14 h11) fun v35 =>
        Vb (lda 3 next9 h11) fun v38 =>
        Vb (lda 3 w15 h11) fun v40 =>
        S.C I.f_memory_Memory_adds [v35, t1, at2, v38, (Value.bool true)] h11 fun v39 h14 =>
        lda 3 w15 h14 = some v40 ∧
        Sb (sto 2 v10 v39 h14) fun h15 =>
        lda 3 w15 h15 = some v40 ∧
        Sb (sto 3 v11 v40 h15) fun h16 =>
        Vb (lda 2 v10 h16) fun r0 =>
        Vb (lda 3 v11 h16) fun r1 =>
        R (.tuple #[r0, r1, (Value.bool true), (Value.int IntKind.i64 0)]) h16)) fun J0 =>
  Vb (bin .neq v24 (Value.int IntKind.i64 0)) fun v26 =>
  Br v26 (
    J0 (Value.bool true) h10) (
    Vb (lda 3 w15 h10) fun v28 =>
    Vb (lda 3 old8 h10) fun v29 =>
    Vb (neg? (eqA [true, true, true] v28 v29)) fun v30 =>
    J0 v30 h10)

def F_memory_Memory_Store (S : Sys) (I : Ids) (m0 t1 at2 w3 release4 : Value) (h : Hp) (R : Value → Hp → Prop) : Prop :=
  Eb (nw (Value.cells m0) I.t_memory_Memory h) fun m5 h1 =>
  Eb (nw (Value.cells w3) I.t_api_Word h1) fun w8 h2 =>
  Eb (nw #[Value.slice none 0 0, Value.slice none 0 0] I.t_memory_Memory h2) fun v10 h3 =>
  Vb (lda 2 m5 h3) fun v13 =>
  S.C I.f_memory_Memory_wrong [v13, t1, at2] h3 fun v16 h4 =>
  Vb (bin .neq v16 (Value.int IntKind.i64 0)) fun v18 =>
  Br v18 (
    Vb (lda 2 m5 h4) fun v19 =>
    Sb (sto 2 v10 v19 h4) fun h5 =>
    Vb (lda 2 v10 h5) fun r0 =>
    R (.tuple #[r0, v16]) h5) (
    Vb (lda 2 m5 h4) fun v21 =>
    Vb (lda 3 w8 h4) fun v24 =>
    S.C I.f_memory_Memory_adds [v21, t1, at2, v24, release4] h4 fun v26 h6 =>
    Sb (sto 2 v10 v26 h6) fun h7 =>
    Vb (lda 2 v10 h7) fun r0 =>
    R (.tuple #[r0, (Value.int IntKind.i64 0)]) h7)

def F_line_Lines_Store (S : Sys) (I : Ids) (l0 at1 w2 : Value) (h : Hp) (R : Value → Hp → Prop) : Prop :=
  Eb (nw (Value.cells l0) I.t_line_Lines h) fun l3 h1 =>
  Eb (nw (Value.cells w2) I.t_api_Word h1) fun w5 h2 =>
  Eb (nw #[Value.slice none 0 0, Value.slice none 0 0, Value.map none] I.t_line_Lines h2) fun v6 h3 =>
  Vb (lda 3 l3 h3) fun v9 =>
  S.C I.f_line_Lines_has [v9, at1] h3 fun v11 h4 =>
  Vb (uno .not v11) fun v12 =>
  Br v12 (
    Vb (lda 3 l3 h4) fun v13 =>
    Sb (sto 3 v6 v13 h4) fun h5 =>
    Vb (lda 3 v6 h5) fun r0 =>
    R (.tuple #[r0, (Value.int IntKind.i64 1)]) h5) (
    Vb (fa 1 l3) fun v14 =>
    Vb (ldc v14 h4) fun v15 =>
    S.C I.f_slices_Clone_line_log_line_log [v15] h4 fun v16 h6 =>
    Vb (fa 1 l3) fun v17 =>
    Sb (sto 1 v17 v16 h6) fun h7 =>
    Vb (fa 1 l3) fun v18 =>
    Vb (ldc v18 h7) fun v19 =>
    Vb (bin .quo at1 (Value.int IntKind.i64 8)) fun v21 =>
    Vb (ixs 2 v19 v21) fun v22 =>
    Jn0 (fun h8 =>
        Vb (lda 3 l3 h8) fun v36 =>
        Sb (sto 3 v6 v36 h8) fun h9 =>
        Vb (lda 3 v6 h9) fun r0 =>
        R (.tuple #[r0, (Value.int IntKind.i64 0)]) h9) fun J0 =>
    Vb (nck v22) fun v25 =>
    Vb (fa 0 v25) fun v26 =>
    Vb (ldc v26 h7) fun v27 =>
    Vb (lda 3 w5 h7) fun v30 =>
    Vb (bldS [(0, 1), (1, 3)] #[Value.int IntKind.i64 0, Value.int IntKind.i64 0, Value.int IntKind.u32 0, Value.int IntKind.u32 0] [(0, at1), (1, v30)]) fun v31 =>
    And (
      S.C I.f_slices_Clip_line_store_line_store [v27] h7 fun v28 h10 =>
      lda 3 w5 h10 = some v30 ∧
      Eb (bsl #[Value.int IntKind.i64 0, Value.int IntKind.i64 0, Value.int IntKind.u32 0, Value.int IntKind.u32 0] 4 1 I.t_line_store [(0, v31)] h10) fun v32 h11 =>
      Ap I.t_line_store #[Value.int IntKind.i64 0, Value.int IntKind.i64 0, Value.int IntKind.u32 0, Value.int IntKind.u32 0] 4 24 v28 v32 h11 fun v33 h12 =>
      Vb (nck v22) fun v34 =>
      Vb (fa 0 v34) fun v35 =>
      Sb (sto 1 v35 v33 h12) fun h13 =>
      J0 h13) (
      Eb (bsl #[Value.int IntKind.i64 0, Value.int IntKind.i64 0, Value.int IntKind.u32 0, Value.int IntKind.u32 0] 4 1 I.t_line_store [(0, v31)] h7) fun v32_1 h14 =>
      ldc v26 h14 = some v27 ∧
      S.C I.f_slices_Clip_line_store_line_store [v27] h14 fun v28_1 h15 =>
      Ap I.t_line_store #[Value.int IntKind.i64 0, Value.int IntKind.i64 0, Value.int IntKind.u32 0, Value.int IntKind.u32 0] 4 24 v28_1 v32_1 h15 fun v33_1 h16 =>
      Vb (nck v22) fun v34_1 =>
      Vb (fa 0 v34_1) fun v35_1 =>
      Sb (sto 1 v35_1 v33_1 h16) fun h17 =>
      J0 h17))

def F_line_Lines_has (S : Sys) (I : Ids) (l0 at1 : Value) (h : Hp) (R : Value → Hp → Prop) : Prop :=
  Eb (nw (Value.cells l0) I.t_line_Lines h) fun l2 h1 =>
  Jn1 (fun v4 h2 =>
      R v4 h2) fun J0 =>
  Vb (bin .geq at1 (Value.int IntKind.i64 0)) fun v6 =>
  Br v6 (
    Vb (fa 0 l2) fun v9 =>
    Vb (ldc v9 h1) fun v10 =>
    Vb (lnS v10) fun v11 =>
    Vb (bin .lss at1 v11) fun v12 =>
    J0 v12 h1) (
    J0 (Value.bool false) h1)

def F_slices_Clone_line_log_line_log (S : Sys) (I : Ids) (s0 : Value) (h : Hp) (R : Value → Hp → Prop) : Prop :=
  Vb (pos? (eqS s0 (Value.slice none 0 0))) fun v4 =>
  Br v4 (
    R (Value.slice none 0 0) h) (
    Eb (bsl #[Value.slice none 0 0, Value.int IntKind.i64 0] 2 0 I.t_line_log [] h) fun v5 h1 =>
    Ap I.t_line_log #[Value.slice none 0 0, Value.int IntKind.i64 0] 2 32 v5 s0 h1 fun v7 h2 =>
    R v7 h2)

def F_memory_Memory_Look (S : Sys) (I : Ids) (m0 t1 at2 : Value) (h : Hp) (R : Value → Hp → Prop) : Prop :=
  Eb (nw (Value.cells m0) I.t_memory_Memory h) fun m3 h1 =>
  Eb (nw #[Value.slice none 0 0, Value.slice none 0 0] I.t_memory_Memory h1) fun v6 h2 =>
  Eb (nw #[Value.int IntKind.i64 0, Value.int IntKind.u32 0, Value.int IntKind.u32 0] I.t_api_Word h2) fun v7 h3 =>
  Vb (lda 2 m3 h3) fun v9 =>
  Vb (some (.func (.func I.f_memory_picker_last) #[(Value.int IntKind.i64 0)] #[])) fun v12 =>
  S.C I.f_memory_Memory_look [v9, t1, at2, (Value.bool true), v12] h3 fun v13 h4 =>
  Vb (ext 0 v13) fun v14 =>
  Vb (ext 1 v13) fun v15 =>
  Vb (ext 2 v13) fun v16 =>
  Sb (sto 2 v6 v14 h4) fun h5 =>
  Sb (sto 3 v7 v15 h5) fun h6 =>
  Vb (lda 2 v6 h6) fun r0 =>
  Vb (lda 3 v7 h6) fun r1 =>
  R (.tuple #[r0, r1, v16]) h6

def F_memory_Memory_adds (S : Sys) (I : Ids) (m0 t1 at2 w3 whole4 : Value) (h : Hp) (R : Value → Hp → Prop) : Prop :=
  Eb (nw (Value.cells m0) I.t_memory_Memory h) fun m5 h1 =>
  Eb (nw (Value.cells w3) I.t_api_Word h1) fun w8 h2 =>
  Eb (nw #[Value.slice none 0 0, Value.slice none 0 0] I.t_memory_Memory h2) fun v10 h3 =>
  Vb (fa 0 m5) fun v16 =>
  Vb (ldc v16 h3) fun v17 =>
  Vb (ixs 1 v17 at2) fun v19 =>
  Vb (lda 1 v19 h3) fun v20 =>
  Eb (nw #[Value.slice none 0 0] I.t_history_History h3) fun x11 h4 =>
  Sb (sto 1 x11 v20 h4) fun h5 =>
  Jn1 (fun v12 h6 =>
      Vb (lda 1 v12 h6) fun v28 =>
      Eb (nw #[Value.map none] I.t_view_View h6) fun told13 h7 =>
      Sb (sto 1 told13 v28 h7) fun h8 =>
      Jn0 (fun h9 =>
          Vb (fa 0 m5) fun v36 =>
          Vb (ldc v36 h9) fun v37 =>
          Vb (bin .add at2 (Value.int IntKind.i64 1)) fun v39 =>
          Vb (slc 1 v37 (some v39) none none) fun v40 =>
          Vb (fa 0 m5) fun v41 =>
          Vb (ldc v41 h9) fun v42 =>
          Vb (slc 1 v42 none (some at2) (some at2)) fun v45 =>
          Vb (lda 1 x11 h9) fun v46 =>
          Vb (lda 3 w8 h9) fun v47 =>
          Vb (lda 1 told13 h9) fun v49 =>
          Vb (bldS [(0, 3), (3, 1), (4, 1)] #[Value.int IntKind.i64 0, Value.int IntKind.u32 0, Value.int IntKind.u32 0, Value.int IntKind.i64 0, Value.map none] [(0, v47), (1, t1), (2, v49)]) fun v50 =>
          S.C I.f_history_History_Add [v46, v50] h9 fun v51 h10 =>
          ldc v41 h10 = some v42 ∧
          Eb (bsl #[Value.slice none 0 0] 1 1 I.t_history_History [(0, v51)] h10) fun v52 h11 =>
          ldc v41 h11 = some v42 ∧
          Ap I.t_history_History #[Value.slice none 0 0] 1 24 v45 v52 h11 fun v53 h12 =>
          Ap I.t_history_History #[Value.slice none 0 0] 1 24 v53 v40 h12 fun v56 h13 =>
          Vb (fa 0 m5) fun v57 =>
          Sb (sto 1 v57 v56 h13) fun h14 =>
          Vb (lda 2 m5 h14) fun v58 =>
          Vb (lda 1 v12 h14) fun v60 =>
          S.C I.f_memory_Memory_with [v58, t1, v60] h14 fun v61 h15 =>
          Sb (sto 2 v10 v61 h15) fun h16 =>
          Vb (lda 2 v10 h16) fun r0 =>
          R r0 h16) fun J1 =>
      Vb (uno .not whole4) fun v30 =>
      Br v30 (
        Vb (bldS [(0, 1)] #[Value.map none] []) fun v31 =>
        Vb (lda 1 x11 h8) fun v33 =>
        S.C I.f_history_History_Len [v33] h8 fun v34 h17 =>
        S.C I.f_view_View_With [v31, at2, v34] h17 fun v35 h18 =>
        Sb (sto 1 told13 v35 h18) fun h19 =>
        J1 h19) (
        J1 h8)) fun J0 =>
  Vb (lda 2 m5 h5) fun v21 =>
  Vb (lda 1 x11 h5) fun v25 =>
  And (
    S.C I.f_memory_Memory_Seen [v21, t1] h5 fun v23 h20 =>
    lda 1 x11 h20 = some v25 ∧
    And (
      S.C I.f_history_History_Len [v25] h20 fun v26 h21 =>
      And (
        S.C I.f_view_View_With [v23, at2, v26] h21 fun v27 h22 =>
        Eb (nw #[Value.map none] I.t_view_View h22) fun v12_1 h23 =>
        Sb (sto 1 v12_1 v27 h23) fun h24 =>
        J0 v12_1 h24) (
        Eb (nw #[Value.map none] I.t_view_View h21) fun v12_2 h25 =>
        S.C I.f_view_View_With [v23, at2, v26] h25 fun v27_1 h26 =>
        Sb (sto 1 v12_2 v27_1 h26) fun h27 =>
        J0 v12_2 h27)) (
      Eb (nw #[Value.map none] I.t_view_View h20) fun v12_3 h28 =>
      lda 1 x11 h28 = some v25 ∧
      S.C I.f_history_History_Len [v25] h28 fun v26_1 h29 =>
      S.C I.f_view_View_With [v23, at2, v26_1] h29 fun v27_2 h30 =>
      Sb (sto 1 v12_3 v27_2 h30) fun h31 =>
      J0 v12_3 h31)) (
    Eb (nw #[Value.map none] I.t_view_View h5) fun v12_4 h32 =>
    lda 1 x11 h32 = some v25 ∧
    lda 2 m5 h32 = some v21 ∧
    S.C I.f_memory_Memory_Seen [v21, t1] h32 fun v23_1 h33 =>
    lda 1 x11 h33 = some v25 ∧
    S.C I.f_history_History_Len [v25] h33 fun v26_2 h34 =>
    S.C I.f_view_View_With [v23_1, at2, v26_2] h34 fun v27_3 h35 =>
    Sb (sto 1 v12_4 v27_3 h35) fun h36 =>
    J0 v12_4 h36)

def F_memory_Memory_wrong (S : Sys) (I : Ids) (m0 t1 at2 : Value) (h : Hp) (R : Value → Hp → Prop) : Prop :=
  Eb (nw (Value.cells m0) I.t_memory_Memory h) fun m3 h1 =>
  Vb (lda 2 m3 h1) fun v8 =>
  S.C I.f_memory_Memory_thread [v8, t1] h1 fun v10 h2 =>
  Vb (uno .not v10) fun v11 =>
  Br v11 (
    R (Value.int IntKind.i64 3) h2) (
    Vb (lda 2 m3 h2) fun v13 =>
    S.C I.f_memory_Memory_place [v13, at2] h2 fun v15 h3 =>
    Vb (uno .not v15) fun v16 =>
    Br v16 (
      R (Value.int IntKind.i64 1) h3) (
      R (Value.int IntKind.i64 0) h3))

def F_slices_Clip_line_store_line_store (S : Sys) (I : Ids) (s0 : Value) (h : Hp) (R : Value → Hp → Prop) : Prop :=
  Vb (lnS s0) fun v5 =>
  Vb (lnS s0) fun v7 =>
  Vb (slc 4 s0 none (some v5) (some v7)) fun v8 =>
  R v8 h

def F_memory_Memory_look (S : Sys) (I : Ids) (m0 t1 at2 joined3 pick4 : Value) (h : Hp) (R : Value → Hp → Prop) : Prop :=
  Eb (nw (Value.cells m0) I.t_memory_Memory h) fun m5 h1 =>
  Eb (nw #[Value.slice none 0 0, Value.slice none 0 0] I.t_memory_Memory h1) fun v10 h2 =>
  Eb (nw #[Value.int IntKind.i64 0, Value.int IntKind.u32 0, Value.int IntKind.u32 0] I.t_api_Word h2) fun v11 h3 =>
  Vb (lda 2 m5 h3) fun v16 =>
  S.C I.f_memory_Memory_wrong [v16, t1, at2] h3 fun v19 h4 =>
  Vb (bin .neq v19 (Value.int IntKind.i64 0)) fun v21 =>
  Br v21 (
    Vb (lda 2 m5 h4) fun v22 =>
    Vb (bldS [(0, 1), (1, 1), (2, 1)] #[Value.int IntKind.i64 0, Value.int IntKind.u32 0, Value.int IntKind.u32 0] []) fun v23 =>
    Sb (sto 2 v10 v22 h4) fun h5 =>
    Sb (sto 3 v11 v23 h5) fun h6 =>
    Vb (lda 2 v10 h6) fun r0 =>
    Vb (lda 3 v11 h6) fun r1 =>
    R (.tuple #[r0, r1, v19]) h6) (
    Jn2 (fun out14 w15 h7 =>
        Vb (lda 2 out14 h7) fun v45 =>
        Vb (lda 3 w15 h7) fun v46 =>
        Sb (sto 2 v10 v45 h7) fun h8 =>
        lda 3 w15 h8 = some v46 ∧
        Sb (sto 3 v11 v46 h8) fun h9 =>
        Vb (lda 2 v10 h9) fun r0 =>
        Vb (lda 3 v11 h9) fun r1 =>
        R (.tuple #[r0, r1, (Value.int IntKind.i64 0)]) h9) fun J0 =>
    Vb (lda 2 m5 h4) fun v26 =>
    Vb (fa 0 m5) fun v30 =>
    Vb (ldc v30 h4) fun v31 =>
    Vb (ixs 1 v31 at2) fun v33 =>
    Vb (lda 1 v33 h4) fun v34 =>
    Vb (lda 2 m5 h4) fun v35 =>
    And (
      S.C I.f_memory_Memory_Seen [v35, t1] h4 fun v37 h10 =>
      lda 1 v33 h10 = some v34 ∧
      ldc v30 h10 = some v31 ∧
      lda 2 m5 h10 = some v26 ∧
      And (
        S.C I.f_view_View_At [v37, at2] h10 fun v39 h11 =>
        lda 1 v33 h11 = some v34 ∧
        ldc v30 h11 = some v31 ∧
        lda 2 m5 h11 = some v26 ∧
        And (
          Cw S.C S.Y I.mt pick4 [v34, v39] h11 fun v40 h12 =>
          lda 2 m5 h12 = some v26 ∧
          And (
            S.C I.f_memory_Memory_finds [v26, t1, at2, v40, joined3] h12 fun v42 h13 =>
            Vb (ext 0 v42) fun v43 =>
            Vb (ext 1 v42) fun v44 =>
            And (
              Eb (nw #[Value.slice none 0 0, Value.slice none 0 0] I.t_memory_Memory h13) fun out14_1 h14 =>
              Eb (nw #[Value.int IntKind.i64 0, Value.int IntKind.u32 0, Value.int IntKind.u32 0] I.t_api_Word h14) fun w15_1 h15 =>
              Sb (sto 2 out14_1 v43 h15) fun h16 =>
              Sb (sto 3 w15_1 v44 h16) fun h17 =>
              J0 out14_1 w15_1 h17) (
              Eb (nw #[Value.int IntKind.i64 0, Value.int IntKind.u32 0, Value.int IntKind.u32 0] I.t_api_Word h13) fun w15_2 h18 =>
              Eb (nw #[Value.slice none 0 0, Value.slice none 0 0] I.t_memory_Memory h18) fun out14_2 h19 =>
              Sb (sto 2 out14_2 v43 h19) fun h20 =>
              Sb (sto 3 w15_2 v44 h20) fun h21 =>
              J0 out14_2 w15_2 h21)) (
          And (
            Eb (nw #[Value.slice none 0 0, Value.slice none 0 0] I.t_memory_Memory h12) fun out14_3 h22 =>
            lda 2 m5 h22 = some v26 ∧
            And (
              S.C I.f_memory_Memory_finds [v26, t1, at2, v40, joined3] h22 fun v42_1 h23 =>
              Vb (ext 0 v42_1) fun v43_1 =>
              Vb (ext 1 v42_1) fun v44_1 =>
              Eb (nw #[Value.int IntKind.i64 0, Value.int IntKind.u32 0, Value.int IntKind.u32 0] I.t_api_Word h23) fun w15_3 h24 =>
              Sb (sto 2 out14_3 v43_1 h24) fun h25 =>
              Sb (sto 3 w15_3 v44_1 h25) fun h26 =>
              J0 out14_3 w15_3 h26) (
              Eb (nw #[Value.int IntKind.i64 0, Value.int IntKind.u32 0, Value.int IntKind.u32 0] I.t_api_Word h22) fun w15_4 h27 =>
              lda 2 m5 h27 = some v26 ∧
              S.C I.f_memory_Memory_finds [v26, t1, at2, v40, joined3] h27 fun v42_2 h28 =>
              Vb (ext 0 v42_2) fun v43_2 =>
              Vb (ext 1 v42_2) fun v44_2 =>
              Sb (sto 2 out14_3 v43_2 h28) fun h29 =>
              Sb (sto 3 w15_4 v44_2 h29) fun h30 =>
              J0 out14_3 w15_4 h30)) (
            Eb (nw #[Value.int IntKind.i64 0, Value.int IntKind.u32 0, Value.int IntKind.u32 0] I.t_api_Word h12) fun w15_5 h31 =>
            lda 2 m5 h31 = some v26 ∧
            And (
              S.C I.f_memory_Memory_finds [v26, t1, at2, v40, joined3] h31 fun v42_3 h32 =>
              Vb (ext 0 v42_3) fun v43_3 =>
              Vb (ext 1 v42_3) fun v44_3 =>
              Eb (nw #[Value.slice none 0 0, Value.slice none 0 0] I.t_memory_Memory h32) fun out14_4 h33 =>
              Sb (sto 2 out14_4 v43_3 h33) fun h34 =>
              Sb (sto 3 w15_5 v44_3 h34) fun h35 =>
              J0 out14_4 w15_5 h35) (
              Eb (nw #[Value.slice none 0 0, Value.slice none 0 0] I.t_memory_Memory h31) fun out14_5 h36 =>
              lda 2 m5 h36 = some v26 ∧
              S.C I.f_memory_Memory_finds [v26, t1, at2, v40, joined3] h36 fun v42_4 h37 =>
              Vb (ext 0 v42_4) fun v43_4 =>
              Vb (ext 1 v42_4) fun v44_4 =>
              Sb (sto 2 out14_5 v43_4 h37) fun h38 =>
              Sb (sto 3 w15_5 v44_4 h38) fun h39 =>
              J0 out14_5 w15_5 h39)))) (
        And (
          Eb (nw #[Value.slice none 0 0, Value.slice none 0 0] I.t_memory_Memory h11) fun out14_6 h40 =>
          lda 1 v33 h40 = some v34 ∧
          ldc v30 h40 = some v31 ∧
          lda 2 m5 h40 = some v26 ∧
          And (
            Cw S.C S.Y I.mt pick4 [v34, v39] h40 fun v40_1 h41 =>
            lda 2 m5 h41 = some v26 ∧
            And (
              S.C I.f_memory_Memory_finds [v26, t1, at2, v40_1, joined3] h41 fun v42_5 h42 =>
              Vb (ext 0 v42_5) fun v43_5 =>
              Vb (ext 1 v42_5) fun v44_5 =>
              Eb (nw #[Value.int IntKind.i64 0, Value.int IntKind.u32 0, Value.int IntKind.u32 0] I.t_api_Word h42) fun w15_6 h43 =>
              Sb (sto 2 out14_6 v43_5 h43) fun h44 =>
              Sb (sto 3 w15_6 v44_5 h44) fun h45 =>
              J0 out14_6 w15_6 h45) (
              Eb (nw #[Value.int IntKind.i64 0, Value.int IntKind.u32 0, Value.int IntKind.u32 0] I.t_api_Word h41) fun w15_7 h46 =>
              lda 2 m5 h46 = some v26 ∧
              S.C I.f_memory_Memory_finds [v26, t1, at2, v40_1, joined3] h46 fun v42_6 h47 =>
              Vb (ext 0 v42_6) fun v43_6 =>
              Vb (ext 1 v42_6) fun v44_6 =>
              Sb (sto 2 out14_6 v43_6 h47) fun h48 =>
              Sb (sto 3 w15_7 v44_6 h48) fun h49 =>
              J0 out14_6 w15_7 h49)) (
            Eb (nw #[Value.int IntKind.i64 0, Value.int IntKind.u32 0, Value.int IntKind.u32 0] I.t_api_Word h40) fun w15_8 h50 =>
            lda 1 v33 h50 = some v34 ∧
            ldc v30 h50 = some v31 ∧
            lda 2 m5 h50 = some v26 ∧
            Cw S.C S.Y I.mt pick4 [v34, v39] h50 fun v40_2 h51 =>
            lda 2 m5 h51 = some v26 ∧
            S.C I.f_memory_Memory_finds [v26, t1, at2, v40_2, joined3] h51 fun v42_7 h52 =>
            Vb (ext 0 v42_7) fun v43_7 =>
            Vb (ext 1 v42_7) fun v44_7 =>
            Sb (sto 2 out14_6 v43_7 h52) fun h53 =>
            Sb (sto 3 w15_8 v44_7 h53) fun h54 =>
            J0 out14_6 w15_8 h54)) (
          Eb (nw #[Value.int IntKind.i64 0, Value.int IntKind.u32 0, Value.int IntKind.u32 0] I.t_api_Word h11) fun w15_9 h55 =>
          lda 1 v33 h55 = some v34 ∧
          ldc v30 h55 = some v31 ∧
          lda 2 m5 h55 = some v26 ∧
          And (
            Cw S.C S.Y I.mt pick4 [v34, v39] h55 fun v40_3 h56 =>
            lda 2 m5 h56 = some v26 ∧
            And (
              S.C I.f_memory_Memory_finds [v26, t1, at2, v40_3, joined3] h56 fun v42_8 h57 =>
              Vb (ext 0 v42_8) fun v43_8 =>
              Vb (ext 1 v42_8) fun v44_8 =>
              Eb (nw #[Value.slice none 0 0, Value.slice none 0 0] I.t_memory_Memory h57) fun out14_7 h58 =>
              Sb (sto 2 out14_7 v43_8 h58) fun h59 =>
              Sb (sto 3 w15_9 v44_8 h59) fun h60 =>
              J0 out14_7 w15_9 h60) (
              Eb (nw #[Value.slice none 0 0, Value.slice none 0 0] I.t_memory_Memory h56) fun out14_8 h61 =>
              lda 2 m5 h61 = some v26 ∧
              S.C I.f_memory_Memory_finds [v26, t1, at2, v40_3, joined3] h61 fun v42_9 h62 =>
              Vb (ext 0 v42_9) fun v43_9 =>
              Vb (ext 1 v42_9) fun v44_9 =>
              Sb (sto 2 out14_8 v43_9 h62) fun h63 =>
              Sb (sto 3 w15_9 v44_9 h63) fun h64 =>
              J0 out14_8 w15_9 h64)) (
            Eb (nw #[Value.slice none 0 0, Value.slice none 0 0] I.t_memory_Memory h55) fun out14_9 h65 =>
            lda 1 v33 h65 = some v34 ∧
            ldc v30 h65 = some v31 ∧
            lda 2 m5 h65 = some v26 ∧
            Cw S.C S.Y I.mt pick4 [v34, v39] h65 fun v40_4 h66 =>
            lda 2 m5 h66 = some v26 ∧
            S.C I.f_memory_Memory_finds [v26, t1, at2, v40_4, joined3] h66 fun v42_10 h67 =>
            Vb (ext 0 v42_10) fun v43_10 =>
            Vb (ext 1 v42_10) fun v44_10 =>
            Sb (sto 2 out14_9 v43_10 h67) fun h68 =>
            Sb (sto 3 w15_9 v44_10 h68) fun h69 =>
            J0 out14_9 w15_9 h69)))) (
      And (
        Eb (nw #[Value.slice none 0 0, Value.slice none 0 0] I.t_memory_Memory h10) fun out14_10 h70 =>
        lda 1 v33 h70 = some v34 ∧
        ldc v30 h70 = some v31 ∧
        lda 2 m5 h70 = some v26 ∧
        And (
          S.C I.f_view_View_At [v37, at2] h70 fun v39_1 h71 =>
          lda 1 v33 h71 = some v34 ∧
          ldc v30 h71 = some v31 ∧
          lda 2 m5 h71 = some v26 ∧
          And (
            Cw S.C S.Y I.mt pick4 [v34, v39_1] h71 fun v40_5 h72 =>
            lda 2 m5 h72 = some v26 ∧
            And (
              S.C I.f_memory_Memory_finds [v26, t1, at2, v40_5, joined3] h72 fun v42_11 h73 =>
              Vb (ext 0 v42_11) fun v43_11 =>
              Vb (ext 1 v42_11) fun v44_11 =>
              Eb (nw #[Value.int IntKind.i64 0, Value.int IntKind.u32 0, Value.int IntKind.u32 0] I.t_api_Word h73) fun w15_10 h74 =>
              Sb (sto 2 out14_10 v43_11 h74) fun h75 =>
              Sb (sto 3 w15_10 v44_11 h75) fun h76 =>
              J0 out14_10 w15_10 h76) (
              Eb (nw #[Value.int IntKind.i64 0, Value.int IntKind.u32 0, Value.int IntKind.u32 0] I.t_api_Word h72) fun w15_11 h77 =>
              lda 2 m5 h77 = some v26 ∧
              S.C I.f_memory_Memory_finds [v26, t1, at2, v40_5, joined3] h77 fun v42_12 h78 =>
              Vb (ext 0 v42_12) fun v43_12 =>
              Vb (ext 1 v42_12) fun v44_12 =>
              Sb (sto 2 out14_10 v43_12 h78) fun h79 =>
              Sb (sto 3 w15_11 v44_12 h79) fun h80 =>
              J0 out14_10 w15_11 h80)) (
            Eb (nw #[Value.int IntKind.i64 0, Value.int IntKind.u32 0, Value.int IntKind.u32 0] I.t_api_Word h71) fun w15_12 h81 =>
            lda 1 v33 h81 = some v34 ∧
            ldc v30 h81 = some v31 ∧
            lda 2 m5 h81 = some v26 ∧
            Cw S.C S.Y I.mt pick4 [v34, v39_1] h81 fun v40_6 h82 =>
            lda 2 m5 h82 = some v26 ∧
            S.C I.f_memory_Memory_finds [v26, t1, at2, v40_6, joined3] h82 fun v42_13 h83 =>
            Vb (ext 0 v42_13) fun v43_13 =>
            Vb (ext 1 v42_13) fun v44_13 =>
            Sb (sto 2 out14_10 v43_13 h83) fun h84 =>
            Sb (sto 3 w15_12 v44_13 h84) fun h85 =>
            J0 out14_10 w15_12 h85)) (
          Eb (nw #[Value.int IntKind.i64 0, Value.int IntKind.u32 0, Value.int IntKind.u32 0] I.t_api_Word h70) fun w15_13 h86 =>
          lda 1 v33 h86 = some v34 ∧
          ldc v30 h86 = some v31 ∧
          lda 2 m5 h86 = some v26 ∧
          S.C I.f_view_View_At [v37, at2] h86 fun v39_2 h87 =>
          lda 1 v33 h87 = some v34 ∧
          ldc v30 h87 = some v31 ∧
          lda 2 m5 h87 = some v26 ∧
          Cw S.C S.Y I.mt pick4 [v34, v39_2] h87 fun v40_7 h88 =>
          lda 2 m5 h88 = some v26 ∧
          S.C I.f_memory_Memory_finds [v26, t1, at2, v40_7, joined3] h88 fun v42_14 h89 =>
          Vb (ext 0 v42_14) fun v43_14 =>
          Vb (ext 1 v42_14) fun v44_14 =>
          Sb (sto 2 out14_10 v43_14 h89) fun h90 =>
          Sb (sto 3 w15_13 v44_14 h90) fun h91 =>
          J0 out14_10 w15_13 h91)) (
        Eb (nw #[Value.int IntKind.i64 0, Value.int IntKind.u32 0, Value.int IntKind.u32 0] I.t_api_Word h10) fun w15_14 h92 =>
        lda 1 v33 h92 = some v34 ∧
        ldc v30 h92 = some v31 ∧
        lda 2 m5 h92 = some v26 ∧
        And (
          S.C I.f_view_View_At [v37, at2] h92 fun v39_3 h93 =>
          lda 1 v33 h93 = some v34 ∧
          ldc v30 h93 = some v31 ∧
          lda 2 m5 h93 = some v26 ∧
          And (
            Cw S.C S.Y I.mt pick4 [v34, v39_3] h93 fun v40_8 h94 =>
            lda 2 m5 h94 = some v26 ∧
            And (
              S.C I.f_memory_Memory_finds [v26, t1, at2, v40_8, joined3] h94 fun v42_15 h95 =>
              Vb (ext 0 v42_15) fun v43_15 =>
              Vb (ext 1 v42_15) fun v44_15 =>
              Eb (nw #[Value.slice none 0 0, Value.slice none 0 0] I.t_memory_Memory h95) fun out14_11 h96 =>
              Sb (sto 2 out14_11 v43_15 h96) fun h97 =>
              Sb (sto 3 w15_14 v44_15 h97) fun h98 =>
              J0 out14_11 w15_14 h98) (
              Eb (nw #[Value.slice none 0 0, Value.slice none 0 0] I.t_memory_Memory h94) fun out14_12 h99 =>
              lda 2 m5 h99 = some v26 ∧
              S.C I.f_memory_Memory_finds [v26, t1, at2, v40_8, joined3] h99 fun v42_16 h100 =>
              Vb (ext 0 v42_16) fun v43_16 =>
              Vb (ext 1 v42_16) fun v44_16 =>
              Sb (sto 2 out14_12 v43_16 h100) fun h101 =>
              Sb (sto 3 w15_14 v44_16 h101) fun h102 =>
              J0 out14_12 w15_14 h102)) (
            Eb (nw #[Value.slice none 0 0, Value.slice none 0 0] I.t_memory_Memory h93) fun out14_13 h103 =>
            lda 1 v33 h103 = some v34 ∧
            ldc v30 h103 = some v31 ∧
            lda 2 m5 h103 = some v26 ∧
            Cw S.C S.Y I.mt pick4 [v34, v39_3] h103 fun v40_9 h104 =>
            lda 2 m5 h104 = some v26 ∧
            S.C I.f_memory_Memory_finds [v26, t1, at2, v40_9, joined3] h104 fun v42_17 h105 =>
            Vb (ext 0 v42_17) fun v43_17 =>
            Vb (ext 1 v42_17) fun v44_17 =>
            Sb (sto 2 out14_13 v43_17 h105) fun h106 =>
            Sb (sto 3 w15_14 v44_17 h106) fun h107 =>
            J0 out14_13 w15_14 h107)) (
          Eb (nw #[Value.slice none 0 0, Value.slice none 0 0] I.t_memory_Memory h92) fun out14_14 h108 =>
          lda 1 v33 h108 = some v34 ∧
          ldc v30 h108 = some v31 ∧
          lda 2 m5 h108 = some v26 ∧
          S.C I.f_view_View_At [v37, at2] h108 fun v39_4 h109 =>
          lda 1 v33 h109 = some v34 ∧
          ldc v30 h109 = some v31 ∧
          lda 2 m5 h109 = some v26 ∧
          Cw S.C S.Y I.mt pick4 [v34, v39_4] h109 fun v40_10 h110 =>
          lda 2 m5 h110 = some v26 ∧
          S.C I.f_memory_Memory_finds [v26, t1, at2, v40_10, joined3] h110 fun v42_18 h111 =>
          Vb (ext 0 v42_18) fun v43_18 =>
          Vb (ext 1 v42_18) fun v44_18 =>
          Sb (sto 2 out14_14 v43_18 h111) fun h112 =>
          Sb (sto 3 w15_14 v44_18 h112) fun h113 =>
          J0 out14_14 w15_14 h113)))) (
    And (
      Eb (nw #[Value.slice none 0 0, Value.slice none 0 0] I.t_memory_Memory h4) fun out14_15 h114 =>
      lda 2 m5 h114 = some v35 ∧
      lda 1 v33 h114 = some v34 ∧
      ldc v30 h114 = some v31 ∧
      lda 2 m5 h114 = some v26 ∧
      And (
        S.C I.f_memory_Memory_Seen [v35, t1] h114 fun v37_1 h115 =>
        lda 1 v33 h115 = some v34 ∧
        ldc v30 h115 = some v31 ∧
        lda 2 m5 h115 = some v26 ∧
        And (
          S.C I.f_view_View_At [v37_1, at2] h115 fun v39_5 h116 =>
          lda 1 v33 h116 = some v34 ∧
          ldc v30 h116 = some v31 ∧
          lda 2 m5 h116 = some v26 ∧
          And (
            Cw S.C S.Y I.mt pick4 [v34, v39_5] h116 fun v40_11 h117 =>
            lda 2 m5 h117 = some v26 ∧
            And (
              S.C I.f_memory_Memory_finds [v26, t1, at2, v40_11, joined3] h117 fun v42_19 h118 =>
              Vb (ext 0 v42_19) fun v43_19 =>
              Vb (ext 1 v42_19) fun v44_19 =>
              Eb (nw #[Value.int IntKind.i64 0, Value.int IntKind.u32 0, Value.int IntKind.u32 0] I.t_api_Word h118) fun w15_15 h119 =>
              Sb (sto 2 out14_15 v43_19 h119) fun h120 =>
              Sb (sto 3 w15_15 v44_19 h120) fun h121 =>
              J0 out14_15 w15_15 h121) (
              Eb (nw #[Value.int IntKind.i64 0, Value.int IntKind.u32 0, Value.int IntKind.u32 0] I.t_api_Word h117) fun w15_16 h122 =>
              lda 2 m5 h122 = some v26 ∧
              S.C I.f_memory_Memory_finds [v26, t1, at2, v40_11, joined3] h122 fun v42_20 h123 =>
              Vb (ext 0 v42_20) fun v43_20 =>
              Vb (ext 1 v42_20) fun v44_20 =>
              Sb (sto 2 out14_15 v43_20 h123) fun h124 =>
              Sb (sto 3 w15_16 v44_20 h124) fun h125 =>
              J0 out14_15 w15_16 h125)) (
            Eb (nw #[Value.int IntKind.i64 0, Value.int IntKind.u32 0, Value.int IntKind.u32 0] I.t_api_Word h116) fun w15_17 h126 =>
            lda 1 v33 h126 = some v34 ∧
            ldc v30 h126 = some v31 ∧
            lda 2 m5 h126 = some v26 ∧
            Cw S.C S.Y I.mt pick4 [v34, v39_5] h126 fun v40_12 h127 =>
            lda 2 m5 h127 = some v26 ∧
            S.C I.f_memory_Memory_finds [v26, t1, at2, v40_12, joined3] h127 fun v42_21 h128 =>
            Vb (ext 0 v42_21) fun v43_21 =>
            Vb (ext 1 v42_21) fun v44_21 =>
            Sb (sto 2 out14_15 v43_21 h128) fun h129 =>
            Sb (sto 3 w15_17 v44_21 h129) fun h130 =>
            J0 out14_15 w15_17 h130)) (
          Eb (nw #[Value.int IntKind.i64 0, Value.int IntKind.u32 0, Value.int IntKind.u32 0] I.t_api_Word h115) fun w15_18 h131 =>
          lda 1 v33 h131 = some v34 ∧
          ldc v30 h131 = some v31 ∧
          lda 2 m5 h131 = some v26 ∧
          S.C I.f_view_View_At [v37_1, at2] h131 fun v39_6 h132 =>
          lda 1 v33 h132 = some v34 ∧
          ldc v30 h132 = some v31 ∧
          lda 2 m5 h132 = some v26 ∧
          Cw S.C S.Y I.mt pick4 [v34, v39_6] h132 fun v40_13 h133 =>
          lda 2 m5 h133 = some v26 ∧
          S.C I.f_memory_Memory_finds [v26, t1, at2, v40_13, joined3] h133 fun v42_22 h134 =>
          Vb (ext 0 v42_22) fun v43_22 =>
          Vb (ext 1 v42_22) fun v44_22 =>
          Sb (sto 2 out14_15 v43_22 h134) fun h135 =>
          Sb (sto 3 w15_18 v44_22 h135) fun h136 =>
          J0 out14_15 w15_18 h136)) (
        Eb (nw #[Value.int IntKind.i64 0, Value.int IntKind.u32 0, Value.int IntKind.u32 0] I.t_api_Word h114) fun w15_19 h137 =>
        lda 2 m5 h137 = some v35 ∧
        lda 1 v33 h137 = some v34 ∧
        ldc v30 h137 = some v31 ∧
        lda 2 m5 h137 = some v26 ∧
        S.C I.f_memory_Memory_Seen [v35, t1] h137 fun v37_2 h138 =>
        lda 1 v33 h138 = some v34 ∧
        ldc v30 h138 = some v31 ∧
        lda 2 m5 h138 = some v26 ∧
        S.C I.f_view_View_At [v37_2, at2] h138 fun v39_7 h139 =>
        lda 1 v33 h139 = some v34 ∧
        ldc v30 h139 = some v31 ∧
        lda 2 m5 h139 = some v26 ∧
        Cw S.C S.Y I.mt pick4 [v34, v39_7] h139 fun v40_14 h140 =>
        lda 2 m5 h140 = some v26 ∧
        S.C I.f_memory_Memory_finds [v26, t1, at2, v40_14, joined3] h140 fun v42_23 h141 =>
        Vb (ext 0 v42_23) fun v43_23 =>
        Vb (ext 1 v42_23) fun v44_23 =>
        Sb (sto 2 out14_15 v43_23 h141) fun h142 =>
        Sb (sto 3 w15_19 v44_23 h142) fun h143 =>
        J0 out14_15 w15_19 h143)) (
      Eb (nw #[Value.int IntKind.i64 0, Value.int IntKind.u32 0, Value.int IntKind.u32 0] I.t_api_Word h4) fun w15_20 h144 =>
      lda 2 m5 h144 = some v35 ∧
      lda 1 v33 h144 = some v34 ∧
      ldc v30 h144 = some v31 ∧
      lda 2 m5 h144 = some v26 ∧
      And (
        S.C I.f_memory_Memory_Seen [v35, t1] h144 fun v37_3 h145 =>
        lda 1 v33 h145 = some v34 ∧
        ldc v30 h145 = some v31 ∧
        lda 2 m5 h145 = some v26 ∧
        And (
          S.C I.f_view_View_At [v37_3, at2] h145 fun v39_8 h146 =>
          lda 1 v33 h146 = some v34 ∧
          ldc v30 h146 = some v31 ∧
          lda 2 m5 h146 = some v26 ∧
          And (
            Cw S.C S.Y I.mt pick4 [v34, v39_8] h146 fun v40_15 h147 =>
            lda 2 m5 h147 = some v26 ∧
            And (
              S.C I.f_memory_Memory_finds [v26, t1, at2, v40_15, joined3] h147 fun v42_24 h148 =>
              Vb (ext 0 v42_24) fun v43_24 =>
              Vb (ext 1 v42_24) fun v44_24 =>
              Eb (nw #[Value.slice none 0 0, Value.slice none 0 0] I.t_memory_Memory h148) fun out14_16 h149 =>
              Sb (sto 2 out14_16 v43_24 h149) fun h150 =>
              Sb (sto 3 w15_20 v44_24 h150) fun h151 =>
              J0 out14_16 w15_20 h151) (
              Eb (nw #[Value.slice none 0 0, Value.slice none 0 0] I.t_memory_Memory h147) fun out14_17 h152 =>
              lda 2 m5 h152 = some v26 ∧
              S.C I.f_memory_Memory_finds [v26, t1, at2, v40_15, joined3] h152 fun v42_25 h153 =>
              Vb (ext 0 v42_25) fun v43_25 =>
              Vb (ext 1 v42_25) fun v44_25 =>
              Sb (sto 2 out14_17 v43_25 h153) fun h154 =>
              Sb (sto 3 w15_20 v44_25 h154) fun h155 =>
              J0 out14_17 w15_20 h155)) (
            Eb (nw #[Value.slice none 0 0, Value.slice none 0 0] I.t_memory_Memory h146) fun out14_18 h156 =>
            lda 1 v33 h156 = some v34 ∧
            ldc v30 h156 = some v31 ∧
            lda 2 m5 h156 = some v26 ∧
            Cw S.C S.Y I.mt pick4 [v34, v39_8] h156 fun v40_16 h157 =>
            lda 2 m5 h157 = some v26 ∧
            S.C I.f_memory_Memory_finds [v26, t1, at2, v40_16, joined3] h157 fun v42_26 h158 =>
            Vb (ext 0 v42_26) fun v43_26 =>
            Vb (ext 1 v42_26) fun v44_26 =>
            Sb (sto 2 out14_18 v43_26 h158) fun h159 =>
            Sb (sto 3 w15_20 v44_26 h159) fun h160 =>
            J0 out14_18 w15_20 h160)) (
          Eb (nw #[Value.slice none 0 0, Value.slice none 0 0] I.t_memory_Memory h145) fun out14_19 h161 =>
          lda 1 v33 h161 = some v34 ∧
          ldc v30 h161 = some v31 ∧
          lda 2 m5 h161 = some v26 ∧
          S.C I.f_view_View_At [v37_3, at2] h161 fun v39_9 h162 =>
          lda 1 v33 h162 = some v34 ∧
          ldc v30 h162 = some v31 ∧
          lda 2 m5 h162 = some v26 ∧
          Cw S.C S.Y I.mt pick4 [v34, v39_9] h162 fun v40_17 h163 =>
          lda 2 m5 h163 = some v26 ∧
          S.C I.f_memory_Memory_finds [v26, t1, at2, v40_17, joined3] h163 fun v42_27 h164 =>
          Vb (ext 0 v42_27) fun v43_27 =>
          Vb (ext 1 v42_27) fun v44_27 =>
          Sb (sto 2 out14_19 v43_27 h164) fun h165 =>
          Sb (sto 3 w15_20 v44_27 h165) fun h166 =>
          J0 out14_19 w15_20 h166)) (
        Eb (nw #[Value.slice none 0 0, Value.slice none 0 0] I.t_memory_Memory h144) fun out14_20 h167 =>
        lda 2 m5 h167 = some v35 ∧
        lda 1 v33 h167 = some v34 ∧
        ldc v30 h167 = some v31 ∧
        lda 2 m5 h167 = some v26 ∧
        S.C I.f_memory_Memory_Seen [v35, t1] h167 fun v37_4 h168 =>
        lda 1 v33 h168 = some v34 ∧
        ldc v30 h168 = some v31 ∧
        lda 2 m5 h168 = some v26 ∧
        S.C I.f_view_View_At [v37_4, at2] h168 fun v39_10 h169 =>
        lda 1 v33 h169 = some v34 ∧
        ldc v30 h169 = some v31 ∧
        lda 2 m5 h169 = some v26 ∧
        Cw S.C S.Y I.mt pick4 [v34, v39_10] h169 fun v40_18 h170 =>
        lda 2 m5 h170 = some v26 ∧
        S.C I.f_memory_Memory_finds [v26, t1, at2, v40_18, joined3] h170 fun v42_28 h171 =>
        Vb (ext 0 v42_28) fun v43_28 =>
        Vb (ext 1 v42_28) fun v44_28 =>
        Sb (sto 2 out14_20 v43_28 h171) fun h172 =>
        Sb (sto 3 w15_20 v44_28 h172) fun h173 =>
        J0 out14_20 w15_20 h173))))

def F_memory_picker_last (S : Sys) (I : Ids) (c0 x1 v2 : Value) (h : Hp) (R : Value → Hp → Prop) : Prop :=
  Eb (nw (Value.cells x1) I.t_history_History h) fun x4 h1 =>
  Vb (lda 1 x4 h1) fun v7 =>
  S.C I.f_history_History_Len [v7] h1 fun v8 h2 =>
  Vb (bin .sub v8 (Value.int IntKind.i64 1)) fun v9 =>
  R v9 h2

def F_memory_Memory_Seen (S : Sys) (I : Ids) (m0 t1 : Value) (h : Hp) (R : Value → Hp → Prop) : Prop :=
  Eb (nw (Value.cells m0) I.t_memory_Memory h) fun m2 h1 =>
  Eb (nw #[Value.map none] I.t_view_View h1) fun v4 h2 =>
  Vb (lda 2 m2 h2) fun v5 =>
  S.C I.f_memory_Memory_thread [v5, t1] h2 fun v7 h3 =>
  Vb (uno .not v7) fun v8 =>
  Br v8 (
    Vb (bldS [(0, 1)] #[Value.map none] []) fun v9 =>
    Sb (sto 1 v4 v9 h3) fun h4 =>
    Vb (lda 1 v4 h4) fun r0 =>
    R r0 h4) (
    Vb (fa 1 m2) fun v10 =>
    Vb (ldc v10 h3) fun v11 =>
    Vb (bin .sub t1 (Value.int IntKind.i64 1)) fun v13 =>
    Vb (ixs 1 v11 v13) fun v14 =>
    Vb (lda 1 v14 h3) fun v15 =>
    Sb (sto 1 v4 v15 h3) fun h5 =>
    Vb (lda 1 v4 h5) fun r0 =>
    R r0 h5)

def F_view_View_With (S : Sys) (I : Ids) (v0 l1 n2 : Value) (h : Hp) (R : Value → Hp → Prop) : Prop :=
  Eb (nw (Value.cells v0) I.t_view_View h) fun v3 h1 =>
  Eb (nw #[Value.map none] I.t_view_View h1) fun v6 h2 =>
  Jn1 (fun v21 h3 =>
      Br v21 (
        Vb (lda 1 v3 h3) fun v22 =>
        Sb (sto 1 v6 v22 h3) fun h4 =>
        Vb (lda 1 v6 h4) fun r0 =>
        R r0 h4) (
        Vb (fa 0 v3) fun v23 =>
        Vb (ldc v23 h3) fun v24 =>
        S.C I.f_maps_Clone_map_api_Loc_int_api_Loc_int [v24] h3 fun v25 h5 =>
        Jn1 (fun out7 h6 =>
            Sb (mup (.int .i64) out7 l1 n2 h6) fun h7 =>
            Vb (bldS [(0, 1)] #[Value.map none] [(0, out7)]) fun v33 =>
            Sb (sto 1 v6 v33 h7) fun h8 =>
            Vb (lda 1 v6 h8) fun r0 =>
            R r0 h8) fun J1 =>
        Vb (pos? (eqM v25 (Value.map none))) fun v27 =>
        Br v27 (
          Eb (mmk h5) fun v28 h9 =>
          J1 v28 h9) (
          J1 v25 h5))) fun J0 =>
  Vb (bin .lss l1 (Value.int IntKind.i64 0)) fun v9 =>
  Br v9 (
    J0 (Value.bool true) h2) (
    Vb (bin .geq l1 (Value.int IntKind.i64 4096)) fun v12 =>
    Br v12 (
      J0 (Value.bool true) h2) (
      Vb (fa 0 v3) fun v16 =>
      Vb (ldc v16 h2) fun v17 =>
      Vb (lkm (.int .i64) (Value.int IntKind.i64 0) false v17 l1 h2) fun v19 =>
      Vb (bin .leq n2 v19) fun v20 =>
      J0 v20 h2))

def F_history_History_Len (S : Sys) (I : Ids) (x0 : Value) (h : Hp) (R : Value → Hp → Prop) : Prop :=
  Eb (nw (Value.cells x0) I.t_history_History h) fun x1 h1 =>
  Vb (fa 0 x1) fun v3 =>
  Vb (ldc v3 h1) fun v4 =>
  Vb (lnS v4) fun v5 =>
  R v5 h1

def F_history_History_Add (S : Sys) (I : Ids) (x0 m1 : Value) (h : Hp) (R : Value → Hp → Prop) : Prop :=
  Eb (nw (Value.cells x0) I.t_history_History h) fun x2 h1 =>
  Eb (nw (Value.cells m1) I.t_history_Message h1) fun m3 h2 =>
  Eb (nw #[Value.slice none 0 0] I.t_history_History h2) fun v4 h3 =>
  Jn0 (fun h4 =>
      Vb (lda 1 v4 h4) fun r0 =>
      R r0 h4) fun J0 =>
  Vb (fa 0 x2) fun v5 =>
  Vb (ldc v5 h3) fun v6 =>
  Vb (lda 5 m3 h3) fun v8 =>
  And (
    S.C I.f_slices_Clip_history_Message_history_Message [v6] h3 fun v7 h5 =>
    lda 5 m3 h5 = some v8 ∧
    Eb (bsl #[Value.int IntKind.i64 0, Value.int IntKind.u32 0, Value.int IntKind.u32 0, Value.int IntKind.i64 0, Value.map none] 5 1 I.t_history_Message [(0, v8)] h5) fun v9 h6 =>
    Ap I.t_history_Message #[Value.int IntKind.i64 0, Value.int IntKind.u32 0, Value.int IntKind.u32 0, Value.int IntKind.i64 0, Value.map none] 5 32 v7 v9 h6 fun v10 h7 =>
    Vb (bldS [(0, 1)] #[Value.slice none 0 0] [(0, v10)]) fun v11 =>
    Sb (sto 1 v4 v11 h7) fun h8 =>
    J0 h8) (
    Eb (bsl #[Value.int IntKind.i64 0, Value.int IntKind.u32 0, Value.int IntKind.u32 0, Value.int IntKind.i64 0, Value.map none] 5 1 I.t_history_Message [(0, v8)] h3) fun v9_1 h9 =>
    ldc v5 h9 = some v6 ∧
    S.C I.f_slices_Clip_history_Message_history_Message [v6] h9 fun v7_1 h10 =>
    Ap I.t_history_Message #[Value.int IntKind.i64 0, Value.int IntKind.u32 0, Value.int IntKind.u32 0, Value.int IntKind.i64 0, Value.map none] 5 32 v7_1 v9_1 h10 fun v10_1 h11 =>
    Vb (bldS [(0, 1)] #[Value.slice none 0 0] [(0, v10_1)]) fun v11_1 =>
    Sb (sto 1 v4 v11_1 h11) fun h12 =>
    J0 h12)

def F_memory_Memory_with (S : Sys) (I : Ids) (m0 t1 v2 : Value) (h : Hp) (R : Value → Hp → Prop) : Prop :=
  Eb (nw (Value.cells m0) I.t_memory_Memory h) fun m3 h1 =>
  Eb (nw (Value.cells v2) I.t_view_View h1) fun v5 h2 =>
  Eb (nw #[Value.slice none 0 0, Value.slice none 0 0] I.t_memory_Memory h2) fun v6 h3 =>
  Vb (fa 1 m3) fun v8 =>
  Vb (ldc v8 h3) fun v9 =>
  Vb (lnS v9) fun v10 =>
  Eb (msl #[Value.map none] 1 8 I.t_view_View v10 v10 h3) fun v11 h4 =>
  Vb (fa 1 m3) fun v13 =>
  Vb (ldc v13 h4) fun v14 =>
  Eb (cpy 1 v11 v14 h4) fun v15 h5 =>
  Vb (bin .sub t1 (Value.int IntKind.i64 1)) fun v18 =>
  Vb (lda 1 v5 h5) fun v19 =>
  Vb (ixs 1 v11 v18) fun v20 =>
  Sb (sto 1 v20 v19 h5) fun h6 =>
  Vb (fa 1 m3) fun v22 =>
  Sb (sto 1 v22 v11 h6) fun h7 =>
  Vb (lda 2 m3 h7) fun v23 =>
  Sb (sto 2 v6 v23 h7) fun h8 =>
  Vb (lda 2 v6 h8) fun r0 =>
  R r0 h8

def F_memory_Memory_thread (S : Sys) (I : Ids) (m0 t1 : Value) (h : Hp) (R : Value → Hp → Prop) : Prop :=
  Eb (nw (Value.cells m0) I.t_memory_Memory h) fun m2 h1 =>
  Jn1 (fun v4 h2 =>
      R v4 h2) fun J0 =>
  Vb (bin .geq t1 (Value.int IntKind.i64 1)) fun v6 =>
  Br v6 (
    Vb (fa 1 m2) fun v9 =>
    Vb (ldc v9 h1) fun v10 =>
    Vb (lnS v10) fun v11 =>
    Vb (bin .leq t1 v11) fun v12 =>
    J0 v12 h1) (
    J0 (Value.bool false) h1)

def F_memory_Memory_finds (S : Sys) (I : Ids) (m0 t1 at2 i3 joined4 : Value) (h : Hp) (R : Value → Hp → Prop) : Prop :=
  Eb (nw (Value.cells m0) I.t_memory_Memory h) fun m5 h1 =>
  Eb (nw #[Value.slice none 0 0, Value.slice none 0 0] I.t_memory_Memory h1) fun v10 h2 =>
  Eb (nw #[Value.int IntKind.i64 0, Value.int IntKind.u32 0, Value.int IntKind.u32 0] I.t_api_Word h2) fun v11 h3 =>
  Vb (fa 0 m5) fun v16 =>
  Vb (ldc v16 h3) fun v17 =>
  Vb (ixs 1 v17 at2) fun v19 =>
  Vb (lda 1 v19 h3) fun v20 =>
  S.C I.f_history_History_At [v20, i3] h3 fun v22 h4 =>
  Vb (ext 0 v22) fun v23 =>
  Vb (ext 1 v22) fun v24 =>
  Eb (nw #[Value.int IntKind.i64 0, Value.int IntKind.u32 0, Value.int IntKind.u32 0, Value.int IntKind.i64 0, Value.map none] I.t_history_Message h4) fun x12 h5 =>
  Sb (sto 5 x12 v23 h5) fun h6 =>
  Vb (lda 2 m5 h6) fun v25 =>
  S.C I.f_memory_Memory_Seen [v25, t1] h6 fun v27 h7 =>
  S.C I.f_view_View_With [v27, at2, i3] h7 fun v30 h8 =>
  Eb (nw #[Value.map none] I.t_view_View h8) fun v14 h9 =>
  Sb (sto 1 v14 v30 h9) fun h10 =>
  Jn0 (fun h11 =>
      Vb (lda 2 m5 h11) fun v36 =>
      Vb (lda 1 v14 h11) fun v38 =>
      Vb (fa 0 x12) fun v40 =>
      Vb (lda 3 v40 h11) fun v41 =>
      S.C I.f_memory_Memory_with [v36, t1, v38] h11 fun v39 h12 =>
      lda 3 v40 h12 = some v41 ∧
      Sb (sto 2 v10 v39 h12) fun h13 =>
      lda 3 v40 h13 = some v41 ∧
      Sb (sto 3 v11 v41 h13) fun h14 =>
      Vb (lda 2 v10 h14) fun r0 =>
      Vb (lda 3 v11 h14) fun r1 =>
      R (.tuple #[r0, r1]) h14) fun J0 =>
  Br joined4 (
    Vb (lda 1 v14 h10) fun v32 =>
    Vb (fa 4 x12) fun v33 =>
    Vb (lda 1 v33 h10) fun v34 =>
    S.C I.f_view_Join [v32, v34] h10 fun v35 h15 =>
    Sb (sto 1 v14 v35 h15) fun h16 =>
    J0 h16) (
    J0 h10)

def F_view_View_At (S : Sys) (I : Ids) (v0 l1 : Value) (h : Hp) (R : Value → Hp → Prop) : Prop :=
  Eb (nw (Value.cells v0) I.t_view_View h) fun v2 h1 =>
  Vb (fa 0 v2) fun v5 =>
  Vb (ldc v5 h1) fun v6 =>
  Vb (lkm (.int .i64) (Value.int IntKind.i64 0) false v6 l1 h1) fun v8 =>
  R v8 h1

def F_maps_Clone_map_api_Loc_int_api_Loc_int (S : Sys) (I : Ids) (m0 : Value) (h : Hp) (R : Value → Hp → Prop) : Prop :=
  Vb (pos? (eqM m0 (Value.map none))) fun v4 =>
  Br v4 (
    R (Value.map none) h) (
    Vb (some (.iface I.t_map_api_Loc_int m0)) fun v6 =>
    Eb (mcl [v6] h) fun v7 h1 =>
    Vb (tas I.t_map_api_Loc_int (Value.map none) false v7) fun v8 =>
    R v8 h1)

def F_slices_Clip_history_Message_history_Message (S : Sys) (I : Ids) (s0 : Value) (h : Hp) (R : Value → Hp → Prop) : Prop :=
  Vb (lnS s0) fun v5 =>
  Vb (lnS s0) fun v7 =>
  Vb (slc 5 s0 none (some v5) (some v7)) fun v8 =>
  R v8 h

def F_view_Join (S : Sys) (I : Ids) (a0 b1 : Value) (h : Hp) (R : Value → Hp → Prop) : Prop :=
  Eb (nw (Value.cells a0) I.t_view_View h) fun a2 h1 =>
  Eb (nw (Value.cells b1) I.t_view_View h1) fun b3 h2 =>
  Eb (nw #[Value.map none] I.t_view_View h2) fun v4 h3 =>
  Vb (fa 0 b3) fun v8 =>
  Vb (ldc v8 h3) fun v9 =>
  Vb (lnM v9 h3) fun v10 =>
  Vb (bin .eql v10 (Value.int IntKind.i64 0)) fun v11 =>
  Br v11 (
    Vb (lda 1 a2 h3) fun v12 =>
    Sb (sto 1 v4 v12 h3) fun h4 =>
    Vb (lda 1 v4 h4) fun r0 =>
    R r0 h4) (
    Vb (fa 0 b3) fun v13 =>
    Vb (ldc v13 h3) fun v14 =>
    S.C I.f_maps_Clone_map_api_Loc_int_api_Loc_int [v14] h3 fun v15 h5 =>
    Vb (fa 0 a2) fun v16 =>
    Vb (ldc v16 h5) fun v17 =>
    Eb (rng v17 h5) fun v18 h6 =>
    Lp0 h6 fun h7 again0 =>
    Nx v18 h7 fun v19 h8 =>
    Vb (ext 0 v19) fun v20 =>
    Br v20 (
      Vb (ent v18 h8) fun v21 =>
      Vb (ext 0 v21) fun v22 =>
      Vb (ext 1 v21) fun v23 =>
      Vb (lkm (.int .i64) (Value.int IntKind.i64 0) false v15 v22 h8) fun v28 =>
      Vb (mx v28 v23) fun v30 =>
      Sb (mup (.int .i64) v15 v22 v30 h8) fun h9 =>
      again0 h9) (
      Vb (bldS [(0, 1)] #[Value.map none] [(0, v15)]) fun v32 =>
      Sb (sto 1 v4 v32 h8) fun h10 =>
      Vb (lda 1 v4 h10) fun r0 =>
      R r0 h10))

def F_simulcasttop_epochWriter_Next (S : Sys) (I : Ids) (w0 g1 : Value) (h : Hp) (R : Value → Hp → Prop) : Prop :=
  Eb (nw (Value.cells w0) I.t_simulcasttop_epochWriter h) fun w2 h1 =>
  Eb (nw (Value.cells g1) I.t_api_Got h1) fun g3 h2 =>
  Eb (nw #[Value.int IntKind.i64 0, Value.int IntKind.i64 0, Value.int IntKind.i64 0, Value.int IntKind.u32 0, Value.int IntKind.u32 0, Value.int IntKind.i64 0, Value.int IntKind.u32 0, Value.int IntKind.u32 0] I.t_api_Act h2) fun v5 h3 =>
  Vb (fa 5 w2) fun v16 =>
  Vb (ldc v16 h3) fun v17 =>
  Vb (inl .neq v17) fun v18 =>
  Br v18 (
    Vb (fa 5 w2) fun v20 =>
    Vb (ldc v20 h3) fun v21 =>
    Vb (lda 4 g3 h3) fun v22 =>
    Ci S.C I.mt "Next" v21 [v22] h3 fun v23 h4 =>
    Vb (ext 0 v23) fun v24 =>
    Vb (ext 1 v23) fun v25 =>
    Vb (ext 2 v23) fun v26 =>
    Eb (nw #[Value.int IntKind.i64 0, Value.int IntKind.i64 0, Value.int IntKind.i64 0, Value.int IntKind.u32 0, Value.int IntKind.u32 0, Value.int IntKind.i64 0, Value.int IntKind.u32 0, Value.int IntKind.u32 0] I.t_api_Act h4) fun a8 h5 =>
    Sb (sto 8 a8 v25 h5) fun h6 =>
    Vb (fa 5 w2) fun v28 =>
    Sb (sto 1 v28 v24 h6) fun h7 =>
    Vb (uno .not v26) fun v30 =>
    Br v30 (
      Vb (lda 22 w2 h7) fun v31 =>
      Vb (some (.iface I.t_simulcasttop_epochWriter v31)) fun v32 =>
      Vb (lda 8 a8 h7) fun v33 =>
      Sb (sto 8 v5 v33 h7) fun h8 =>
      Vb (lda 8 v5 h8) fun r1 =>
      R (.tuple #[v32, r1, (Value.bool false)]) h8) (
      Vb (fa 3 w2) fun v34 =>
      Vb (ldc v34 h7) fun v35 =>
      Vb (slc 1 v35 (some (Value.int IntKind.i64 1)) none none) fun v36 =>
      Vb (fa 5 w2) fun v37 =>
      Sb (sto 1 v37 (Value.nilIface) h7) fun h9 =>
      Vb (fa 3 w2) fun v38 =>
      Sb (sto 1 v38 v36 h9) fun h10 =>
      Vb (lda 22 w2 h10) fun v39 =>
      S.C I.f_simulcasttop_epochWriter_begin [v39] h10 fun v40 h11 =>
      Vb (ext 0 v40) fun v41 =>
      Vb (ext 1 v40) fun v42 =>
      Vb (ext 2 v40) fun v43 =>
      Sb (sto 8 v5 v42 h11) fun h12 =>
      Vb (lda 8 v5 h12) fun r1 =>
      R (.tuple #[v41, r1, v43]) h12)) (
    Vb (fa 4 w2) fun v44 =>
    Vb (ldc v44 h3) fun v45 =>
    Vb (bin .eql v45 (Value.int IntKind.i64 0)) fun v47 =>
    Br v47 (
      Vb (lda 22 w2 h3) fun v48 =>
      S.C I.f_simulcasttop_epochWriter_begin [v48] h3 fun v49 h13 =>
      Vb (ext 0 v49) fun v50 =>
      Vb (ext 1 v49) fun v51 =>
      Vb (ext 2 v49) fun v52 =>
      Sb (sto 8 v5 v51 h13) fun h14 =>
      Vb (lda 8 v5 h14) fun r1 =>
      R (.tuple #[v50, r1, v52]) h14) (
      Vb (bin .eql v45 (Value.int IntKind.i64 1)) fun v54 =>
      Br v54 (
        Vb (fa 7 w2) fun v55 =>
        Vb (ldc v55 h3) fun v56 =>
        Vb (ixs 1 v56 (Value.int IntKind.i64 0)) fun v57 =>
        Vb (ldc v57 h3) fun v58 =>
        Vb (fa 7 w2) fun v59 =>
        Vb (ldc v59 h3) fun v60 =>
        Vb (slc 1 v60 (some (Value.int IntKind.i64 1)) none none) fun v61 =>
        Vb (fa 7 w2) fun v62 =>
        Sb (sto 1 v62 v61 h3) fun h15 =>
        Vb (fa 8 w2) fun v64 =>
        Vb (ixa 4 1 v64 v58) fun v65 =>
        Vb (ldc v65 h15) fun v66 =>
        Vb (bin .add v66 (Value.int IntKind.i64 1)) fun v67 =>
        Vb (fa 8 w2) fun v68 =>
        Vb (ixa 4 1 v68 v58) fun v69 =>
        Sb (sto 1 v69 v67 h15) fun h16 =>
        Vb (fa 0 g3) fun v71 =>
        Vb (fa 0 v71) fun v72 =>
        Vb (ldc v72 h16) fun v73 =>
        Vb (fa 12 w2) fun v74 =>
        Vb (ixa 4 1 v74 v58) fun v75 =>
        Sb (sto 1 v75 v73 h16) fun h17 =>
        Vb (fa 16 w2) fun v76 =>
        Vb (lda 3 v76 h17) fun v77 =>
        Eb (nw #[Value.int IntKind.i64 0, Value.int IntKind.u32 0, Value.int IntKind.u32 0] I.t_api_Word h17) fun old11 h18 =>
        Sb (sto 3 old11 v77 h18) fun h19 =>
        Vb (fa 0 old11) fun v78 =>
        Vb (ldc v78 h19) fun v79 =>
        Vb (bin .sub v79 (Value.int IntKind.i64 1)) fun v80 =>
        Vb (bin .rem v80 (Value.int IntKind.i64 16)) fun v81 =>
        Vb (fa 19 w2) fun v82 =>
        Sb (sto 1 v82 v81 h19) fun h20 =>
        Vb (fa 8 w2) fun v85 =>
        Vb (ixa 4 1 v85 v58) fun v86 =>
        Vb (ldc v86 h20) fun v87 =>
        Vb (fa 1 old11) fun v89 =>
        Vb (ldc v89 h20) fun v90 =>
        Vb (bin .add v90 (Value.int IntKind.u32 1)) fun v91 =>
        S.C I.f_simulcasttop_epochValue [v58, v87] h20 fun v88 h21 =>
        ldc v89 h21 = some v90 ∧
        Vb (bldS [(0, 1), (1, 1), (2, 1)] #[Value.int IntKind.i64 0, Value.int IntKind.u32 0, Value.int IntKind.u32 0] [(0, v88), (1, v91)]) fun v92 =>
        Vb (fa 16 w2) fun v93 =>
        Sb (sto 3 v93 v92 h21) fun h22 =>
        Vb (fa 4 w2) fun v94 =>
        Sb (sto 1 v94 (Value.int IntKind.i64 2) h22) fun h23 =>
        Vb (lda 22 w2 h23) fun v95 =>
        Vb (some (.iface I.t_simulcasttop_epochWriter v95)) fun v96 =>
        Vb (fa 0 w2) fun v97 =>
        Vb (lda 3 v97 h23) fun v98 =>
        Vb (lda 3 old11 h23) fun v100 =>
        Vb (fa 16 w2) fun v101 =>
        Vb (lda 3 v101 h23) fun v102 =>
        S.C I.f_layout_Layout_Cell [v98, (Value.int IntKind.i64 0)] h23 fun v99 h24 =>
        lda 3 v101 h24 = some v102 ∧
        lda 3 old11 h24 = some v100 ∧
        lda 22 w2 h24 = some v95 ∧
        Vb (bldS [(0, 1), (1, 1), (2, 3), (5, 3)] #[Value.int IntKind.i64 0, Value.int IntKind.i64 0, Value.int IntKind.i64 0, Value.int IntKind.u32 0, Value.int IntKind.u32 0, Value.int IntKind.i64 0, Value.int IntKind.u32 0, Value.int IntKind.u32 0] [(0, (Value.int IntKind.i64 6)), (1, v99), (2, v100), (3, v102)]) fun v103 =>
        Sb (sto 8 v5 v103 h24) fun h25 =>
        Vb (lda 8 v5 h25) fun r1 =>
        R (.tuple #[v96, r1, (Value.bool false)]) h25) (
        Vb (bin .eql v45 (Value.int IntKind.i64 2)) fun v105 =>
        Br v105 (
          Vb (fa 3 g3) fun v106 =>
          Vb (ldc v106 h3) fun v107 =>
          Vb (uno .not v107) fun v108 =>
          Br v108 (
            Vb (lda 22 w2 h3) fun v109 =>
            S.C I.f_simulcasttop_epochWriter_fail [v109] h3 fun v110 h26 =>
            Vb (ext 0 v110) fun v111 =>
            Vb (ext 1 v110) fun v112 =>
            Vb (ext 2 v110) fun v113 =>
            Sb (sto 8 v5 v112 h26) fun h27 =>
            Vb (lda 8 v5 h27) fun r1 =>
            R (.tuple #[v111, r1, v113]) h27) (
            Vb (lda 22 w2 h3) fun v114 =>
            Vb (fa 0 w2) fun v115 =>
            Vb (lda 3 v115 h3) fun v116 =>
            S.C I.f_layout_Layout_Era [v116] h3 fun v117 h28 =>
            lda 22 w2 h28 = some v114 ∧
            S.C I.f_simulcasttop_epochWriter_look [v114, (Value.int IntKind.i64 3), v117] h28 fun v118 h29 =>
            Vb (ext 0 v118) fun v119 =>
            Vb (ext 1 v118) fun v120 =>
            Vb (ext 2 v118) fun v121 =>
            Sb (sto 8 v5 v120 h29) fun h30 =>
            Vb (lda 8 v5 h30) fun r1 =>
            R (.tuple #[v119, r1, v121]) h30)) (
          Vb (bin .eql v45 (Value.int IntKind.i64 3)) fun v123 =>
          Br v123 (
            Jn2 (fun bag12 e13 h31 =>
                Vb (bin .neq e13 (Value.int IntKind.i64 0)) fun v142 =>
                Br v142 (
                  Vb (lda 22 w2 h31) fun v143 =>
                  S.C I.f_simulcasttop_epochWriter_fail [v143] h31 fun v144 h32 =>
                  Vb (ext 0 v144) fun v145 =>
                  Vb (ext 1 v144) fun v146 =>
                  Vb (ext 2 v144) fun v147 =>
                  Sb (sto 8 v5 v146 h32) fun h33 =>
                  Vb (lda 8 v5 h33) fun r1 =>
                  R (.tuple #[v145, r1, v147]) h33) (
                  Vb (lda 1 bag12 h31) fun v148 =>
                  Vb (fa 6 w2) fun v149 =>
                  Sb (sto 1 v149 v148 h31) fun h34 =>
                  Vb (fa 20 w2) fun v150 =>
                  Sb (sto 1 v150 (Value.slice none 0 0) h34) fun h35 =>
                  Vb (lda 22 w2 h35) fun v151 =>
                  Vb (fa 0 w2) fun v152 =>
                  Vb (lda 3 v152 h35) fun v153 =>
                  S.C I.f_layout_Layout_Announce [v153, (Value.int IntKind.i64 1)] h35 fun v154 h36 =>
                  lda 22 w2 h36 = some v151 ∧
                  S.C I.f_simulcasttop_epochWriter_look [v151, (Value.int IntKind.i64 4), v154] h36 fun v155 h37 =>
                  Vb (ext 0 v155) fun v156 =>
                  Vb (ext 1 v155) fun v157 =>
                  Vb (ext 2 v155) fun v158 =>
                  Sb (sto 8 v5 v157 h37) fun h38 =>
                  Vb (lda 8 v5 h38) fun r1 =>
                  R (.tuple #[v156, r1, v158]) h38)) fun J0 =>
            Vb (fa 6 w2) fun v125 =>
            Vb (lda 1 v125 h3) fun v126 =>
            Vb (fa 19 w2) fun v127 =>
            Vb (ldc v127 h3) fun v128 =>
            Vb (fa 19 w2) fun v129 =>
            Vb (ldc v129 h3) fun v130 =>
            Vb (fa 12 w2) fun v131 =>
            Vb (ixa 4 1 v131 v130) fun v132 =>
            Vb (ldc v132 h3) fun v133 =>
            Vb (fa 0 g3) fun v134 =>
            Vb (fa 0 v134) fun v135 =>
            Vb (ldc v135 h3) fun v136 =>
            Vb (bldS [(0, 1), (1, 1), (2, 1)] #[Value.int IntKind.i64 0, Value.int IntKind.i64 0, Value.int IntKind.i64 0] [(0, v128), (1, v133), (2, v136)]) fun v137 =>
            And (
              S.C I.f_reclaim_Bag_Retire [v126, v137] h3 fun v138 h39 =>
              Vb (ext 0 v138) fun v139 =>
              Vb (ext 1 v138) fun v140 =>
              Eb (nw #[Value.slice none 0 0] I.t_reclaim_Bag h39) fun bag12_1 h40 =>
              Sb (sto 1 bag12_1 v139 h40) fun h41 =>
              J0 bag12_1 v140 h41) (
              Eb (nw #[Value.slice none 0 0] I.t_reclaim_Bag h3) fun bag12_2 h42 =>
              ldc v135 h42 = some v136 ∧
              ldc v132 h42 = some v133 ∧
              ldc v129 h42 = some v130 ∧
              ldc v127 h42 = some v128 ∧
              lda 1 v125 h42 = some v126 ∧
              S.C I.f_reclaim_Bag_Retire [v126, v137] h42 fun v138_1 h43 =>
              Vb (ext 0 v138_1) fun v139_1 =>
              Vb (ext 1 v138_1) fun v140_1 =>
              Sb (sto 1 bag12_2 v139_1 h43) fun h44 =>
              J0 bag12_2 v140_1 h44)) (
            Jn0 (fun h45 =>
                Vb (fa 20 w2) fun v168 =>
                Vb (ldc v168 h45) fun v169 =>
                Vb (lnS v169) fun v170 =>
                Vb (fa 0 w2) fun v171 =>
                Vb (fa 0 v171) fun v172 =>
                Vb (ldc v172 h45) fun v173 =>
                Vb (bin .lss v170 v173) fun v174 =>
                Br v174 (
                  Vb (lda 22 w2 h45) fun v175 =>
                  Vb (fa 0 w2) fun v176 =>
                  Vb (lda 3 v176 h45) fun v177 =>
                  Vb (fa 20 w2) fun v178 =>
                  Vb (ldc v178 h45) fun v179 =>
                  Vb (lnS v179) fun v180 =>
                  Vb (bin .add v180 (Value.int IntKind.i64 1)) fun v181 =>
                  S.C I.f_layout_Layout_Announce [v177, v181] h45 fun v182 h46 =>
                  lda 22 w2 h46 = some v175 ∧
                  S.C I.f_simulcasttop_epochWriter_look [v175, (Value.int IntKind.i64 4), v182] h46 fun v183 h47 =>
                  Vb (ext 0 v183) fun v184 =>
                  Vb (ext 1 v183) fun v185 =>
                  Vb (ext 2 v183) fun v186 =>
                  Sb (sto 8 v5 v185 h47) fun h48 =>
                  Vb (lda 8 v5 h48) fun r1 =>
                  R (.tuple #[v184, r1, v186]) h48) (
                  Vb (fa 6 w2) fun v188 =>
                  Vb (lda 1 v188 h45) fun v189 =>
                  Vb (fa 20 w2) fun v190 =>
                  Vb (ldc v190 h45) fun v191 =>
                  S.C I.f_reclaim_Bag_Sweep [v189, v191, (Value.slice none 0 0)] h45 fun v192 h49 =>
                  Vb (ext 0 v192) fun v193 =>
                  Vb (ext 1 v192) fun v194 =>
                  Eb (nw #[Value.slice none 0 0] I.t_reclaim_Bag h49) fun bag14 h50 =>
                  Sb (sto 1 bag14 v193 h50) fun h51 =>
                  Vb (lda 1 bag14 h51) fun v195 =>
                  Vb (fa 7 w2) fun v196 =>
                  Vb (ldc v196 h51) fun v197 =>
                  Vb (fa 3 w2) fun v201 =>
                  Vb (ldc v201 h51) fun v202 =>
                  Vb (slc 1 v202 (some (Value.int IntKind.i64 1)) none none) fun v203 =>
                  Vb (fa 6 w2) fun v204 =>
                  S.C I.f_slices_Clip_int_int [v197] h51 fun v198 h52 =>
                  ldc v201 h52 = some v202 ∧
                  lda 1 bag14 h52 = some v195 ∧
                  Ap I.t_int #[Value.int IntKind.i64 0] 1 8 v198 v194 h52 fun v200 h53 =>
                  ldc v201 h53 = some v202 ∧
                  lda 1 bag14 h53 = some v195 ∧
                  Sb (sto 1 v204 v195 h53) fun h54 =>
                  Vb (fa 7 w2) fun v205 =>
                  Sb (sto 1 v205 v200 h54) fun h55 =>
                  Vb (fa 3 w2) fun v206 =>
                  Sb (sto 1 v206 v203 h55) fun h56 =>
                  Vb (lda 22 w2 h56) fun v207 =>
                  S.C I.f_simulcasttop_epochWriter_begin [v207] h56 fun v208 h57 =>
                  Vb (ext 0 v208) fun v209 =>
                  Vb (ext 1 v208) fun v210 =>
                  Vb (ext 2 v208) fun v211 =>
                  Sb (sto 8 v5 v210 h57) fun h58 =>
                  Vb (lda 8 v5 h58) fun r1 =>
                  R (.tuple #[v209, r1, v211]) h58)) fun J1 =>
            Vb (fa 20 w2) fun v159 =>
            Vb (ldc v159 h3) fun v160 =>
            Vb (fa 0 g3) fun v162 =>
            Vb (fa 0 v162) fun v163 =>
            Vb (ldc v163 h3) fun v164 =>
            And (
              S.C I.f_slices_Clip_int64_int64 [v160] h3 fun v161 h59 =>
              ldc v163 h59 = some v164 ∧
              Eb (bsl #[Value.int IntKind.i64 0] 1 1 I.t_int64 [(0, v164)] h59) fun v165 h60 =>
              Ap I.t_int64 #[Value.int IntKind.i64 0] 1 8 v161 v165 h60 fun v166 h61 =>
              Vb (fa 20 w2) fun v167 =>
              Sb (sto 1 v167 v166 h61) fun h62 =>
              J1 h62) (
              Eb (bsl #[Value.int IntKind.i64 0] 1 1 I.t_int64 [(0, v164)] h3) fun v165_1 h63 =>
              ldc v159 h63 = some v160 ∧
              S.C I.f_slices_Clip_int64_int64 [v160] h63 fun v161_1 h64 =>
              Ap I.t_int64 #[Value.int IntKind.i64 0] 1 8 v161_1 v165_1 h64 fun v166_1 h65 =>
              Vb (fa 20 w2) fun v167_1 =>
              Sb (sto 1 v167_1 v166_1 h65) fun h66 =>
              J1 h66))))))

def F_simulcasttop_epochWriter_begin (S : Sys) (I : Ids) (w0 : Value) (h : Hp) (R : Value → Hp → Prop) : Prop :=
  Eb (nw (Value.cells w0) I.t_simulcasttop_epochWriter h) fun w1 h1 =>
  Eb (nw #[Value.int IntKind.i64 0, Value.int IntKind.i64 0, Value.int IntKind.i64 0, Value.int IntKind.u32 0, Value.int IntKind.u32 0, Value.int IntKind.i64 0, Value.int IntKind.u32 0, Value.int IntKind.u32 0] I.t_api_Act h1) fun v3 h2 =>
  Vb (fa 4 w1) fun v10 =>
  Sb (sto 1 v10 (Value.int IntKind.i64 0) h2) fun h3 =>
  Vb (fa 3 w1) fun v12 =>
  Vb (ldc v12 h3) fun v13 =>
  Vb (lnS v13) fun v14 =>
  Vb (bin .eql v14 (Value.int IntKind.i64 0)) fun v15 =>
  Br v15 (
    Vb (lda 22 w1 h3) fun v16 =>
    Vb (some (.iface I.t_simulcasttop_epochWriter v16)) fun v17 =>
    Vb (bldS [(0, 1), (1, 1), (2, 3), (5, 3)] #[Value.int IntKind.i64 0, Value.int IntKind.i64 0, Value.int IntKind.i64 0, Value.int IntKind.u32 0, Value.int IntKind.u32 0, Value.int IntKind.i64 0, Value.int IntKind.u32 0, Value.int IntKind.u32 0] []) fun v18 =>
    Sb (sto 8 v3 v18 h3) fun h4 =>
    Vb (lda 8 v3 h4) fun r1 =>
    R (.tuple #[v17, r1, (Value.bool true)]) h4) (
    Vb (fa 3 w1) fun v20 =>
    Vb (ldc v20 h3) fun v21 =>
    Vb (ixs 1 v21 (Value.int IntKind.i64 0)) fun v22 =>
    Vb (ldc v22 h3) fun v23 =>
    Vb (bin .rem v23 (Value.int IntKind.u8 3)) fun v24 =>
    Vb (bin .eql v24 (Value.int IntKind.u8 0)) fun v25 =>
    Br v25 (
      Vb (fa 0 w1) fun v27 =>
      Vb (lda 3 v27 h3) fun v28 =>
      S.C I.f_era_Advance [v28] h3 fun v29 h5 =>
      Vb (ext 0 v29) fun v30 =>
      Vb (ext 1 v29) fun v31 =>
      Vb (bin .neq v31 (Value.int IntKind.i64 0)) fun v33 =>
      Br v33 (
        Vb (lda 22 w1 h5) fun v34 =>
        S.C I.f_simulcasttop_epochWriter_fail [v34] h5 fun v35 h6 =>
        Vb (ext 0 v35) fun v36 =>
        Vb (ext 1 v35) fun v37 =>
        Vb (ext 2 v35) fun v38 =>
        Sb (sto 8 v3 v37 h6) fun h7 =>
        Vb (lda 8 v3 h7) fun r1 =>
        R (.tuple #[v36, r1, v38]) h7) (
        Vb (bldS [(0, 3), (3, 1)] #[Value.int IntKind.i64 0, Value.int IntKind.u32 0, Value.int IntKind.u32 0, Value.bool false] []) fun v41 =>
        Ci S.C I.mt "Next" v30 [v41] h5 fun v42 h8 =>
        Vb (ext 0 v42) fun v43 =>
        Vb (ext 1 v42) fun v44 =>
        Vb (ext 2 v42) fun v45 =>
        Eb (nw #[Value.int IntKind.i64 0, Value.int IntKind.i64 0, Value.int IntKind.i64 0, Value.int IntKind.u32 0, Value.int IntKind.u32 0, Value.int IntKind.i64 0, Value.int IntKind.u32 0, Value.int IntKind.u32 0] I.t_api_Act h8) fun a8 h9 =>
        Sb (sto 8 a8 v44 h9) fun h10 =>
        Vb (fa 5 w1) fun v47 =>
        Sb (sto 1 v47 v43 h10) fun h11 =>
        Vb (lda 22 w1 h11) fun v48 =>
        Vb (some (.iface I.t_simulcasttop_epochWriter v48)) fun v49 =>
        Vb (lda 8 a8 h11) fun v50 =>
        Sb (sto 8 v3 v50 h11) fun h12 =>
        Vb (lda 8 v3 h12) fun r1 =>
        R (.tuple #[v49, r1, (Value.bool false)]) h12)) (
      Vb (fa 7 w1) fun v52 =>
      Vb (ldc v52 h3) fun v53 =>
      Vb (lnS v53) fun v54 =>
      Vb (bin .eql v54 (Value.int IntKind.i64 0)) fun v55 =>
      Br v55 (
        Vb (fa 20 w1) fun v56 =>
        Sb (sto 1 v56 (Value.slice none 0 0) h3) fun h13 =>
        Vb (lda 22 w1 h13) fun v57 =>
        Vb (fa 0 w1) fun v58 =>
        Vb (lda 3 v58 h13) fun v59 =>
        S.C I.f_layout_Layout_Announce [v59, (Value.int IntKind.i64 1)] h13 fun v60 h14 =>
        lda 22 w1 h14 = some v57 ∧
        S.C I.f_simulcasttop_epochWriter_look [v57, (Value.int IntKind.i64 4), v60] h14 fun v61 h15 =>
        Vb (ext 0 v61) fun v62 =>
        Vb (ext 1 v61) fun v63 =>
        Vb (ext 2 v61) fun v64 =>
        Sb (sto 8 v3 v63 h15) fun h16 =>
        Vb (lda 8 v3 h16) fun r1 =>
        R (.tuple #[v62, r1, v64]) h16) (
        Vb (lda 22 w1 h3) fun v65 =>
        Vb (fa 0 w1) fun v66 =>
        Vb (lda 3 v66 h3) fun v67 =>
        S.C I.f_layout_Layout_Era [v67] h3 fun v68 h17 =>
        lda 22 w1 h17 = some v65 ∧
        S.C I.f_simulcasttop_epochWriter_look [v65, (Value.int IntKind.i64 1), v68] h17 fun v69 h18 =>
        Vb (ext 0 v69) fun v70 =>
        Vb (ext 1 v69) fun v71 =>
        Vb (ext 2 v69) fun v72 =>
        Sb (sto 8 v3 v71 h18) fun h19 =>
        Vb (lda 8 v3 h19) fun r1 =>
        R (.tuple #[v70, r1, v72]) h19)))

def F_simulcasttop_epochWriter_fail (S : Sys) (I : Ids) (w0 : Value) (h : Hp) (R : Value → Hp → Prop) : Prop :=
  Eb (nw (Value.cells w0) I.t_simulcasttop_epochWriter h) fun w1 h1 =>
  Eb (nw #[Value.int IntKind.i64 0, Value.int IntKind.i64 0, Value.int IntKind.i64 0, Value.int IntKind.u32 0, Value.int IntKind.u32 0, Value.int IntKind.i64 0, Value.int IntKind.u32 0, Value.int IntKind.u32 0] I.t_api_Act h1) fun v3 h2 =>
  Vb (fa 21 w1) fun v5 =>
  Sb (sto 1 v5 (Value.bool true) h2) fun h3 =>
  Vb (fa 3 w1) fun v6 =>
  Sb (sto 1 v6 (Value.slice none 0 0) h3) fun h4 =>
  Vb (fa 4 w1) fun v7 =>
  Sb (sto 1 v7 (Value.int IntKind.i64 0) h4) fun h5 =>
  Vb (fa 5 w1) fun v8 =>
  Sb (sto 1 v8 (Value.nilIface) h5) fun h6 =>
  Vb (lda 22 w1 h6) fun v9 =>
  Vb (some (.iface I.t_simulcasttop_epochWriter v9)) fun v10 =>
  Vb (bldS [(0, 1), (1, 1), (2, 3), (5, 3)] #[Value.int IntKind.i64 0, Value.int IntKind.i64 0, Value.int IntKind.i64 0, Value.int IntKind.u32 0, Value.int IntKind.u32 0, Value.int IntKind.i64 0, Value.int IntKind.u32 0, Value.int IntKind.u32 0] []) fun v11 =>
  Sb (sto 8 v3 v11 h6) fun h7 =>
  Vb (lda 8 v3 h7) fun r1 =>
  R (.tuple #[v10, r1, (Value.bool true)]) h7

def F_simulcasttop_epochWriter_look (S : Sys) (I : Ids) (w0 phase1 at2 : Value) (h : Hp) (R : Value → Hp → Prop) : Prop :=
  Eb (nw (Value.cells w0) I.t_simulcasttop_epochWriter h) fun w3 h1 =>
  Eb (nw #[Value.int IntKind.i64 0, Value.int IntKind.i64 0, Value.int IntKind.i64 0, Value.int IntKind.u32 0, Value.int IntKind.u32 0, Value.int IntKind.i64 0, Value.int IntKind.u32 0, Value.int IntKind.u32 0] I.t_api_Act h1) fun v7 h2 =>
  Vb (fa 4 w3) fun v10 =>
  Sb (sto 1 v10 phase1 h2) fun h3 =>
  Vb (lda 22 w3 h3) fun v11 =>
  Vb (some (.iface I.t_simulcasttop_epochWriter v11)) fun v12 =>
  Vb (bldS [(0, 1), (1, 1), (2, 3), (5, 3)] #[Value.int IntKind.i64 0, Value.int IntKind.i64 0, Value.int IntKind.i64 0, Value.int IntKind.u32 0, Value.int IntKind.u32 0, Value.int IntKind.i64 0, Value.int IntKind.u32 0, Value.int IntKind.u32 0] [(0, (Value.int IntKind.i64 5)), (1, at2)]) fun v14 =>
  Sb (sto 8 v7 v14 h3) fun h4 =>
  Vb (lda 8 v7 h4) fun r1 =>
  R (.tuple #[v12, r1, (Value.bool false)]) h4

def F_reclaim_Bag_Retire (S : Sys) (I : Ids) (b0 i1 : Value) (h : Hp) (R : Value → Hp → Prop) : Prop :=
  Eb (nw (Value.cells b0) I.t_reclaim_Bag h) fun b2 h1 =>
  Eb (nw (Value.cells i1) I.t_reclaim_Item h1) fun i3 h2 =>
  Eb (nw #[Value.slice none 0 0] I.t_reclaim_Bag h2) fun v4 h3 =>
  Jn1 (fun v6 h4 =>
      Br v6 (
        Vb (lda 1 b2 h4) fun v15 =>
        Sb (sto 1 v4 v15 h4) fun h5 =>
        Vb (lda 1 v4 h5) fun r0 =>
        R (.tuple #[r0, (Value.int IntKind.i64 3)]) h5) (
        Jn1 (fun v16 h6 =>
            Br v16 (
              Vb (lda 1 b2 h6) fun v27 =>
              Sb (sto 1 v4 v27 h6) fun h7 =>
              Vb (lda 1 v4 h7) fun r0 =>
              R (.tuple #[r0, (Value.int IntKind.i64 12)]) h7) (
              Vb (fa 0 b2) fun v29 =>
              Vb (ldc v29 h6) fun v30 =>
              Vb (some (.func (.func I.f_reclaim_Bag_Retire_1) #[] #[i3])) fun v31 =>
              S.C I.f_slices_ContainsFunc_reclaim_Item_reclaim_Item [v30, v31] h6 fun v32 h8 =>
              Br v32 (
                Vb (lda 1 b2 h8) fun v33 =>
                Sb (sto 1 v4 v33 h8) fun h9 =>
                Vb (lda 1 v4 h9) fun r0 =>
                R (.tuple #[r0, (Value.int IntKind.i64 11)]) h9) (
                Jn1 (fun v5 h10 =>
                    Vb (lda 1 v4 h10) fun r0 =>
                    R (.tuple #[r0, v5]) h10) fun J2 =>
                Vb (fa 0 b2) fun v34 =>
                Vb (ldc v34 h8) fun v35 =>
                Vb (lda 3 i3 h8) fun v37 =>
                And (
                  S.C I.f_slices_Clone_reclaim_Item_reclaim_Item [v35] h8 fun v36 h11 =>
                  lda 3 i3 h11 = some v37 ∧
                  Eb (bsl #[Value.int IntKind.i64 0, Value.int IntKind.i64 0, Value.int IntKind.i64 0] 3 1 I.t_reclaim_Item [(0, v37)] h11) fun v38 h12 =>
                  Ap I.t_reclaim_Item #[Value.int IntKind.i64 0, Value.int IntKind.i64 0, Value.int IntKind.i64 0] 3 24 v36 v38 h12 fun v39 h13 =>
                  Vb (bldS [(0, 1)] #[Value.slice none 0 0] [(0, v39)]) fun v40 =>
                  Sb (sto 1 v4 v40 h13) fun h14 =>
                  J2 (Value.int IntKind.i64 0) h14) (
                  Eb (bsl #[Value.int IntKind.i64 0, Value.int IntKind.i64 0, Value.int IntKind.i64 0] 3 1 I.t_reclaim_Item [(0, v37)] h8) fun v38_1 h15 =>
                  ldc v34 h15 = some v35 ∧
                  S.C I.f_slices_Clone_reclaim_Item_reclaim_Item [v35] h15 fun v36_1 h16 =>
                  Ap I.t_reclaim_Item #[Value.int IntKind.i64 0, Value.int IntKind.i64 0, Value.int IntKind.i64 0] 3 24 v36_1 v38_1 h16 fun v39_1 h17 =>
                  Vb (bldS [(0, 1)] #[Value.slice none 0 0] [(0, v39_1)]) fun v40_1 =>
                  Sb (sto 1 v4 v40_1 h17) fun h18 =>
                  J2 (Value.int IntKind.i64 0) h18)))) fun J1 =>
        Vb (fa 1 i3) fun v17 =>
        Vb (ldc v17 h4) fun v18 =>
        Vb (bin .lss v18 (Value.int IntKind.i64 0)) fun v19 =>
        Br v19 (
          J1 (Value.bool true) h4) (
          Vb (fa 1 i3) fun v21 =>
          Vb (ldc v21 h4) fun v22 =>
          Vb (fa 2 i3) fun v23 =>
          Vb (ldc v23 h4) fun v24 =>
          Vb (bin .gtr v22 v24) fun v25 =>
          J1 v25 h4))) fun J0 =>
  Vb (fa 0 i3) fun v7 =>
  Vb (ldc v7 h3) fun v8 =>
  Vb (bin .lss v8 (Value.int IntKind.i64 0)) fun v9 =>
  Br v9 (
    J0 (Value.bool true) h3) (
    Vb (fa 0 i3) fun v11 =>
    Vb (ldc v11 h3) fun v12 =>
    Vb (bin .geq v12 (Value.int IntKind.i64 64)) fun v13 =>
    J0 v13 h3)

def F_layout_Layout_Announce (S : Sys) (I : Ids) (l0 t1 : Value) (h : Hp) (R : Value → Hp → Prop) : Prop :=
  Eb (nw (Value.cells l0) I.t_layout_Layout h) fun l2 h1 =>
  Vb (lda 3 l2 h1) fun v5 =>
  Vb (bin .sub t1 (Value.int IntKind.i64 1)) fun v7 =>
  S.C I.f_layout_Layout_at [v5, (Value.int IntKind.i64 1), v7, (Value.int IntKind.i64 0)] h1 fun v8 h2 =>
  R v8 h2

def F_slices_Clip_int64_int64 (S : Sys) (I : Ids) (s0 : Value) (h : Hp) (R : Value → Hp → Prop) : Prop :=
  Vb (lnS s0) fun v5 =>
  Vb (lnS s0) fun v7 =>
  Vb (slc 1 s0 none (some v5) (some v7)) fun v8 =>
  R v8 h

def F_slices_Clip_int_int (S : Sys) (I : Ids) (s0 : Value) (h : Hp) (R : Value → Hp → Prop) : Prop :=
  Vb (lnS s0) fun v5 =>
  Vb (lnS s0) fun v7 =>
  Vb (slc 1 s0 none (some v5) (some v7)) fun v8 =>
  R v8 h

def F_era_Advance (S : Sys) (I : Ids) (l0 : Value) (h : Hp) (R : Value → Hp → Prop) : Prop :=
  Eb (nw (Value.cells l0) I.t_layout_Layout h) fun l1 h1 =>
  Vb (lda 3 l1 h1) fun v4 =>
  S.C I.f_era_made [v4, (Value.int IntKind.i64 0), (.func (.func I.f_era_Advance_1) #[] #[])] h1 fun v5 h2 =>
  Vb (ext 0 v5) fun v6 =>
  Vb (ext 1 v5) fun v7 =>
  R (.tuple #[v6, v7]) h2

def F_slices_ContainsFunc_reclaim_Item_reclaim_Item (S : Sys) (I : Ids) (s0 f1 : Value) (h : Hp) (R : Value → Hp → Prop) : Prop :=
  S.C I.f_slices_IndexFunc_reclaim_Item_reclaim_Item [s0, f1] h fun v7 h1 =>
  Vb (bin .geq v7 (Value.int IntKind.i64 0)) fun v8 =>
  R v8 h1

def F_reclaim_Bag_Retire_1 (S : Sys) (I : Ids) (o0 v1 : Value) (h : Hp) (R : Value → Hp → Prop) : Prop :=
  Eb (nw (Value.cells o0) I.t_reclaim_Item h) fun o2 h1 =>
  Vb (fa 0 o2) fun v4 =>
  Vb (ldc v4 h1) fun v5 =>
  Vb (fa 0 v1) fun v6 =>
  Vb (ldc v6 h1) fun v7 =>
  Vb (bin .eql v5 v7) fun v8 =>
  R v8 h1

def F_slices_Clone_reclaim_Item_reclaim_Item (S : Sys) (I : Ids) (s0 : Value) (h : Hp) (R : Value → Hp → Prop) : Prop :=
  Vb (pos? (eqS s0 (Value.slice none 0 0))) fun v4 =>
  Br v4 (
    R (Value.slice none 0 0) h) (
    Eb (bsl #[Value.int IntKind.i64 0, Value.int IntKind.i64 0, Value.int IntKind.i64 0] 3 0 I.t_reclaim_Item [] h) fun v5 h1 =>
    Ap I.t_reclaim_Item #[Value.int IntKind.i64 0, Value.int IntKind.i64 0, Value.int IntKind.i64 0] 3 24 v5 s0 h1 fun v7 h2 =>
    R v7 h2)

def F_era_made (S : Sys) (I : Ids) (l0 t1 first2 : Value) (h : Hp) (R : Value → Hp → Prop) : Prop :=
  Eb (nw (Value.cells l0) I.t_layout_Layout h) fun l3 h1 =>
  Vb (lda 3 l3 h1) fun v9 =>
  S.C I.f_layout_Layout_Check [v9] h1 fun v10 h2 =>
  Vb (bin .neq v10 (Value.int IntKind.i64 0)) fun v11 =>
  Br v11 (
    R (.tuple #[(Value.nilIface), (Value.int IntKind.i64 1)]) h2) (
    Vb (lda 3 l3 h2) fun v12 =>
    S.C I.f_layout_Layout_Era [v12] h2 fun v13 h3 =>
    Vb (bldS [(0, 1), (1, 1), (2, 3), (5, 1), (6, 1), (7, 1), (8, 1)] #[Value.int IntKind.i64 0, Value.int IntKind.i64 0, Value.int IntKind.i64 0, Value.int IntKind.u32 0, Value.int IntKind.u32 0, Value.int IntKind.i64 0, Value.bool false, Value.bool false, Value.nilFunc] [(0, v13), (6, first2)]) fun v15 =>
    Eb (nw #[Value.int IntKind.i64 0, Value.int IntKind.i64 0, Value.int IntKind.i64 0, Value.int IntKind.u32 0, Value.int IntKind.u32 0, Value.int IntKind.i64 0, Value.bool false, Value.bool false, Value.nilFunc] I.t_era_code h3) fun c8 h4 =>
    Sb (sto 9 c8 v15 h4) fun h5 =>
    Jn0 (fun h6 =>
        Vb (lda 9 c8 h6) fun v22 =>
        Vb (some (.iface I.t_era_code v22)) fun v23 =>
        R (.tuple #[v23, (Value.int IntKind.i64 0)]) h6) fun J0 =>
    Vb (bin .neq t1 (Value.int IntKind.i64 0)) fun v17 =>
    Br v17 (
      Vb (lda 3 l3 h5) fun v18 =>
      S.C I.f_layout_Layout_Announce [v18, t1] h5 fun v20 h7 =>
      Vb (fa 1 c8) fun v21 =>
      Sb (sto 1 v21 v20 h7) fun h8 =>
      J0 h8) (
      J0 h5))

def F_era_Advance_1 (S : Sys) (I : Ids) (c0 v1 : Value) (h : Hp) (R : Value → Hp → Prop) : Prop :=
  Eb (nw (Value.cells c0) I.t_era_code h) fun c2 h1 =>
  Eb (nw (Value.cells v1) I.t_api_Got h1) fun v3 h2 =>
  Eb (nw #[Value.int IntKind.i64 0, Value.int IntKind.i64 0, Value.int IntKind.i64 0, Value.int IntKind.u32 0, Value.int IntKind.u32 0, Value.int IntKind.i64 0, Value.bool false, Value.bool false, Value.nilFunc] I.t_era_code h2) fun v4 h3 =>
  Eb (nw #[Value.int IntKind.i64 0, Value.int IntKind.i64 0, Value.int IntKind.i64 0, Value.int IntKind.u32 0, Value.int IntKind.u32 0, Value.int IntKind.i64 0, Value.int IntKind.u32 0, Value.int IntKind.u32 0] I.t_api_Act h3) fun v5 h4 =>
  Vb (lda 9 c2 h4) fun v6 =>
  S.C I.f_era_code_look [v6, (.func (.func I.f_era_code_raise) #[] #[])] h4 fun v7 h5 =>
  Vb (ext 0 v7) fun v8 =>
  Vb (ext 1 v7) fun v9 =>
  Sb (sto 9 v4 v8 h5) fun h6 =>
  Sb (sto 8 v5 v9 h6) fun h7 =>
  Vb (lda 9 v4 h7) fun r0 =>
  Vb (lda 8 v5 h7) fun r1 =>
  R (.tuple #[r0, r1]) h7

def F_era_code_look (S : Sys) (I : Ids) (c0 then1 : Value) (h : Hp) (R : Value → Hp → Prop) : Prop :=
  Eb (nw (Value.cells c0) I.t_era_code h) fun c2 h1 =>
  Eb (nw #[Value.int IntKind.i64 0, Value.int IntKind.i64 0, Value.int IntKind.i64 0, Value.int IntKind.u32 0, Value.int IntKind.u32 0, Value.int IntKind.i64 0, Value.bool false, Value.bool false, Value.nilFunc] I.t_era_code h1) fun v4 h2 =>
  Eb (nw #[Value.int IntKind.i64 0, Value.int IntKind.i64 0, Value.int IntKind.i64 0, Value.int IntKind.u32 0, Value.int IntKind.u32 0, Value.int IntKind.i64 0, Value.int IntKind.u32 0, Value.int IntKind.u32 0] I.t_api_Act h2) fun v5 h3 =>
  Vb (fa 8 c2) fun v7 =>
  Sb (sto 1 v7 then1 h3) fun h4 =>
  Vb (lda 9 c2 h4) fun v8 =>
  Vb (fa 0 c2) fun v9 =>
  Vb (ldc v9 h4) fun v10 =>
  Vb (bldS [(0, 1), (1, 1), (2, 3), (5, 3)] #[Value.int IntKind.i64 0, Value.int IntKind.i64 0, Value.int IntKind.i64 0, Value.int IntKind.u32 0, Value.int IntKind.u32 0, Value.int IntKind.i64 0, Value.int IntKind.u32 0, Value.int IntKind.u32 0] [(0, (Value.int IntKind.i64 5)), (1, v10)]) fun v11 =>
  Sb (sto 9 v4 v8 h4) fun h5 =>
  ldc v9 h5 = some v10 ∧
  Sb (sto 8 v5 v11 h5) fun h6 =>
  Vb (lda 9 v4 h6) fun r0 =>
  Vb (lda 8 v5 h6) fun r1 =>
  R (.tuple #[r0, r1]) h6

def F_era_code_raise (S : Sys) (I : Ids) (c0 g1 : Value) (h : Hp) (R : Value → Hp → Prop) : Prop :=
  Eb (nw (Value.cells c0) I.t_era_code h) fun c2 h1 =>
  Eb (nw (Value.cells g1) I.t_api_Got h1) fun g3 h2 =>
  Eb (nw #[Value.int IntKind.i64 0, Value.int IntKind.i64 0, Value.int IntKind.i64 0, Value.int IntKind.u32 0, Value.int IntKind.u32 0, Value.int IntKind.i64 0, Value.bool false, Value.bool false, Value.nilFunc] I.t_era_code h2) fun v4 h3 =>
  Eb (nw #[Value.int IntKind.i64 0, Value.int IntKind.i64 0, Value.int IntKind.i64 0, Value.int IntKind.u32 0, Value.int IntKind.u32 0, Value.int IntKind.i64 0, Value.int IntKind.u32 0, Value.int IntKind.u32 0] I.t_api_Act h3) fun v5 h4 =>
  Jn1 (fun v11 h5 =>
      Br v11 (
        Vb (lda 9 c2 h5) fun v12 =>
        Vb (fa 2 c2) fun v13 =>
        Vb (fa 0 v13) fun v14 =>
        Vb (ldc v14 h5) fun v15 =>
        S.C I.f_era_code_done [v12, v15] h5 fun v16 h6 =>
        Vb (ext 0 v16) fun v17 =>
        Vb (ext 1 v16) fun v18 =>
        Sb (sto 9 v4 v17 h6) fun h7 =>
        Sb (sto 8 v5 v18 h7) fun h8 =>
        Vb (lda 9 v4 h8) fun r0 =>
        Vb (lda 8 v5 h8) fun r1 =>
        R (.tuple #[r0, r1]) h8) (
        Vb (fa 0 g3) fun v19 =>
        Vb (fa 0 v19) fun v20 =>
        Vb (ldc v20 h5) fun v21 =>
        Vb (bin .add v21 (Value.int IntKind.i64 1)) fun v22 =>
        Vb (bldS [(0, 1), (1, 1), (2, 1)] #[Value.int IntKind.i64 0, Value.int IntKind.u32 0, Value.int IntKind.u32 0] [(0, v22)]) fun v23 =>
        Vb (fa 6 c2) fun v24 =>
        Sb (sto 1 v24 (Value.bool true) h5) fun h9 =>
        ldc v20 h9 = some v21 ∧
        Vb (fa 8 c2) fun v25 =>
        Sb (sto 1 v25 (.func (.func I.f_era_code_raise) #[] #[]) h9) fun h10 =>
        ldc v20 h10 = some v21 ∧
        Vb (fa 2 c2) fun v26 =>
        Sb (sto 3 v26 v23 h10) fun h11 =>
        Vb (lda 9 c2 h11) fun v27 =>
        Vb (fa 0 c2) fun v28 =>
        Vb (ldc v28 h11) fun v29 =>
        Vb (fa 0 g3) fun v30 =>
        Vb (lda 3 v30 h11) fun v31 =>
        Vb (fa 2 c2) fun v32 =>
        Vb (lda 3 v32 h11) fun v33 =>
        Vb (bldS [(0, 1), (1, 1), (2, 3), (5, 3)] #[Value.int IntKind.i64 0, Value.int IntKind.i64 0, Value.int IntKind.i64 0, Value.int IntKind.u32 0, Value.int IntKind.u32 0, Value.int IntKind.i64 0, Value.int IntKind.u32 0, Value.int IntKind.u32 0] [(0, (Value.int IntKind.i64 6)), (1, v29), (2, v31), (3, v33)]) fun v34 =>
        Sb (sto 9 v4 v27 h11) fun h12 =>
        lda 3 v32 h12 = some v33 ∧
        lda 3 v30 h12 = some v31 ∧
        ldc v28 h12 = some v29 ∧
        Sb (sto 8 v5 v34 h12) fun h13 =>
        Vb (lda 9 v4 h13) fun r0 =>
        Vb (lda 8 v5 h13) fun r1 =>
        R (.tuple #[r0, r1]) h13)) fun J0 =>
  Vb (fa 6 c2) fun v6 =>
  Vb (ldc v6 h4) fun v7 =>
  Br v7 (
    Vb (fa 3 g3) fun v9 =>
    Vb (ldc v9 h4) fun v10 =>
    J0 v10 h4) (
    J0 (Value.bool false) h4)

def F_slices_IndexFunc_reclaim_Item_reclaim_Item (S : Sys) (I : Ids) (s0 f1 : Value) (h : Hp) (R : Value → Hp → Prop) : Prop :=
  Vb (lnS s0) fun v7 =>
  Lp1 (Value.int IntKind.i64 0) h fun v8 h1 again0 =>
  Vb (bin .lss v8 v7) fun v9 =>
  Br v9 (
    Vb (ixs 3 s0 v8) fun v14 =>
    Vb (lda 3 v14 h1) fun v15 =>
    Cw S.C S.Y I.mt f1 [v15] h1 fun v16 h2 =>
    Br v16 (
      R v8 h2) (
      Vb (bin .add v8 (Value.int IntKind.i64 1)) fun v18 =>
      again0 v18 h2)) (
    R (Value.int IntKind.i64 (-1)) h1)

def F_era_code_done (S : Sys) (I : Ids) (c0 time1 : Value) (h : Hp) (R : Value → Hp → Prop) : Prop :=
  Eb (nw (Value.cells c0) I.t_era_code h) fun c2 h1 =>
  Eb (nw #[Value.int IntKind.i64 0, Value.int IntKind.i64 0, Value.int IntKind.i64 0, Value.int IntKind.u32 0, Value.int IntKind.u32 0, Value.int IntKind.i64 0, Value.bool false, Value.bool false, Value.nilFunc] I.t_era_code h1) fun v4 h2 =>
  Eb (nw #[Value.int IntKind.i64 0, Value.int IntKind.i64 0, Value.int IntKind.i64 0, Value.int IntKind.u32 0, Value.int IntKind.u32 0, Value.int IntKind.i64 0, Value.int IntKind.u32 0, Value.int IntKind.u32 0] I.t_api_Act h2) fun v5 h3 =>
  Vb (fa 7 c2) fun v7 =>
  Sb (sto 1 v7 (Value.bool true) h3) fun h4 =>
  Vb (fa 5 c2) fun v8 =>
  Sb (sto 1 v8 time1 h4) fun h5 =>
  Vb (lda 9 c2 h5) fun v9 =>
  Vb (bldS [(0, 1), (1, 1), (2, 3), (5, 3)] #[Value.int IntKind.i64 0, Value.int IntKind.i64 0, Value.int IntKind.i64 0, Value.int IntKind.u32 0, Value.int IntKind.u32 0, Value.int IntKind.i64 0, Value.int IntKind.u32 0, Value.int IntKind.u32 0] []) fun v10 =>
  Sb (sto 9 v4 v9 h5) fun h6 =>
  Sb (sto 8 v5 v10 h6) fun h7 =>
  Vb (lda 9 v4 h7) fun r0 =>
  Vb (lda 8 v5 h7) fun r1 =>
  R (.tuple #[r0, r1]) h7

def F_simulcasttop_epochReader_Next (S : Sys) (I : Ids) (r0 g1 : Value) (h : Hp) (R : Value → Hp → Prop) : Prop :=
  Eb (nw (Value.cells r0) I.t_simulcasttop_epochReader h) fun r2 h1 =>
  Eb (nw (Value.cells g1) I.t_api_Got h1) fun g3 h2 =>
  Eb (nw #[Value.int IntKind.i64 0, Value.int IntKind.i64 0, Value.int IntKind.i64 0, Value.int IntKind.u32 0, Value.int IntKind.u32 0, Value.int IntKind.i64 0, Value.int IntKind.u32 0, Value.int IntKind.u32 0] I.t_api_Act h2) fun v5 h3 =>
  Jn0 (fun h4 =>
      Jn0 (fun h5 =>
          Vb (fa 6 r2) fun v111 =>
          Vb (ldc v111 h5) fun v112 =>
          Vb (bin .gtr v112 (Value.int IntKind.i64 0)) fun v113 =>
          Br v113 (
            Vb (fa 6 r2) fun v114 =>
            Vb (ldc v114 h5) fun v115 =>
            Vb (bin .sub v115 (Value.int IntKind.i64 1)) fun v116 =>
            Vb (fa 6 r2) fun v117 =>
            Sb (sto 1 v117 v116 h5) fun h6 =>
            Vb (lda 11 r2 h6) fun v118 =>
            Vb (some (.iface I.t_simulcasttop_epochReader v118)) fun v119 =>
            Vb (bldS [(0, 1), (1, 1), (2, 3), (5, 3)] #[Value.int IntKind.i64 0, Value.int IntKind.i64 0, Value.int IntKind.i64 0, Value.int IntKind.u32 0, Value.int IntKind.u32 0, Value.int IntKind.i64 0, Value.int IntKind.u32 0, Value.int IntKind.u32 0] []) fun v120 =>
            Sb (sto 8 v5 v120 h6) fun h7 =>
            Vb (lda 8 v5 h7) fun r1 =>
            R (.tuple #[v119, r1, (Value.bool false)]) h7) (
            Vb (fa 10 r2) fun v121 =>
            Sb (sto 1 v121 (Value.int IntKind.i64 0) h5) fun h8 =>
            Vb (fa 5 r2) fun v122 =>
            Sb (sto 1 v122 (Value.int IntKind.i64 4) h8) fun h9 =>
            Vb (lda 11 r2 h9) fun v123 =>
            Vb (fa 0 r2) fun v124 =>
            Vb (lda 3 v124 h9) fun v125 =>
            Vb (fa 3 r2) fun v126 =>
            Vb (ldc v126 h9) fun v127 =>
            S.C I.f_era_Leave [v125, v127] h9 fun v128 h10 =>
            lda 11 r2 h10 = some v123 ∧
            Vb (ext 0 v128) fun v129 =>
            Vb (ext 1 v128) fun v130 =>
            S.C I.f_simulcasttop_epochReader_run [v123, v129, v130] h10 fun v131 h11 =>
            Vb (ext 0 v131) fun v132 =>
            Vb (ext 1 v131) fun v133 =>
            Vb (ext 2 v131) fun v134 =>
            Sb (sto 8 v5 v133 h11) fun h12 =>
            Vb (lda 8 v5 h12) fun r1 =>
            R (.tuple #[v132, r1, v134]) h12)) fun J1 =>
      Vb (fa 5 r2) fun v50 =>
      Vb (ldc v50 h4) fun v51 =>
      Vb (bin .eql v51 (Value.int IntKind.i64 0)) fun v53 =>
      Br v53 (
        Vb (fa 4 r2) fun v54 =>
        Vb (ldc v54 h4) fun v55 =>
        Vb (bin .leq v55 (Value.int IntKind.i64 0)) fun v56 =>
        Br v56 (
          Vb (lda 11 r2 h4) fun v57 =>
          Vb (some (.iface I.t_simulcasttop_epochReader v57)) fun v58 =>
          Vb (bldS [(0, 1), (1, 1), (2, 3), (5, 3)] #[Value.int IntKind.i64 0, Value.int IntKind.i64 0, Value.int IntKind.i64 0, Value.int IntKind.u32 0, Value.int IntKind.u32 0, Value.int IntKind.i64 0, Value.int IntKind.u32 0, Value.int IntKind.u32 0] []) fun v59 =>
          Sb (sto 8 v5 v59 h4) fun h13 =>
          Vb (lda 8 v5 h13) fun r1 =>
          R (.tuple #[v58, r1, (Value.bool true)]) h13) (
          Vb (lda 11 r2 h4) fun v60 =>
          Vb (fa 0 r2) fun v61 =>
          Vb (lda 3 v61 h4) fun v62 =>
          Vb (fa 3 r2) fun v63 =>
          Vb (ldc v63 h4) fun v64 =>
          S.C I.f_era_Enter [v62, v64] h4 fun v65 h14 =>
          lda 11 r2 h14 = some v60 ∧
          Vb (ext 0 v65) fun v66 =>
          Vb (ext 1 v65) fun v67 =>
          S.C I.f_simulcasttop_epochReader_run [v60, v66, v67] h14 fun v68 h15 =>
          Vb (ext 0 v68) fun v69 =>
          Vb (ext 1 v68) fun v70 =>
          Vb (ext 2 v68) fun v71 =>
          Sb (sto 8 v5 v70 h15) fun h16 =>
          Vb (lda 8 v5 h16) fun r1 =>
          R (.tuple #[v69, r1, v71]) h16)) (
        Vb (bin .eql v51 (Value.int IntKind.i64 1)) fun v73 =>
        Br v73 (
          Vb (fa 0 g3) fun v74 =>
          Vb (fa 0 v74) fun v75 =>
          Vb (ldc v75 h4) fun v76 =>
          Vb (fa 9 r2) fun v77 =>
          Sb (sto 1 v77 v76 h4) fun h17 =>
          Vb (fa 5 r2) fun v78 =>
          Sb (sto 1 v78 (Value.int IntKind.i64 2) h17) fun h18 =>
          Vb (lda 11 r2 h18) fun v79 =>
          Vb (some (.iface I.t_simulcasttop_epochReader v79)) fun v80 =>
          Vb (fa 0 r2) fun v81 =>
          Vb (lda 3 v81 h18) fun v82 =>
          S.C I.f_layout_Layout_Era [v82] h18 fun v83 h19 =>
          lda 11 r2 h19 = some v79 ∧
          Vb (bldS [(0, 1), (1, 1), (2, 3), (5, 3)] #[Value.int IntKind.i64 0, Value.int IntKind.i64 0, Value.int IntKind.i64 0, Value.int IntKind.u32 0, Value.int IntKind.u32 0, Value.int IntKind.i64 0, Value.int IntKind.u32 0, Value.int IntKind.u32 0] [(0, (Value.int IntKind.i64 5)), (1, v83)]) fun v84 =>
          Sb (sto 8 v5 v84 h19) fun h20 =>
          Vb (lda 8 v5 h20) fun r1 =>
          R (.tuple #[v80, r1, (Value.bool false)]) h20) (
          Vb (bin .eql v51 (Value.int IntKind.i64 2)) fun v86 =>
          Br v86 (
            Vb (fa 0 g3) fun v87 =>
            Vb (fa 0 v87) fun v88 =>
            Vb (ldc v88 h4) fun v89 =>
            Vb (fa 8 r2) fun v90 =>
            Vb (ldc v90 h4) fun v91 =>
            Vb (bin .neq v89 v91) fun v92 =>
            Br v92 (
              Vb (fa 5 r2) fun v93 =>
              Sb (sto 1 v93 (Value.int IntKind.i64 0) h4) fun h21 =>
              Vb (lda 11 r2 h21) fun v94 =>
              Vb (fa 0 r2) fun v95 =>
              Vb (lda 3 v95 h21) fun v96 =>
              Vb (fa 3 r2) fun v97 =>
              Vb (ldc v97 h21) fun v98 =>
              S.C I.f_era_Enter [v96, v98] h21 fun v99 h22 =>
              lda 11 r2 h22 = some v94 ∧
              Vb (ext 0 v99) fun v100 =>
              Vb (ext 1 v99) fun v101 =>
              S.C I.f_simulcasttop_epochReader_run [v94, v100, v101] h22 fun v102 h23 =>
              Vb (ext 0 v102) fun v103 =>
              Vb (ext 1 v102) fun v104 =>
              Vb (ext 2 v102) fun v105 =>
              Sb (sto 8 v5 v104 h23) fun h24 =>
              Vb (lda 8 v5 h24) fun r1 =>
              R (.tuple #[v103, r1, v105]) h24) (
              Vb (fa 9 r2) fun v106 =>
              Vb (ldc v106 h4) fun v107 =>
              Vb (fa 10 r2) fun v108 =>
              Sb (sto 1 v108 v107 h4) fun h25 =>
              Vb (fa 6 r2) fun v109 =>
              Sb (sto 1 v109 (Value.int IntKind.i64 3) h25) fun h26 =>
              Vb (fa 5 r2) fun v110 =>
              Sb (sto 1 v110 (Value.int IntKind.i64 3) h26) fun h27 =>
              J1 h27)) (
            J1 h4)))) fun J0 =>
  Vb (fa 7 r2) fun v10 =>
  Vb (ldc v10 h3) fun v11 =>
  Vb (inl .neq v11) fun v12 =>
  Br v12 (
    Vb (fa 7 r2) fun v14 =>
    Vb (ldc v14 h3) fun v15 =>
    Vb (lda 4 g3 h3) fun v16 =>
    Ci S.C I.mt "Next" v15 [v16] h3 fun v17 h28 =>
    Vb (ext 0 v17) fun v18 =>
    Vb (ext 1 v17) fun v19 =>
    Vb (ext 2 v17) fun v20 =>
    Eb (nw #[Value.int IntKind.i64 0, Value.int IntKind.i64 0, Value.int IntKind.i64 0, Value.int IntKind.u32 0, Value.int IntKind.u32 0, Value.int IntKind.i64 0, Value.int IntKind.u32 0, Value.int IntKind.u32 0] I.t_api_Act h28) fun a8 h29 =>
    Sb (sto 8 a8 v19 h29) fun h30 =>
    Vb (fa 7 r2) fun v22 =>
    Sb (sto 1 v22 v18 h30) fun h31 =>
    Vb (uno .not v20) fun v24 =>
    Br v24 (
      Vb (lda 11 r2 h31) fun v25 =>
      Vb (some (.iface I.t_simulcasttop_epochReader v25)) fun v26 =>
      Vb (lda 8 a8 h31) fun v27 =>
      Sb (sto 8 v5 v27 h31) fun h32 =>
      Vb (lda 8 v5 h32) fun r1 =>
      R (.tuple #[v26, r1, (Value.bool false)]) h32) (
      S.C I.f_era_Era [v18] h31 fun v30 h33 =>
      Vb (ext 0 v30) fun v31 =>
      Vb (ext 1 v30) fun v32 =>
      Vb (fa 8 r2) fun v33 =>
      Sb (sto 1 v33 v31 h33) fun h34 =>
      Vb (fa 7 r2) fun v34 =>
      Sb (sto 1 v34 (Value.nilIface) h34) fun h35 =>
      Vb (fa 5 r2) fun v35 =>
      Vb (ldc v35 h35) fun v36 =>
      Vb (bin .eql v36 (Value.int IntKind.i64 0)) fun v37 =>
      Br v37 (
        Vb (fa 5 r2) fun v38 =>
        Sb (sto 1 v38 (Value.int IntKind.i64 1) h35) fun h36 =>
        Vb (lda 11 r2 h36) fun v39 =>
        Vb (some (.iface I.t_simulcasttop_epochReader v39)) fun v40 =>
        Vb (fa 0 r2) fun v41 =>
        Vb (lda 3 v41 h36) fun v42 =>
        S.C I.f_layout_Layout_Cell [v42, (Value.int IntKind.i64 0)] h36 fun v43 h37 =>
        lda 11 r2 h37 = some v39 ∧
        Vb (bldS [(0, 1), (1, 1), (2, 3), (5, 3)] #[Value.int IntKind.i64 0, Value.int IntKind.i64 0, Value.int IntKind.i64 0, Value.int IntKind.u32 0, Value.int IntKind.u32 0, Value.int IntKind.i64 0, Value.int IntKind.u32 0, Value.int IntKind.u32 0] [(0, (Value.int IntKind.i64 5)), (1, v43)]) fun v44 =>
        Sb (sto 8 v5 v44 h37) fun h38 =>
        Vb (lda 8 v5 h38) fun r1 =>
        R (.tuple #[v40, r1, (Value.bool false)]) h38) (
        Vb (fa 5 r2) fun v45 =>
        Sb (sto 1 v45 (Value.int IntKind.i64 0) h35) fun h39 =>
        Vb (fa 4 r2) fun v46 =>
        Vb (ldc v46 h39) fun v47 =>
        Vb (bin .sub v47 (Value.int IntKind.i64 1)) fun v48 =>
        Vb (fa 4 r2) fun v49 =>
        Sb (sto 1 v49 v48 h39) fun h40 =>
        J0 h40))) (
    J0 h3)

def F_era_Era (S : Sys) (I : Ids) (c0 : Value) (h : Hp) (R : Value → Hp → Prop) : Prop :=
  Vb (tas I.t_era_code (Value.agg #[Value.int IntKind.i64 0, Value.int IntKind.i64 0, Value.int IntKind.i64 0, Value.int IntKind.u32 0, Value.int IntKind.u32 0, Value.int IntKind.i64 0, Value.bool false, Value.bool false, Value.nilFunc]) true c0) fun v8 =>
  Vb (ext 0 v8) fun v9 =>
  Vb (ext 1 v8) fun v10 =>
  Eb (nw #[Value.int IntKind.i64 0, Value.int IntKind.i64 0, Value.int IntKind.i64 0, Value.int IntKind.u32 0, Value.int IntKind.u32 0, Value.int IntKind.i64 0, Value.bool false, Value.bool false, Value.nilFunc] I.t_era_code h) fun x4 h1 =>
  Sb (sto 9 x4 v9 h1) fun h2 =>
  Jn1 (fun v17 h3 =>
      Br v17 (
        R (.tuple #[(Value.int IntKind.i64 0), (Value.bool false)]) h3) (
        Vb (fa 5 x4) fun v18 =>
        Vb (ldc v18 h3) fun v19 =>
        R (.tuple #[v19, (Value.bool true)]) h3)) fun J0 =>
  Vb (uno .not v10) fun v12 =>
  Br v12 (
    J0 (Value.bool true) h2) (
    Vb (fa 7 x4) fun v14 =>
    Vb (ldc v14 h2) fun v15 =>
    Vb (uno .not v15) fun v16 =>
    J0 v16 h2)

def F_simulcasttop_epochReader_run (S : Sys) (I : Ids) (r0 c1 e2 : Value) (h : Hp) (R : Value → Hp → Prop) : Prop :=
  Eb (nw (Value.cells r0) I.t_simulcasttop_epochReader h) fun r3 h1 =>
  Eb (nw #[Value.int IntKind.i64 0, Value.int IntKind.i64 0, Value.int IntKind.i64 0, Value.int IntKind.u32 0, Value.int IntKind.u32 0, Value.int IntKind.i64 0, Value.int IntKind.u32 0, Value.int IntKind.u32 0] I.t_api_Act h1) fun v7 h2 =>
  Vb (bin .neq e2 (Value.int IntKind.i64 0)) fun v13 =>
  Br v13 (
    Vb (lda 11 r3 h2) fun v14 =>
    Vb (some (.iface I.t_simulcasttop_epochReader v14)) fun v15 =>
    Vb (bldS [(0, 1), (1, 1), (2, 3), (5, 3)] #[Value.int IntKind.i64 0, Value.int IntKind.i64 0, Value.int IntKind.i64 0, Value.int IntKind.u32 0, Value.int IntKind.u32 0, Value.int IntKind.i64 0, Value.int IntKind.u32 0, Value.int IntKind.u32 0] []) fun v16 =>
    Sb (sto 8 v7 v16 h2) fun h3 =>
    Vb (lda 8 v7 h3) fun r1 =>
    R (.tuple #[v15, r1, (Value.bool true)]) h3) (
    Vb (bldS [(0, 3), (3, 1)] #[Value.int IntKind.i64 0, Value.int IntKind.u32 0, Value.int IntKind.u32 0, Value.bool false] []) fun v19 =>
    Ci S.C I.mt "Next" c1 [v19] h2 fun v20 h4 =>
    Vb (ext 0 v20) fun v21 =>
    Vb (ext 1 v20) fun v22 =>
    Vb (ext 2 v20) fun v23 =>
    Eb (nw #[Value.int IntKind.i64 0, Value.int IntKind.i64 0, Value.int IntKind.i64 0, Value.int IntKind.u32 0, Value.int IntKind.u32 0, Value.int IntKind.i64 0, Value.int IntKind.u32 0, Value.int IntKind.u32 0] I.t_api_Act h4) fun a10 h5 =>
    Sb (sto 8 a10 v22 h5) fun h6 =>
    Vb (fa 7 r3) fun v25 =>
    Sb (sto 1 v25 v21 h6) fun h7 =>
    Vb (lda 11 r3 h7) fun v26 =>
    Vb (some (.iface I.t_simulcasttop_epochReader v26)) fun v27 =>
    Vb (lda 8 a10 h7) fun v28 =>
    Sb (sto 8 v7 v28 h7) fun h8 =>
    Vb (lda 8 v7 h8) fun r1 =>
    R (.tuple #[v27, r1, v23]) h8)

def F_era_Enter (S : Sys) (I : Ids) (l0 t1 : Value) (h : Hp) (R : Value → Hp → Prop) : Prop :=
  Eb (nw (Value.cells l0) I.t_layout_Layout h) fun l2 h1 =>
  Vb (lda 3 l2 h1) fun v7 =>
  S.C I.f_era_check [v7, t1] h1 fun v9 h2 =>
  Vb (bin .neq v9 (Value.int IntKind.i64 0)) fun v11 =>
  Br v11 (
    R (.tuple #[(Value.nilIface), v9]) h2) (
    Vb (lda 3 l2 h2) fun v13 =>
    S.C I.f_era_made [v13, t1, (.func (.func I.f_era_Enter_1) #[] #[])] h2 fun v15 h3 =>
    Vb (ext 0 v15) fun v16 =>
    Vb (ext 1 v15) fun v17 =>
    R (.tuple #[v16, v17]) h3)

def F_era_Leave (S : Sys) (I : Ids) (l0 t1 : Value) (h : Hp) (R : Value → Hp → Prop) : Prop :=
  Eb (nw (Value.cells l0) I.t_layout_Layout h) fun l2 h1 =>
  Vb (lda 3 l2 h1) fun v7 =>
  S.C I.f_era_check [v7, t1] h1 fun v9 h2 =>
  Vb (bin .neq v9 (Value.int IntKind.i64 0)) fun v11 =>
  Br v11 (
    R (.tuple #[(Value.nilIface), v9]) h2) (
    Vb (lda 3 l2 h2) fun v13 =>
    S.C I.f_era_made [v13, t1, (.func (.func I.f_era_Leave_1) #[] #[])] h2 fun v15 h3 =>
    Vb (ext 0 v15) fun v16 =>
    Vb (ext 1 v15) fun v17 =>
    R (.tuple #[v16, v17]) h3)

def F_era_check (S : Sys) (I : Ids) (l0 t1 : Value) (h : Hp) (R : Value → Hp → Prop) : Prop :=
  Eb (nw (Value.cells l0) I.t_layout_Layout h) fun l2 h1 =>
  Vb (lda 3 l2 h1) fun v6 =>
  S.C I.f_layout_Layout_Check [v6] h1 fun v7 h2 =>
  Vb (bin .neq v7 (Value.int IntKind.i64 0)) fun v8 =>
  Br v8 (
    R (Value.int IntKind.i64 1) h2) (
    Jn1 (fun v9 h3 =>
        Br v9 (
          R (Value.int IntKind.i64 3) h3) (
          R (Value.int IntKind.i64 0) h3)) fun J0 =>
    Vb (bin .lss t1 (Value.int IntKind.i64 1)) fun v11 =>
    Br v11 (
      J0 (Value.bool true) h2) (
      Vb (fa 0 l2) fun v14 =>
      Vb (ldc v14 h2) fun v15 =>
      Vb (bin .gtr t1 v15) fun v16 =>
      J0 v16 h2))

def F_era_Enter_1 (S : Sys) (I : Ids) (c0 v1 : Value) (h : Hp) (R : Value → Hp → Prop) : Prop :=
  Eb (nw (Value.cells c0) I.t_era_code h) fun c2 h1 =>
  Eb (nw (Value.cells v1) I.t_api_Got h1) fun v3 h2 =>
  Eb (nw #[Value.int IntKind.i64 0, Value.int IntKind.i64 0, Value.int IntKind.i64 0, Value.int IntKind.u32 0, Value.int IntKind.u32 0, Value.int IntKind.i64 0, Value.bool false, Value.bool false, Value.nilFunc] I.t_era_code h2) fun v4 h3 =>
  Eb (nw #[Value.int IntKind.i64 0, Value.int IntKind.i64 0, Value.int IntKind.i64 0, Value.int IntKind.u32 0, Value.int IntKind.u32 0, Value.int IntKind.i64 0, Value.int IntKind.u32 0, Value.int IntKind.u32 0] I.t_api_Act h3) fun v5 h4 =>
  Vb (lda 9 c2 h4) fun v6 =>
  S.C I.f_era_code_look [v6, (.func (.func I.f_era_code_announce) #[] #[])] h4 fun v7 h5 =>
  Vb (ext 0 v7) fun v8 =>
  Vb (ext 1 v7) fun v9 =>
  Sb (sto 9 v4 v8 h5) fun h6 =>
  Sb (sto 8 v5 v9 h6) fun h7 =>
  Vb (lda 9 v4 h7) fun r0 =>
  Vb (lda 8 v5 h7) fun r1 =>
  R (.tuple #[r0, r1]) h7

def F_era_code_announce (S : Sys) (I : Ids) (c0 g1 : Value) (h : Hp) (R : Value → Hp → Prop) : Prop :=
  Eb (nw (Value.cells c0) I.t_era_code h) fun c2 h1 =>
  Eb (nw (Value.cells g1) I.t_api_Got h1) fun g3 h2 =>
  Eb (nw #[Value.int IntKind.i64 0, Value.int IntKind.i64 0, Value.int IntKind.i64 0, Value.int IntKind.u32 0, Value.int IntKind.u32 0, Value.int IntKind.i64 0, Value.bool false, Value.bool false, Value.nilFunc] I.t_era_code h2) fun v4 h3 =>
  Eb (nw #[Value.int IntKind.i64 0, Value.int IntKind.i64 0, Value.int IntKind.i64 0, Value.int IntKind.u32 0, Value.int IntKind.u32 0, Value.int IntKind.i64 0, Value.int IntKind.u32 0, Value.int IntKind.u32 0] I.t_api_Act h3) fun v5 h4 =>
  Vb (fa 0 g3) fun v6 =>
  Vb (fa 0 v6) fun v7 =>
  Vb (ldc v7 h4) fun v8 =>
  Vb (bldS [(0, 1), (1, 1), (2, 1)] #[Value.int IntKind.i64 0, Value.int IntKind.u32 0, Value.int IntKind.u32 0] [(0, v8)]) fun v9 =>
  Vb (fa 2 c2) fun v10 =>
  Sb (sto 3 v10 v9 h4) fun h5 =>
  Vb (fa 8 c2) fun v11 =>
  Sb (sto 1 v11 (.func (.func I.f_era_code_announce_1) #[] #[]) h5) fun h6 =>
  Vb (lda 9 c2 h6) fun v12 =>
  Vb (fa 1 c2) fun v13 =>
  Vb (ldc v13 h6) fun v14 =>
  Vb (fa 2 c2) fun v15 =>
  Vb (lda 3 v15 h6) fun v16 =>
  Vb (bldS [(0, 1), (1, 1), (2, 3), (5, 3)] #[Value.int IntKind.i64 0, Value.int IntKind.i64 0, Value.int IntKind.i64 0, Value.int IntKind.u32 0, Value.int IntKind.u32 0, Value.int IntKind.i64 0, Value.int IntKind.u32 0, Value.int IntKind.u32 0] [(0, (Value.int IntKind.i64 4)), (1, v14), (3, v16)]) fun v17 =>
  Sb (sto 9 v4 v12 h6) fun h7 =>
  lda 3 v15 h7 = some v16 ∧
  ldc v13 h7 = some v14 ∧
  Sb (sto 8 v5 v17 h7) fun h8 =>
  Vb (lda 9 v4 h8) fun r0 =>
  Vb (lda 8 v5 h8) fun r1 =>
  R (.tuple #[r0, r1]) h8

def F_era_Leave_1 (S : Sys) (I : Ids) (c0 v1 : Value) (h : Hp) (R : Value → Hp → Prop) : Prop :=
  Eb (nw (Value.cells c0) I.t_era_code h) fun c2 h1 =>
  Eb (nw (Value.cells v1) I.t_api_Got h1) fun v3 h2 =>
  Eb (nw #[Value.int IntKind.i64 0, Value.int IntKind.i64 0, Value.int IntKind.i64 0, Value.int IntKind.u32 0, Value.int IntKind.u32 0, Value.int IntKind.i64 0, Value.bool false, Value.bool false, Value.nilFunc] I.t_era_code h2) fun v4 h3 =>
  Eb (nw #[Value.int IntKind.i64 0, Value.int IntKind.i64 0, Value.int IntKind.i64 0, Value.int IntKind.u32 0, Value.int IntKind.u32 0, Value.int IntKind.i64 0, Value.int IntKind.u32 0, Value.int IntKind.u32 0] I.t_api_Act h3) fun v5 h4 =>
  Vb (fa 8 c2) fun v6 =>
  Sb (sto 1 v6 (.func (.func I.f_era_Leave_1_1) #[] #[]) h4) fun h5 =>
  Vb (lda 9 c2 h5) fun v7 =>
  Vb (fa 1 c2) fun v8 =>
  Vb (ldc v8 h5) fun v9 =>
  Vb (bldS [(0, 1), (1, 1), (2, 3), (5, 3)] #[Value.int IntKind.i64 0, Value.int IntKind.i64 0, Value.int IntKind.i64 0, Value.int IntKind.u32 0, Value.int IntKind.u32 0, Value.int IntKind.i64 0, Value.int IntKind.u32 0, Value.int IntKind.u32 0] [(0, (Value.int IntKind.i64 4)), (1, v9)]) fun v10 =>
  Sb (sto 9 v4 v7 h5) fun h6 =>
  ldc v8 h6 = some v9 ∧
  Sb (sto 8 v5 v10 h6) fun h7 =>
  Vb (lda 9 v4 h7) fun r0 =>
  Vb (lda 8 v5 h7) fun r1 =>
  R (.tuple #[r0, r1]) h7

def F_era_Leave_1_1 (S : Sys) (I : Ids) (c0 v1 : Value) (h : Hp) (R : Value → Hp → Prop) : Prop :=
  Eb (nw (Value.cells c0) I.t_era_code h) fun c2 h1 =>
  Eb (nw (Value.cells v1) I.t_api_Got h1) fun v3 h2 =>
  Eb (nw #[Value.int IntKind.i64 0, Value.int IntKind.i64 0, Value.int IntKind.i64 0, Value.int IntKind.u32 0, Value.int IntKind.u32 0, Value.int IntKind.i64 0, Value.bool false, Value.bool false, Value.nilFunc] I.t_era_code h2) fun v4 h3 =>
  Eb (nw #[Value.int IntKind.i64 0, Value.int IntKind.i64 0, Value.int IntKind.i64 0, Value.int IntKind.u32 0, Value.int IntKind.u32 0, Value.int IntKind.i64 0, Value.int IntKind.u32 0, Value.int IntKind.u32 0] I.t_api_Act h3) fun v5 h4 =>
  Vb (lda 9 c2 h4) fun v6 =>
  S.C I.f_era_code_done [v6, (Value.int IntKind.i64 0)] h4 fun v7 h5 =>
  Vb (ext 0 v7) fun v8 =>
  Vb (ext 1 v7) fun v9 =>
  Sb (sto 9 v4 v8 h5) fun h6 =>
  Sb (sto 8 v5 v9 h6) fun h7 =>
  Vb (lda 9 v4 h7) fun r0 =>
  Vb (lda 8 v5 h7) fun r1 =>
  R (.tuple #[r0, r1]) h7

def F_era_code_announce_1 (S : Sys) (I : Ids) (c0 v1 : Value) (h : Hp) (R : Value → Hp → Prop) : Prop :=
  Eb (nw (Value.cells c0) I.t_era_code h) fun c2 h1 =>
  Eb (nw (Value.cells v1) I.t_api_Got h1) fun v3 h2 =>
  Eb (nw #[Value.int IntKind.i64 0, Value.int IntKind.i64 0, Value.int IntKind.i64 0, Value.int IntKind.u32 0, Value.int IntKind.u32 0, Value.int IntKind.i64 0, Value.bool false, Value.bool false, Value.nilFunc] I.t_era_code h2) fun v4 h3 =>
  Eb (nw #[Value.int IntKind.i64 0, Value.int IntKind.i64 0, Value.int IntKind.i64 0, Value.int IntKind.u32 0, Value.int IntKind.u32 0, Value.int IntKind.i64 0, Value.int IntKind.u32 0, Value.int IntKind.u32 0] I.t_api_Act h3) fun v5 h4 =>
  Vb (lda 9 c2 h4) fun v6 =>
  S.C I.f_era_code_look [v6, (.func (.func I.f_era_code_compare) #[] #[])] h4 fun v7 h5 =>
  Vb (ext 0 v7) fun v8 =>
  Vb (ext 1 v7) fun v9 =>
  Sb (sto 9 v4 v8 h5) fun h6 =>
  Sb (sto 8 v5 v9 h6) fun h7 =>
  Vb (lda 9 v4 h7) fun r0 =>
  Vb (lda 8 v5 h7) fun r1 =>
  R (.tuple #[r0, r1]) h7

def F_era_code_compare (S : Sys) (I : Ids) (c0 g1 : Value) (h : Hp) (R : Value → Hp → Prop) : Prop :=
  Eb (nw (Value.cells c0) I.t_era_code h) fun c2 h1 =>
  Eb (nw (Value.cells g1) I.t_api_Got h1) fun g3 h2 =>
  Eb (nw #[Value.int IntKind.i64 0, Value.int IntKind.i64 0, Value.int IntKind.i64 0, Value.int IntKind.u32 0, Value.int IntKind.u32 0, Value.int IntKind.i64 0, Value.bool false, Value.bool false, Value.nilFunc] I.t_era_code h2) fun v4 h3 =>
  Eb (nw #[Value.int IntKind.i64 0, Value.int IntKind.i64 0, Value.int IntKind.i64 0, Value.int IntKind.u32 0, Value.int IntKind.u32 0, Value.int IntKind.i64 0, Value.int IntKind.u32 0, Value.int IntKind.u32 0] I.t_api_Act h3) fun v5 h4 =>
  Vb (fa 0 g3) fun v6 =>
  Vb (fa 0 v6) fun v7 =>
  Vb (ldc v7 h4) fun v8 =>
  Vb (fa 2 c2) fun v9 =>
  Vb (fa 0 v9) fun v10 =>
  Vb (ldc v10 h4) fun v11 =>
  Vb (bin .eql v8 v11) fun v12 =>
  Br v12 (
    Vb (lda 9 c2 h4) fun v13 =>
    Vb (fa 2 c2) fun v14 =>
    Vb (fa 0 v14) fun v15 =>
    Vb (ldc v15 h4) fun v16 =>
    S.C I.f_era_code_done [v13, v16] h4 fun v17 h5 =>
    Vb (ext 0 v17) fun v18 =>
    Vb (ext 1 v17) fun v19 =>
    Sb (sto 9 v4 v18 h5) fun h6 =>
    Sb (sto 8 v5 v19 h6) fun h7 =>
    Vb (lda 9 v4 h7) fun r0 =>
    Vb (lda 8 v5 h7) fun r1 =>
    R (.tuple #[r0, r1]) h7) (
    Vb (lda 9 c2 h4) fun v20 =>
    Vb (lda 4 g3 h4) fun v21 =>
    S.C I.f_era_code_announce [v20, v21] h4 fun v22 h8 =>
    Vb (ext 0 v22) fun v23 =>
    Vb (ext 1 v22) fun v24 =>
    Sb (sto 9 v4 v23 h8) fun h9 =>
    Sb (sto 8 v5 v24 h9) fun h10 =>
    Vb (lda 9 v4 h10) fun r0 =>
    Vb (lda 8 v5 h10) fun r1 =>
    R (.tuple #[r0, r1]) h10)

def F_era_code_Next (S : Sys) (I : Ids) (c0 g1 : Value) (h : Hp) (R : Value → Hp → Prop) : Prop :=
  Eb (nw (Value.cells c0) I.t_era_code h) fun c2 h1 =>
  Eb (nw (Value.cells g1) I.t_api_Got h1) fun g3 h2 =>
  Eb (nw #[Value.int IntKind.i64 0, Value.int IntKind.i64 0, Value.int IntKind.i64 0, Value.int IntKind.u32 0, Value.int IntKind.u32 0, Value.int IntKind.i64 0, Value.int IntKind.u32 0, Value.int IntKind.u32 0] I.t_api_Act h2) fun v5 h3 =>
  Vb (fa 7 c2) fun v9 =>
  Vb (ldc v9 h3) fun v10 =>
  Br v10 (
    Vb (lda 9 c2 h3) fun v11 =>
    Vb (some (.iface I.t_era_code v11)) fun v12 =>
    Vb (bldS [(0, 1), (1, 1), (2, 3), (5, 3)] #[Value.int IntKind.i64 0, Value.int IntKind.i64 0, Value.int IntKind.i64 0, Value.int IntKind.u32 0, Value.int IntKind.u32 0, Value.int IntKind.i64 0, Value.int IntKind.u32 0, Value.int IntKind.u32 0] []) fun v13 =>
    Sb (sto 8 v5 v13 h3) fun h4 =>
    Vb (lda 8 v5 h4) fun r1 =>
    R (.tuple #[v12, r1, (Value.bool true)]) h4) (
    Vb (fa 8 c2) fun v15 =>
    Vb (ldc v15 h3) fun v16 =>
    Vb (lda 9 c2 h3) fun v17 =>
    Vb (lda 4 g3 h3) fun v18 =>
    Cw S.C S.Y I.mt v16 [v17, v18] h3 fun v19 h5 =>
    Vb (ext 0 v19) fun v20 =>
    Vb (ext 1 v19) fun v21 =>
    Eb (nw #[Value.int IntKind.i64 0, Value.int IntKind.i64 0, Value.int IntKind.i64 0, Value.int IntKind.u32 0, Value.int IntKind.u32 0, Value.int IntKind.i64 0, Value.bool false, Value.bool false, Value.nilFunc] I.t_era_code h5) fun d7 h6 =>
    Eb (nw #[Value.int IntKind.i64 0, Value.int IntKind.i64 0, Value.int IntKind.i64 0, Value.int IntKind.u32 0, Value.int IntKind.u32 0, Value.int IntKind.i64 0, Value.int IntKind.u32 0, Value.int IntKind.u32 0] I.t_api_Act h6) fun a8 h7 =>
    Sb (sto 9 d7 v20 h7) fun h8 =>
    Sb (sto 8 a8 v21 h8) fun h9 =>
    Vb (lda 9 d7 h9) fun v22 =>
    Vb (some (.iface I.t_era_code v22)) fun v23 =>
    Vb (lda 8 a8 h9) fun v24 =>
    Vb (fa 7 d7) fun v25 =>
    Vb (ldc v25 h9) fun v26 =>
    Sb (sto 8 v5 v24 h9) fun h10 =>
    ldc v25 h10 = some v26 ∧
    Vb (lda 8 v5 h10) fun r1 =>
    R (.tuple #[v23, r1, v26]) h10)

end Go.En
