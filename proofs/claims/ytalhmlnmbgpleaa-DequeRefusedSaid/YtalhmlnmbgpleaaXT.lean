/-
  Clean texts of 106 functions: what each of them does, printed by program out of the translation.
-/
import Derived.Test.YtalhmlnmbgpleaaXB
namespace Go.En
/-- the numbers of functions and types -/
structure Ids where
  f_simulcastlaw32_CounterActs : Nat
  f_simulcastlaw32_CounterSums : Nat
  f_simulcastlaw32_CounterBack : Nat
  f_simulcastlaw32_CounterOwn : Nat
  f_simulcastlaw32_CounterMoves : Nat
  f_simulcastlaw35_DequeActs : Nat
  f_simulcastlaw35_DequeEnds : Nat
  f_simulcastlaw35_DequeOther : Nat
  f_simulcastlaw35_DequeMirror : Nat
  f_simulcastlaw35_DequeRefused : Nat
  f_simulcastlaw32_awake : Nat
  f_simulcastlaw32_words : Nat
  f_simulcastlaw32_Told : Nat
  f_simulcastlaw32_CounterActs_1 : Nat
  f_simulcastlaw32_Act_do : Nat
  f_simulcastref32_Do : Nat
  f_simulcastlaw32_Act_ref : Nat
  f_simulcastlaw32_is : Nat
  f_simulcastlaw32_CounterSums_1 : Nat
  f_model_Model_At : Nat
  f_simulcastlaw32_root : Nat
  f_space_New : Nat
  f_counter_Set : Nat
  f_counter_Get : Nat
  f_counter_Add : Nat
  f_space_Space_Reads : Nat
  f_space_Space_Writes : Nat
  f_counter_Move : Nat
  f_simulcastlaw35_awake : Nat
  f_simulcastlaw35_nodes : Nat
  f_simulcastlaw35_DequeActs_1 : Nat
  f_simulcastlaw35_Act_do : Nat
  f_simulcastlaw35_Act_ref : Nat
  f_simulcastlaw35_is : Nat
  f_simulcastlaw35_whole : Nat
  f_deque_Push : Nat
  f_deque_Pop : Nat
  f_deque_Peek : Nat
  f_deque_Len : Nat
  f_pool_Pool_Left : Nat
  f_simulcastref35_Push : Nat
  f_simulcastref35_Peek : Nat
  f_simulcastref35_Pop : Nat
  f_deque_Walk : Nat
  f_slices_Equal_int64_int64 : Nat
  f_simulcastref35_Walk : Nat
  f_model_Model_Words : Nat
  f_space_Space_Get : Nat
  f_space_Space_Ended : Nat
  f_simulcastlaw32_awake_1 : Nat
  f_model_New : Nat
  f_model_Model_Len : Nat
  f_space_Space_Need : Nat
  f_space_Space_Entries : Nat
  f_model_Model_Swap : Nat
  f_simulcastref32_fits : Nat
  f_space_Space_Put : Nat
  f_counter_fits : Nat
  f_slices_Sort_api_Loc_api_Loc : Nat
  f_slices_Compact_api_Loc_api_Loc : Nat
  f_simulcastlaw35_awake_1 : Nat
  f_deque_undo : Nat
  f_space_Space_Mark : Nat
  f_pool_Pool_Take : Nat
  f_deque_side : Nat
  f_deque_is : Nat
  f_deque_more : Nat
  f_pool_Pool_Give : Nat
  f_pool_Pool_Check : Nat
  f_slices_Clone_api_Word_api_Word : Nat
  f_space_Space_reads : Nat
  f_space_Space_value : Nat
  f_entry_Check : Nat
  f_model_Model_Holds : Nat
  f_slices_pdqsortOrdered_api_Loc : Nat
  f_math_bits_Len : Nat
  f_space_Space_Back : Nat
  f_pool_Pool_Node : Nat
  f_pool_Pool_add : Nat
  f_space_Space_last : Nat
  f_entry_wrong : Nat
  f_slices_ContainsFunc_api_Entry_api_Entry : Nat
  f_entry_Check_1 : Nat
  f_slices_insertionSortOrdered_api_Loc : Nat
  f_slices_heapSortOrdered_api_Loc : Nat
  f_slices_breakPatternsOrdered_api_Loc : Nat
  f_slices_choosePivotOrdered_api_Loc : Nat
  f_slices_reverseRangeOrdered_api_Loc : Nat
  f_slices_partialInsertionSortOrdered_api_Loc : Nat
  f_cmp_Less_api_Loc : Nat
  f_slices_partitionEqualOrdered_api_Loc : Nat
  f_slices_partitionOrdered_api_Loc : Nat
  f_math_bits_Len32 : Nat
  f_math_bits_Len64 : Nat
  f_word_Plain : Nat
  f_slices_IndexFunc_api_Entry_api_Entry : Nat
  f_slices_siftDownOrdered_api_Loc : Nat
  f_slices_nextPowerOfTwo : Nat
  f_slices_xorshift_Next : Nat
  f_slices_medianAdjacentOrdered_api_Loc : Nat
  f_slices_medianOrdered_api_Loc : Nat
  f_cmp_isNaN_api_Loc : Nat
  f_word_kind : Nat
  f_slices_order2Ordered_api_Loc : Nat
  f_word_Who : Nat
  f_word_Ref : Nat
  t_int64 : Nat
  t_int : Nat
  t_4_int64 : Nat
  t_model_Model : Nat
  t_simulcastlaw32_Act : Nat
  t_api_Errno : Nat
  t_simulcastref32_Act : Nat
  t_api_Word : Nat
  t_api_Loc : Nat
  t_pool_Pool : Nat
  t_simulcastlaw35_Act : Nat
  t_2_s_int64 : Nat
  t_space_Space : Nat
  t_space_put : Nat
  t_api_Entry : Nat
  t_slices_xorshift : Nat

def F_simulcastlaw32_CounterActs (S : Sys) (I : Ids) (l0 acts1 : Value) (h : Hp) (R : Value → Hp → Prop) : Prop :=
  Eb (nw (Value.cells l0) I.t_4_int64 h) fun l2 h1 =>
  Vb (lnS acts1) fun v17 =>
  Vb (bin .gtr v17 (Value.int IntKind.i64 60)) fun v18 =>
  Br v18 (
    S.C I.f_simulcastlaw32_awake [] h1 fun v19 h2 =>
    R v19 h2) (
    Jn2 (fun m5 now6 h3 =>
        Vb (lnS acts1) fun v24 =>
        Lp2 now6 (Value.int IntKind.i64 0) h3 fun now6_1 v25 h4 again0 =>
        Vb (bin .lss v25 v24) fun v26 =>
        Br v26 (
          Vb (ixs 4 acts1 v25) fun v27 =>
          Vb (lda 4 v27 h4) fun v28 =>
          Eb (nw #[Value.int IntKind.u8 0, Value.int IntKind.u8 0, Value.int IntKind.u8 0, Value.int IntKind.i64 0] I.t_simulcastlaw32_Act h4) fun x8 h5 =>
          Sb (sto 4 x8 v28 h5) fun h6 =>
          Eb (nw #[Value.int IntKind.i64 0] I.t_int64 h6) fun v9 h7 =>
          Eb (nw #[Value.int IntKind.i64 0] I.t_api_Errno h7) fun e10 h8 =>
          Vb (lda 1 m5 h8) fun v30 =>
          Vb (some (.func (.func I.f_simulcastlaw32_CounterActs_1) #[] #[x8, v9, e10])) fun v31 =>
          S.C I.f_simulcastlaw32_Told [v30, v31] h8 fun v32 h9 =>
          Vb (ext 0 v32) fun v33 =>
          Vb (ext 1 v32) fun v34 =>
          Eb (nw #[Value.slice none 0 0] I.t_model_Model h9) fun next11 h10 =>
          Sb (sto 1 next11 v33 h10) fun h11 =>
          Vb (lda 4 x8 h11) fun v37 =>
          S.C I.f_simulcastlaw32_Act_ref [v37] h11 fun v38 h12 =>
          S.C I.f_simulcastref32_Do [now6_1, v38] h12 fun v39 h13 =>
          Vb (ext 0 v39) fun v40 =>
          Vb (ext 1 v39) fun v41 =>
          Vb (ext 2 v39) fun v42 =>
          Jn1 (fun v60 h14 =>
              Br v60 (
                R (Value.bool false) h14) (
                Vb (lda 1 next11 h14) fun v61 =>
                Sb (sto 1 m5 v61 h14) fun h15 =>
                Vb (bin .add v25 (Value.int IntKind.i64 1)) fun v63 =>
                again0 v40 v63 h15)) fun J1 =>
          Vb (uno .not v34) fun v44 =>
          Br v44 (
            J1 (Value.bool true) h13) (
            Vb (ldc v9 h13) fun v46 =>
            Vb (bin .neq v46 v41) fun v48 =>
            Br v48 (
              J1 (Value.bool true) h13) (
              Vb (ldc e10 h13) fun v51 =>
              Vb (bin .neq v51 v42) fun v53 =>
              Br v53 (
                J1 (Value.bool true) h13) (
                Vb (lda 1 next11 h13) fun v56 =>
                S.C I.f_simulcastlaw32_is [v56, v40] h13 fun v58 h16 =>
                Vb (uno .not v58) fun v59 =>
                J1 v59 h16)))) (
          S.C I.f_simulcastlaw32_awake [] h4 fun v64 h17 =>
          R v64 h17)) fun J0 =>
    Vb (lda 4 l2 h1) fun v20 =>
    Vb (sla 4 1 l2 none none none) fun v22 =>
    And (
      S.C I.f_simulcastlaw32_words [v20] h1 fun v21 h18 =>
      Eb (nw #[Value.slice none 0 0] I.t_model_Model h18) fun m5_1 h19 =>
      Sb (sto 1 m5_1 v21 h19) fun h20 =>
      J0 m5_1 v22 h20) (
      Eb (nw #[Value.slice none 0 0] I.t_model_Model h1) fun m5_2 h21 =>
      lda 4 l2 h21 = some v20 ∧
      S.C I.f_simulcastlaw32_words [v20] h21 fun v21_1 h22 =>
      Sb (sto 1 m5_2 v21_1 h22) fun h23 =>
      J0 m5_2 v22 h23))

def F_simulcastlaw32_CounterSums (S : Sys) (I : Ids) (l0 acts1 : Value) (h : Hp) (R : Value → Hp → Prop) : Prop :=
  Eb (nw (Value.cells l0) I.t_4_int64 h) fun l2 h1 =>
  Vb (lnS acts1) fun v17 =>
  Vb (bin .gtr v17 (Value.int IntKind.i64 60)) fun v18 =>
  Br v18 (
    S.C I.f_simulcastlaw32_awake [] h1 fun v19 h2 =>
    R v19 h2) (
    Vb (lda 4 l2 h1) fun v20 =>
    Lp1 (Value.int IntKind.i64 0) h1 fun v21 h3 again0 =>
    Vb (bin .lss v21 (Value.int IntKind.i64 4)) fun v22 =>
    Br v22 (
      Vb (idc 4 1 v20 v21) fun v23 =>
      Jn1 (fun v29 h4 =>
          Br v29 (
            S.C I.f_simulcastlaw32_awake [] h4 fun v30 h5 =>
            R v30 h5) (
            Vb (bin .add v21 (Value.int IntKind.i64 1)) fun v31 =>
            again0 v31 h4)) fun J0 =>
      Vb (bin .lss v23 (Value.int IntKind.i64 0)) fun v25 =>
      Br v25 (
        J0 (Value.bool true) h3) (
        Vb (bin .gtr v23 (Value.int IntKind.i64 1099511627776)) fun v28 =>
        J0 v28 h3)) (
      Vb (lda 4 l2 h3) fun v32 =>
      S.C I.f_simulcastlaw32_words [v32] h3 fun v33 h6 =>
      Eb (nw #[Value.slice none 0 0] I.t_model_Model h6) fun m7 h7 =>
      Sb (sto 1 m7 v33 h7) fun h8 =>
      Vb (lnS acts1) fun v35 =>
      Lp1 (Value.int IntKind.i64 0) h8 fun v36 h9 again1 =>
      Vb (bin .lss v36 v35) fun v37 =>
      Br v37 (
        Vb (ixs 4 acts1 v36) fun v38 =>
        Vb (lda 4 v38 h9) fun v39 =>
        Eb (nw #[Value.int IntKind.u8 0, Value.int IntKind.u8 0, Value.int IntKind.u8 0, Value.int IntKind.i64 0] I.t_simulcastlaw32_Act h9) fun x9 h10 =>
        Sb (sto 4 x9 v39 h10) fun h11 =>
        Vb (fa 0 x9) fun v40 =>
        Sb (sto 1 v40 (Value.int IntKind.u8 3) h11) fun h12 =>
        Vb (lda 1 m7 h12) fun v42 =>
        Vb (some (.func (.func I.f_simulcastlaw32_CounterSums_1) #[] #[x9])) fun v43 =>
        S.C I.f_simulcastlaw32_Told [v42, v43] h12 fun v44 h13 =>
        Vb (ext 0 v44) fun v45 =>
        Vb (ext 1 v44) fun v46 =>
        Eb (nw #[Value.slice none 0 0] I.t_model_Model h13) fun next10 h14 =>
        Sb (sto 1 next10 v45 h14) fun h15 =>
        Vb (uno .not v46) fun v48 =>
        Br v48 (
          R (Value.bool false) h15) (
          Vb (lda 1 next10 h15) fun v49 =>
          Sb (sto 1 m7 v49 h15) fun h16 =>
          Vb (bin .add v36 (Value.int IntKind.i64 1)) fun v50 =>
          again1 v50 h16)) (
        Lp2 (Value.int IntKind.i64 0) (Value.int IntKind.i64 0) h9 fun sum12 v51 h17 again2 =>
        Vb (bin .lss v51 (Value.int IntKind.i64 4)) fun v52 =>
        Br v52 (
          Jn1 (fun w14 h18 =>
              Vb (fa 0 w14) fun v61 =>
              Vb (ldc v61 h18) fun v62 =>
              Vb (bin .lss v62 (Value.int IntKind.i64 0)) fun v63 =>
              Br v63 (
                R (Value.bool false) h18) (
                Vb (fa 0 w14) fun v65 =>
                Vb (ldc v65 h18) fun v66 =>
                Vb (bin .add sum12 v66) fun v67 =>
                Vb (bin .add v51 (Value.int IntKind.i64 1)) fun v68 =>
                again2 v67 v68 h18)) fun J1 =>
          Vb (lda 1 m7 h17) fun v55 =>
          And (
            S.C I.f_simulcastlaw32_root [v51] h17 fun v57 h19 =>
            lda 1 m7 h19 = some v55 ∧
            And (
              S.C I.f_model_Model_At [v55, v57] h19 fun v58 h20 =>
              Vb (ext 0 v58) fun v59 =>
              Vb (ext 1 v58) fun v60 =>
              Eb (nw #[Value.int IntKind.i64 0, Value.int IntKind.u32 0, Value.int IntKind.u32 0] I.t_api_Word h20) fun w14_1 h21 =>
              Sb (sto 3 w14_1 v59 h21) fun h22 =>
              J1 w14_1 h22) (
              Eb (nw #[Value.int IntKind.i64 0, Value.int IntKind.u32 0, Value.int IntKind.u32 0] I.t_api_Word h19) fun w14_2 h23 =>
              lda 1 m7 h23 = some v55 ∧
              S.C I.f_model_Model_At [v55, v57] h23 fun v58_1 h24 =>
              Vb (ext 0 v58_1) fun v59_1 =>
              Vb (ext 1 v58_1) fun v60_1 =>
              Sb (sto 3 w14_2 v59_1 h24) fun h25 =>
              J1 w14_2 h25)) (
            Eb (nw #[Value.int IntKind.i64 0, Value.int IntKind.u32 0, Value.int IntKind.u32 0] I.t_api_Word h17) fun w14_3 h26 =>
            lda 1 m7 h26 = some v55 ∧
            S.C I.f_simulcastlaw32_root [v51] h26 fun v57_1 h27 =>
            lda 1 m7 h27 = some v55 ∧
            S.C I.f_model_Model_At [v55, v57_1] h27 fun v58_2 h28 =>
            Vb (ext 0 v58_2) fun v59_2 =>
            Vb (ext 1 v58_2) fun v60_2 =>
            Sb (sto 3 w14_3 v59_2 h28) fun h29 =>
            J1 w14_3 h29)) (
          Jn1 (fun v4 h30 =>
              R v4 h30) fun J2 =>
          S.C I.f_simulcastlaw32_awake [] h17 fun v69 h31 =>
          Br v69 (
            Vb (ixa 4 1 l2 (Value.int IntKind.i64 0)) fun v72 =>
            Vb (ldc v72 h31) fun v73 =>
            Vb (ixa 4 1 l2 (Value.int IntKind.i64 1)) fun v74 =>
            Vb (ldc v74 h31) fun v75 =>
            Vb (bin .add v73 v75) fun v76 =>
            Vb (ixa 4 1 l2 (Value.int IntKind.i64 2)) fun v77 =>
            Vb (ldc v77 h31) fun v78 =>
            Vb (bin .add v76 v78) fun v79 =>
            Vb (ixa 4 1 l2 (Value.int IntKind.i64 3)) fun v80 =>
            Vb (ldc v80 h31) fun v81 =>
            Vb (bin .add v79 v81) fun v82 =>
            Vb (bin .eql sum12 v82) fun v83 =>
            J2 v83 h31) (
            J2 (Value.bool false) h31)))))

def F_simulcastlaw32_CounterBack (S : Sys) (I : Ids) (l0 n1 : Value) (h : Hp) (R : Value → Hp → Prop) : Prop :=
  Eb (nw (Value.cells l0) I.t_4_int64 h) fun l2 h1 =>
  Eb (mmk h1) fun v14 h2 =>
  Vb (lda 4 l2 h2) fun v15 =>
  Lp1 (Value.int IntKind.i64 0) h2 fun v16 h3 again0 =>
  Vb (bin .lss v16 (Value.int IntKind.i64 4)) fun v17 =>
  Br v17 (
    Vb (idc 4 1 v15 v16) fun v19 =>
    S.C I.f_simulcastlaw32_root [v16] h3 fun v22 h4 =>
    Vb (bldS [(0, 1), (1, 1), (2, 1)] #[Value.int IntKind.i64 0, Value.int IntKind.u32 0, Value.int IntKind.u32 0] [(0, v19)]) fun v24 =>
    Sb (mup (.int .i64) v14 v22 v24 h4) fun h5 =>
    Vb (bin .add v16 (Value.int IntKind.i64 1)) fun v25 =>
    again0 v25 h5) (
    S.C I.f_space_New [v14] h3 fun v27 h6 =>
    Vb (pos? (eqP v27 (Value.pointer none))) fun v29 =>
    Br v29 (
      R (Value.bool false) h6) (
      S.C I.f_simulcastlaw32_root [(Value.int IntKind.i64 1)] h6 fun v31 h7 =>
      S.C I.f_counter_Set [v27, v31, n1] h7 fun v33 h8 =>
      Jn1 (fun v52 h9 =>
          Br v52 (
            R (Value.bool false) h9) (
            S.C I.f_simulcastlaw32_root [(Value.int IntKind.i64 0)] h9 fun v55 h10 =>
            S.C I.f_counter_Add [v27, v55, n1] h10 fun v57 h11 =>
            Vb (ext 0 v57) fun v58 =>
            Vb (ext 1 v57) fun v59 =>
            Vb (bin .neq v59 (Value.int IntKind.i64 0)) fun v61 =>
            Br v61 (
              Jn1 (fun v4 h12 =>
                  R v4 h12) fun J1 =>
              S.C I.f_simulcastlaw32_awake [] h11 fun v62 h13 =>
              Br v62 (
                Vb (bin .eql v59 (Value.int IntKind.i64 9)) fun v65 =>
                Br v65 (
                  Vb (ixa 4 1 l2 (Value.int IntKind.i64 0)) fun v71 =>
                  Vb (ldc v71 h13) fun v72 =>
                  S.C I.f_simulcastlaw32_root [(Value.int IntKind.i64 0)] h13 fun v69 h14 =>
                  ldc v71 h14 = some v72 ∧
                  S.C I.f_counter_Get [v27, v69] h14 fun v70 h15 =>
                  ldc v71 h15 = some v72 ∧
                  Vb (bin .eql v70 v72) fun v73 =>
                  J1 v73 h15) (
                  J1 (Value.bool false) h13)) (
                J1 (Value.bool false) h13)) (
              Jn1 (fun v82 h16 =>
                  Br v82 (
                    S.C I.f_simulcastlaw32_awake [] h16 fun v83 h17 =>
                    R v83 h17) (
                    S.C I.f_simulcastlaw32_root [(Value.int IntKind.i64 0)] h16 fun v86 h18 =>
                    Vb (uno .neg n1) fun v88 =>
                    S.C I.f_counter_Add [v27, v86, v88] h18 fun v89 h19 =>
                    Vb (ext 0 v89) fun v90 =>
                    Vb (ext 1 v89) fun v91 =>
                    Jn1 (fun v4_1 h20 =>
                        R v4_1 h20) fun J3 =>
                    S.C I.f_simulcastlaw32_awake [] h19 fun v92 h21 =>
                    Br v92 (
                      Vb (bin .eql v91 (Value.int IntKind.i64 0)) fun v95 =>
                      Br v95 (
                        Vb (bin .sub v58 n1) fun v100 =>
                        Vb (ixa 4 1 l2 (Value.int IntKind.i64 0)) fun v101 =>
                        Vb (ldc v101 h21) fun v102 =>
                        Vb (bin .eql v100 v102) fun v103 =>
                        Br v103 (
                          Vb (ixa 4 1 l2 (Value.int IntKind.i64 0)) fun v107 =>
                          Vb (ldc v107 h21) fun v108 =>
                          Vb (bin .eql v90 v108) fun v109 =>
                          J3 v109 h21) (
                          J3 (Value.bool false) h21)) (
                        J3 (Value.bool false) h21)) (
                      J3 (Value.bool false) h21))) fun J2 =>
              Vb (uno .neg n1) fun v77 =>
              Vb (bin .eql n1 v77) fun v78 =>
              Br v78 (
                Vb (bin .neq n1 (Value.int IntKind.i64 0)) fun v81 =>
                J2 v81 h11) (
                J2 (Value.bool false) h11)))) fun J0 =>
      S.C I.f_simulcastlaw32_root [(Value.int IntKind.i64 1)] h8 fun v35 h22 =>
      S.C I.f_counter_Get [v27, v35] h22 fun v36 h23 =>
      Vb (bin .neq v36 n1) fun v38 =>
      Br v38 (
        J0 (Value.bool true) h23) (
        S.C I.f_simulcastlaw32_root [(Value.int IntKind.i64 1)] h23 fun v41 h24 =>
        S.C I.f_counter_Set [v27, v41, v33] h24 fun v43 h25 =>
        Vb (bin .neq v43 n1) fun v45 =>
        Br v45 (
          J0 (Value.bool true) h25) (
          Vb (ixa 4 1 l2 (Value.int IntKind.i64 1)) fun v49 =>
          Vb (ldc v49 h25) fun v50 =>
          Vb (bin .neq v33 v50) fun v51 =>
          J0 v51 h25))))

def F_simulcastlaw32_CounterOwn (S : Sys) (I : Ids) (l0 x1 : Value) (h : Hp) (R : Value → Hp → Prop) : Prop :=
  Eb (nw (Value.cells l0) I.t_4_int64 h) fun l2 h1 =>
  Eb (nw (Value.cells x1) I.t_simulcastlaw32_Act h1) fun x3 h2 =>
  Eb (mmk h2) fun v14 h3 =>
  Vb (lda 4 l2 h3) fun v15 =>
  Lp1 (Value.int IntKind.i64 0) h3 fun v16 h4 again0 =>
  Vb (bin .lss v16 (Value.int IntKind.i64 4)) fun v17 =>
  Br v17 (
    Vb (idc 4 1 v15 v16) fun v19 =>
    S.C I.f_simulcastlaw32_root [v16] h4 fun v22 h5 =>
    Vb (bldS [(0, 1), (1, 1), (2, 1)] #[Value.int IntKind.i64 0, Value.int IntKind.u32 0, Value.int IntKind.u32 0] [(0, v19)]) fun v24 =>
    Sb (mup (.int .i64) v14 v22 v24 h5) fun h6 =>
    Vb (bin .add v16 (Value.int IntKind.i64 1)) fun v25 =>
    again0 v25 h6) (
    S.C I.f_space_New [v14] h4 fun v27 h7 =>
    Vb (pos? (eqP v27 (Value.pointer none))) fun v29 =>
    Br v29 (
      R (Value.bool false) h7) (
      Vb (lda 4 x3 h7) fun v31 =>
      S.C I.f_simulcastlaw32_Act_do [v31, v27] h7 fun v33 h8 =>
      Vb (ext 0 v33) fun v34 =>
      Vb (ext 1 v33) fun v35 =>
      Vb (lda 4 x3 h8) fun v36 =>
      S.C I.f_simulcastlaw32_Act_ref [v36] h8 fun v37 h9 =>
      Eb (nw #[Value.int IntKind.i64 0, Value.int IntKind.i64 0, Value.int IntKind.i64 0, Value.int IntKind.i64 0] I.t_simulcastref32_Act h9) fun r11 h10 =>
      Sb (sto 4 r11 v37 h10) fun h11 =>
      S.C I.f_space_Space_Reads [v27] h11 fun v39 h12 =>
      S.C I.f_space_Space_Writes [v27] h12 fun v41 h13 =>
      Ap I.t_api_Loc #[Value.int IntKind.i64 0] 1 8 v39 v41 h13 fun v42 h14 =>
      Vb (lnS v42) fun v43 =>
      Lp1 (Value.int IntKind.i64 0) h14 fun v44 h15 again1 =>
      Vb (bin .lss v44 v43) fun v45 =>
      Br v45 (
        Vb (ixs 1 v42 v44) fun v46 =>
        Vb (ldc v46 h15) fun v47 =>
        Jn1 (fun v64 h16 =>
            Br v64 (
              R (Value.bool false) h16) (
              Vb (bin .add v44 (Value.int IntKind.i64 1)) fun v65 =>
              again1 v65 h16)) fun J0 =>
        Vb (fa 1 r11) fun v49 =>
        Vb (ldc v49 h15) fun v50 =>
        S.C I.f_simulcastlaw32_root [v50] h15 fun v51 h17 =>
        Vb (bin .neq v47 v51) fun v52 =>
        Br v52 (
          Vb (fa 0 r11) fun v54 =>
          Vb (ldc v54 h17) fun v55 =>
          Vb (bin .neq v55 (Value.int IntKind.i64 3)) fun v56 =>
          Br v56 (
            J0 (Value.bool true) h17) (
            Vb (fa 2 r11) fun v59 =>
            Vb (ldc v59 h17) fun v60 =>
            S.C I.f_simulcastlaw32_root [v60] h17 fun v61 h18 =>
            Vb (bin .neq v47 v61) fun v62 =>
            J0 v62 h18)) (
          J0 (Value.bool false) h17)) (
        Jn1 (fun v4 h19 =>
            R v4 h19) fun J1 =>
        S.C I.f_simulcastlaw32_awake [] h15 fun v66 h20 =>
        Br v66 (
          Vb (bin .eql v35 (Value.int IntKind.i64 0)) fun v69 =>
          Br v69 (
            J1 (Value.bool true) h20) (
            S.C I.f_space_Space_Writes [v27] h20 fun v72 h21 =>
            Vb (lnS v72) fun v73 =>
            Vb (bin .eql v73 (Value.int IntKind.i64 0)) fun v74 =>
            J1 v74 h21)) (
          J1 (Value.bool false) h20))))

def F_simulcastlaw32_CounterMoves (S : Sys) (I : Ids) (l0 a1 b2 n3 : Value) (h : Hp) (R : Value → Hp → Prop) : Prop :=
  Eb (nw (Value.cells l0) I.t_4_int64 h) fun l4 h1 =>
  Vb (bin .rem a1 (Value.int IntKind.u8 4)) fun v18 =>
  Vb (cvi .i64 v18) fun v19 =>
  Vb (bin .rem b2 (Value.int IntKind.u8 4)) fun v21 =>
  Vb (cvi .i64 v21) fun v22 =>
  Eb (mmk h1) fun v23 h2 =>
  Vb (lda 4 l4 h2) fun v24 =>
  Lp1 (Value.int IntKind.i64 0) h2 fun v25 h3 again0 =>
  Vb (bin .lss v25 (Value.int IntKind.i64 4)) fun v26 =>
  Br v26 (
    Vb (idc 4 1 v24 v25) fun v28 =>
    S.C I.f_simulcastlaw32_root [v25] h3 fun v31 h4 =>
    Vb (bldS [(0, 1), (1, 1), (2, 1)] #[Value.int IntKind.i64 0, Value.int IntKind.u32 0, Value.int IntKind.u32 0] [(0, v28)]) fun v33 =>
    Sb (mup (.int .i64) v23 v31 v33 h4) fun h5 =>
    Vb (bin .add v25 (Value.int IntKind.i64 1)) fun v34 =>
    again0 v34 h5) (
    S.C I.f_space_New [v23] h3 fun v36 h6 =>
    Vb (pos? (eqP v36 (Value.pointer none))) fun v38 =>
    Br v38 (
      R (Value.bool false) h6) (
      Jn1 (fun v48 h7 =>
          Br v48 (
            S.C I.f_simulcastlaw32_awake [] h7 fun v49 h8 =>
            R v49 h8) (
            S.C I.f_simulcastlaw32_root [v19] h7 fun v52 h9 =>
            S.C I.f_simulcastlaw32_root [v22] h9 fun v54 h10 =>
            S.C I.f_counter_Move [v36, v52, v54, n3] h10 fun v56 h11 =>
            Vb (bin .neq v56 (Value.int IntKind.i64 0)) fun v58 =>
            Br v58 (
              Jn1 (fun v8 h12 =>
                  R v8 h12) fun J1 =>
              S.C I.f_simulcastlaw32_awake [] h11 fun v59 h13 =>
              Br v59 (
                Vb (bin .lss n3 (Value.int IntKind.i64 0)) fun v62 =>
                Br v62 (
                  S.C I.f_space_Space_Writes [v36] h13 fun v86 h14 =>
                  Vb (lnS v86) fun v87 =>
                  Vb (bin .eql v87 (Value.int IntKind.i64 0)) fun v88 =>
                  J1 v88 h14) (
                  Vb (ixa 4 1 l4 v19) fun v66 =>
                  Vb (ldc v66 h13) fun v67 =>
                  Vb (bin .gtr n3 v67) fun v68 =>
                  Br v68 (
                    S.C I.f_space_Space_Writes [v36] h13 fun v86_1 h15 =>
                    Vb (lnS v86_1) fun v87_1 =>
                    Vb (bin .eql v87_1 (Value.int IntKind.i64 0)) fun v88_1 =>
                    J1 v88_1 h15) (
                    Vb (bin .neq v19 v22) fun v73 =>
                    Br v73 (
                      Vb (ixa 4 1 l4 v22) fun v76 =>
                      Vb (ldc v76 h13) fun v77 =>
                      Vb (bin .sub (Value.int IntKind.i64 9223372036854775807) n3) fun v79 =>
                      Vb (bin .gtr v77 v79) fun v80 =>
                      Br v80 (
                        S.C I.f_space_Space_Writes [v36] h13 fun v86_2 h16 =>
                        Vb (lnS v86_2) fun v87_2 =>
                        Vb (bin .eql v87_2 (Value.int IntKind.i64 0)) fun v88_2 =>
                        J1 v88_2 h16) (
                        J1 (Value.bool false) h13)) (
                      J1 (Value.bool false) h13)))) (
                J1 (Value.bool false) h13)) (
              Jn1 (fun v116 h17 =>
                  Br v116 (
                    R (Value.bool false) h17) (
                    S.C I.f_simulcastlaw32_root [v22] h17 fun v119 h18 =>
                    S.C I.f_simulcastlaw32_root [v19] h18 fun v121 h19 =>
                    S.C I.f_counter_Move [v36, v119, v121, n3] h19 fun v123 h20 =>
                    Jn1 (fun v8_1 h21 =>
                        R v8_1 h21) fun J3 =>
                    S.C I.f_simulcastlaw32_awake [] h20 fun v124 h22 =>
                    Br v124 (
                      Vb (bin .eql v123 (Value.int IntKind.i64 0)) fun v127 =>
                      Br v127 (
                        Vb (ixa 4 1 l4 v19) fun v135 =>
                        Vb (ldc v135 h22) fun v136 =>
                        S.C I.f_simulcastlaw32_root [v19] h22 fun v132 h23 =>
                        ldc v135 h23 = some v136 ∧
                        S.C I.f_counter_Get [v36, v132] h23 fun v133 h24 =>
                        ldc v135 h24 = some v136 ∧
                        Vb (bin .eql v133 v136) fun v137 =>
                        Br v137 (
                          Vb (ixa 4 1 l4 v22) fun v145 =>
                          Vb (ldc v145 h24) fun v146 =>
                          S.C I.f_simulcastlaw32_root [v22] h24 fun v142 h25 =>
                          ldc v145 h25 = some v146 ∧
                          S.C I.f_counter_Get [v36, v142] h25 fun v143 h26 =>
                          ldc v145 h26 = some v146 ∧
                          Vb (bin .eql v143 v146) fun v147 =>
                          J3 v147 h26) (
                          J3 (Value.bool false) h24)) (
                        J3 (Value.bool false) h22)) (
                      J3 (Value.bool false) h22))) fun J2 =>
              Vb (bin .neq v19 v22) fun v92 =>
              Br v92 (
                Vb (ixa 4 1 l4 v19) fun v99 =>
                Vb (ldc v99 h11) fun v100 =>
                Vb (bin .sub v100 n3) fun v102 =>
                S.C I.f_simulcastlaw32_root [v19] h11 fun v96 h27 =>
                ldc v99 h27 = some v100 ∧
                S.C I.f_counter_Get [v36, v96] h27 fun v97 h28 =>
                ldc v99 h28 = some v100 ∧
                Vb (bin .neq v97 v102) fun v103 =>
                Br v103 (
                  J2 (Value.bool true) h28) (
                  Vb (ixa 4 1 l4 v22) fun v110 =>
                  Vb (ldc v110 h28) fun v111 =>
                  Vb (bin .add v111 n3) fun v113 =>
                  S.C I.f_simulcastlaw32_root [v22] h28 fun v107 h29 =>
                  ldc v110 h29 = some v111 ∧
                  S.C I.f_counter_Get [v36, v107] h29 fun v108 h30 =>
                  ldc v110 h30 = some v111 ∧
                  Vb (bin .neq v108 v113) fun v114 =>
                  J2 v114 h30)) (
                J2 (Value.bool false) h11)))) fun J0 =>
      Vb (ixa 4 1 l4 v19) fun v40 =>
      Vb (ldc v40 h6) fun v41 =>
      Vb (bin .lss v41 (Value.int IntKind.i64 0)) fun v42 =>
      Br v42 (
        J0 (Value.bool true) h6) (
        Vb (ixa 4 1 l4 v22) fun v45 =>
        Vb (ldc v45 h6) fun v46 =>
        Vb (bin .lss v46 (Value.int IntKind.i64 0)) fun v47 =>
        J0 v47 h6)))

def F_simulcastlaw35_DequeActs (S : Sys) (I : Ids) (size0 acts1 : Value) (h : Hp) (R : Value → Hp → Prop) : Prop :=
  Vb (bin .rem size0 (Value.int IntKind.u8 9)) fun v19 =>
  Vb (cvi .i64 v19) fun v20 =>
  Vb (lnS acts1) fun v22 =>
  Vb (bin .gtr v22 (Value.int IntKind.i64 60)) fun v23 =>
  Br v23 (
    S.C I.f_simulcastlaw35_awake [] h fun v24 h1 =>
    R v24 h1) (
    S.C I.f_simulcastlaw35_nodes [v20] h fun v27 h2 =>
    Vb (ext 0 v27) fun v28 =>
    Vb (ext 1 v27) fun v29 =>
    Eb (nw #[Value.int IntKind.i64 0, Value.int IntKind.i64 0, Value.int IntKind.i64 0] I.t_pool_Pool h2) fun p6 h3 =>
    Eb (nw #[Value.slice none 0 0] I.t_model_Model h3) fun m7 h4 =>
    Sb (sto 3 p6 v28 h4) fun h5 =>
    Sb (sto 1 m7 v29 h5) fun h6 =>
    Vb (lnS acts1) fun v31 =>
    Lp2 (Value.slice none 0 0) (Value.int IntKind.i64 0) h6 fun l8 v32 h7 again0 =>
    Vb (bin .lss v32 v31) fun v33 =>
    Br v33 (
      Vb (ixs 3 acts1 v32) fun v34 =>
      Vb (lda 3 v34 h7) fun v35 =>
      Eb (nw #[Value.int IntKind.u8 0, Value.bool false, Value.int IntKind.i64 0] I.t_simulcastlaw35_Act h7) fun x10 h8 =>
      Sb (sto 3 x10 v35 h8) fun h9 =>
      Eb (nw #[Value.int IntKind.i64 0] I.t_int64 h9) fun v11 h10 =>
      Eb (nw #[Value.int IntKind.i64 0] I.t_api_Errno h10) fun e12 h11 =>
      Vb (lda 1 m7 h11) fun v37 =>
      Vb (some (.func (.func I.f_simulcastlaw35_DequeActs_1) #[] #[x10, p6, v11, e12])) fun v38 =>
      S.C I.f_simulcastlaw32_Told [v37, v38] h11 fun v39 h12 =>
      Vb (ext 0 v39) fun v40 =>
      Vb (ext 1 v39) fun v41 =>
      Eb (nw #[Value.slice none 0 0] I.t_model_Model h12) fun next13 h13 =>
      Sb (sto 1 next13 v40 h13) fun h14 =>
      Vb (lda 3 x10 h14) fun v43 =>
      S.C I.f_simulcastlaw35_Act_ref [v43, l8, v20] h14 fun v46 h15 =>
      Vb (ext 0 v46) fun v47 =>
      Vb (ext 1 v46) fun v48 =>
      Vb (ext 2 v46) fun v49 =>
      Jn1 (fun v68 h16 =>
          Br v68 (
            R (Value.bool false) h16) (
            Vb (lda 1 next13 h16) fun v69 =>
            Sb (sto 1 m7 v69 h16) fun h17 =>
            Vb (bin .add v32 (Value.int IntKind.i64 1)) fun v71 =>
            again0 v47 v71 h17)) fun J0 =>
      Vb (uno .not v41) fun v51 =>
      Br v51 (
        J0 (Value.bool true) h15) (
        Vb (ldc v11 h15) fun v53 =>
        Vb (bin .neq v53 v48) fun v55 =>
        Br v55 (
          J0 (Value.bool true) h15) (
          Vb (ldc e12 h15) fun v58 =>
          Vb (bin .neq v58 v49) fun v60 =>
          Br v60 (
            J0 (Value.bool true) h15) (
            Vb (lda 1 next13 h15) fun v63 =>
            Vb (lda 3 p6 h15) fun v64 =>
            S.C I.f_simulcastlaw35_is [v63, v64, v47] h15 fun v66 h18 =>
            Vb (uno .not v66) fun v67 =>
            J0 v67 h18)))) (
      S.C I.f_simulcastlaw35_awake [] h7 fun v72 h19 =>
      R v72 h19))

def F_simulcastlaw35_DequeEnds (S : Sys) (I : Ids) (l0 right1 same2 : Value) (h : Hp) (R : Value → Hp → Prop) : Prop :=
  Vb (lnS l0) fun v22 =>
  Vb (bin .gtr v22 (Value.int IntKind.i64 40)) fun v23 =>
  Br v23 (
    S.C I.f_simulcastlaw35_awake [] h fun v24 h1 =>
    R v24 h1) (
    Vb (lnS l0) fun v27 =>
    S.C I.f_simulcastlaw35_nodes [v27] h fun v28 h2 =>
    Vb (ext 0 v28) fun v29 =>
    Vb (ext 1 v28) fun v30 =>
    Eb (nw #[Value.int IntKind.i64 0, Value.int IntKind.i64 0, Value.int IntKind.i64 0] I.t_pool_Pool h2) fun p7 h3 =>
    Eb (nw #[Value.slice none 0 0] I.t_model_Model h3) fun m8 h4 =>
    Sb (sto 3 p7 v29 h4) fun h5 =>
    Sb (sto 1 m8 v30 h5) fun h6 =>
    Vb (lda 1 m8 h6) fun v31 =>
    S.C I.f_simulcastlaw35_whole [v31] h6 fun v32 h7 =>
    Vb (pos? (eqP v32 (Value.pointer none))) fun v34 =>
    Br v34 (
      R (Value.bool false) h7) (
      Vb (lnS l0) fun v36 =>
      Lp1 (Value.int IntKind.i64 0) h7 fun v37 h8 again0 =>
      Vb (bin .lss v37 v36) fun v38 =>
      Br v38 (
        Vb (ixs 1 l0 v37) fun v39 =>
        Vb (ldc v39 h8) fun v40 =>
        Vb (lda 3 p7 h8) fun v42 =>
        S.C I.f_deque_Push [v32, v42, (Value.int IntKind.i64 8), right1, v40] h8 fun v45 h9 =>
        Vb (bin .neq v45 (Value.int IntKind.i64 0)) fun v46 =>
        Br v46 (
          R (Value.bool false) h9) (
          Vb (bin .add v37 (Value.int IntKind.i64 1)) fun v47 =>
          again0 v47 h9)) (
        Vb (lda 3 p7 h8) fun v49 =>
        S.C I.f_deque_Push [v32, v49, (Value.int IntKind.i64 8), right1, (Value.int IntKind.i64 9)] h8 fun v51 h10 =>
        Vb (lnS l0) fun v53 =>
        Lp1 (Value.int IntKind.i64 0) h10 fun v54 h11 again1 =>
        Vb (bin .lss v54 v53) fun v55 =>
        Br v55 (
          Vb (ixs 1 l0 v54) fun v59 =>
          Vb (ldc v59 h11) fun v60 =>
          Jn1 (fun want14 h12 =>
              Vb (lda 3 p7 h12) fun v72 =>
              Vb (pos? (eqB right1 same2)) fun v75 =>
              S.C I.f_deque_Pop [v32, v72, (Value.int IntKind.i64 8), v75] h12 fun v76 h13 =>
              Vb (ext 0 v76) fun v77 =>
              Vb (ext 1 v76) fun v78 =>
              Jn1 (fun v85 h14 =>
                  Br v85 (
                    R (Value.bool false) h14) (
                    Vb (bin .add v54 (Value.int IntKind.i64 1)) fun v86 =>
                    again1 v86 h14)) fun J1 =>
              Vb (bin .neq v78 (Value.int IntKind.i64 0)) fun v80 =>
              Br v80 (
                J1 (Value.bool true) h13) (
                Vb (bin .neq v77 want14) fun v84 =>
                J1 v84 h13)) fun J0 =>
          Br same2 (
            Vb (lnS l0) fun v64 =>
            Vb (bin .sub v64 (Value.int IntKind.i64 1)) fun v65 =>
            Vb (bin .sub v65 v54) fun v67 =>
            Vb (ixs 1 l0 v67) fun v68 =>
            Vb (ldc v68 h11) fun v69 =>
            J0 v69 h11) (
            J0 v60 h11)) (
          Vb (lda 3 p7 h11) fun v89 =>
          S.C I.f_deque_Pop [v32, v89, (Value.int IntKind.i64 8), right1] h11 fun v91 h15 =>
          Vb (ext 0 v91) fun v92 =>
          Vb (ext 1 v91) fun v93 =>
          Vb (uno .not right1) fun v97 =>
          S.C I.f_deque_Peek [v32, (Value.int IntKind.i64 8), v97] h15 fun v98 h16 =>
          Vb (ext 0 v98) fun v99 =>
          Vb (ext 1 v98) fun v100 =>
          Jn1 (fun v6 h17 =>
              R v6 h17) fun J2 =>
          S.C I.f_simulcastlaw35_awake [] h16 fun v101 h18 =>
          Br v101 (
            Vb (bin .eql v51 (Value.int IntKind.i64 9)) fun v104 =>
            Br v104 (
              Vb (bin .eql v93 (Value.int IntKind.i64 8)) fun v108 =>
              Br v108 (
                Vb (bin .eql v100 (Value.int IntKind.i64 8)) fun v112 =>
                Br v112 (
                  S.C I.f_deque_Len [v32, (Value.int IntKind.i64 8)] h18 fun v116 h19 =>
                  Vb (bin .eql v116 (Value.int IntKind.i64 0)) fun v117 =>
                  Br v117 (
                    Vb (lda 3 p7 h19) fun v120 =>
                    S.C I.f_pool_Pool_Left [v120, v32] h19 fun v122 h20 =>
                    Vb (lnS l0) fun v124 =>
                    Vb (bin .eql v122 v124) fun v125 =>
                    J2 v125 h20) (
                    J2 (Value.bool false) h19)) (
                  J2 (Value.bool false) h18)) (
                J2 (Value.bool false) h18)) (
              J2 (Value.bool false) h18)) (
            J2 (Value.bool false) h18)))))

def F_simulcastlaw35_DequeOther (S : Sys) (I : Ids) (acts0 turns1 : Value) (h : Hp) (R : Value → Hp → Prop) : Prop :=
  Vb (lnS acts0) fun v20 =>
  Vb (bin .gtr v20 (Value.int IntKind.i64 40)) fun v21 =>
  Br v21 (
    S.C I.f_simulcastlaw35_awake [] h fun v22 h1 =>
    R v22 h1) (
    Vb (bldS [(0, 1), (1, 1), (2, 1)] #[Value.int IntKind.i64 0, Value.int IntKind.i64 0, Value.int IntKind.i64 0] [(0, (Value.int IntKind.i64 0)), (1, (Value.int IntKind.i64 24)), (2, (Value.int IntKind.i64 60))]) fun v23 =>
    Eb (nw #[Value.int IntKind.i64 0, Value.int IntKind.i64 0, Value.int IntKind.i64 0] I.t_pool_Pool h) fun p5 h2 =>
    Sb (sto 3 p5 v23 h2) fun h3 =>
    Eb (mmk h3) fun v24 h4 =>
    Lp1 (Value.int IntKind.i64 0) h4 fun v25 h5 again0 =>
    Vb (bin .lss v25 (Value.int IntKind.i64 504)) fun v26 =>
    Br v26 (
      Vb (bldS [(0, 1), (1, 1), (2, 1)] #[Value.int IntKind.i64 0, Value.int IntKind.u32 0, Value.int IntKind.u32 0] []) fun v30 =>
      Sb (mup (.int .i64) v24 v25 v30 h5) fun h6 =>
      Vb (bin .add v25 (Value.int IntKind.i64 1)) fun v31 =>
      again0 v31 h6) (
      S.C I.f_space_New [v24] h5 fun v33 h7 =>
      Vb (pos? (eqP v33 (Value.pointer none))) fun v35 =>
      Br v35 (
        R (Value.bool false) h7) (
        Eb (nw #[Value.slice none 0 0, Value.slice none 0 0] I.t_2_s_int64 h7) fun l9 h8 =>
        Vb (lnS acts0) fun v37 =>
        Lp1 (Value.int IntKind.i64 0) h8 fun v38 h9 again1 =>
        Vb (bin .lss v38 v37) fun v39 =>
        Br v39 (
          Jn0 (fun h10 =>
              Vb (bin .add v38 (Value.int IntKind.i64 1)) fun v115 =>
              again1 v115 h10) fun J0 =>
          Vb (ixs 3 acts0 v38) fun v41 =>
          Vb (lda 3 v41 h9) fun v42 =>
          Eb (nw #[Value.int IntKind.u8 0, Value.bool false, Value.int IntKind.i64 0] I.t_simulcastlaw35_Act h9) fun x11 h11 =>
          Sb (sto 3 x11 v42 h11) fun h12 =>
          Jn1 (fun k12 h13 =>
              Vb (bin .mul (Value.int IntKind.i64 8) k12) fun v54 =>
              Vb (bin .add (Value.int IntKind.i64 8) v54) fun v55 =>
              Vb (fa 0 x11) fun v56 =>
              Vb (ldc v56 h13) fun v57 =>
              Vb (bin .rem v57 (Value.int IntKind.u8 4)) fun v58 =>
              Vb (bin .lss v58 (Value.int IntKind.u8 2)) fun v59 =>
              Br v59 (
                Vb (lda 3 p5 h13) fun v61 =>
                Vb (fa 1 x11) fun v63 =>
                Vb (ldc v63 h13) fun v64 =>
                Vb (fa 2 x11) fun v65 =>
                Vb (ldc v65 h13) fun v66 =>
                S.C I.f_deque_Push [v33, v61, v55, v64, v66] h13 fun v67 h14 =>
                Vb (bin .neq v67 (Value.int IntKind.i64 0)) fun v68 =>
                Br v68 (
                  R (Value.bool false) h14) (
                  Vb (ixa 2 1 l9 k12) fun v71 =>
                  Vb (ldc v71 h14) fun v72 =>
                  Vb (fa 1 x11) fun v73 =>
                  Vb (ldc v73 h14) fun v74 =>
                  Vb (fa 2 x11) fun v75 =>
                  Vb (ldc v75 h14) fun v76 =>
                  S.C I.f_simulcastref35_Push [v72, v74, v76] h14 fun v77 h15 =>
                  Vb (ixa 2 1 l9 k12) fun v78 =>
                  Sb (sto 1 v78 v77 h15) fun h16 =>
                  J0 h16)) (
                Vb (lda 3 p5 h13) fun v81 =>
                Vb (fa 1 x11) fun v83 =>
                Vb (ldc v83 h13) fun v84 =>
                S.C I.f_deque_Pop [v33, v81, v55, v84] h13 fun v85 h17 =>
                Vb (ext 0 v85) fun v86 =>
                Vb (ext 1 v85) fun v87 =>
                Vb (ixa 2 1 l9 k12) fun v89 =>
                Vb (ldc v89 h17) fun v90 =>
                Vb (lnS v90) fun v91 =>
                Vb (bin .gtr v91 (Value.int IntKind.i64 0)) fun v92 =>
                Br v92 (
                  Jn1 (fun v104 h18 =>
                      Br v104 (
                        R (Value.bool false) h18) (
                        Vb (ixa 2 1 l9 k12) fun v107 =>
                        Vb (ldc v107 h18) fun v108 =>
                        Vb (fa 1 x11) fun v109 =>
                        Vb (ldc v109 h18) fun v110 =>
                        S.C I.f_simulcastref35_Pop [v108, v110] h18 fun v111 h19 =>
                        Vb (ixa 2 1 l9 k12) fun v112 =>
                        Sb (sto 1 v112 v111 h19) fun h20 =>
                        J0 h20)) fun J2 =>
                  Vb (bin .neq v87 (Value.int IntKind.i64 0)) fun v94 =>
                  Br v94 (
                    J2 (Value.bool true) h17) (
                    Vb (ixa 2 1 l9 k12) fun v98 =>
                    Vb (ldc v98 h17) fun v99 =>
                    Vb (fa 1 x11) fun v100 =>
                    Vb (ldc v100 h17) fun v101 =>
                    S.C I.f_simulcastref35_Peek [v99, v101] h17 fun v102 h21 =>
                    Vb (bin .neq v86 v102) fun v103 =>
                    J2 v103 h21)) (
                  Vb (bin .neq v87 (Value.int IntKind.i64 8)) fun v114 =>
                  Br v114 (
                    R (Value.bool false) h17) (
                    J0 h17)))) fun J1 =>
          Jn1 (fun v52 h22 =>
              Br v52 (
                J1 (Value.int IntKind.i64 1) h22) (
                J1 (Value.int IntKind.i64 0) h22)) fun J3 =>
          Vb (lnS turns1) fun v45 =>
          Vb (bin .lss v38 v45) fun v46 =>
          Br v46 (
            Vb (ixs 1 turns1 v38) fun v50 =>
            Vb (ldc v50 h12) fun v51 =>
            J3 v51 h12) (
            J3 (Value.bool false) h12)) (
          Lp1 (Value.int IntKind.i64 0) h9 fun v116 h23 again2 =>
          Vb (bin .lss v116 (Value.int IntKind.i64 2)) fun v117 =>
          Br v117 (
            Vb (lda 3 p5 h23) fun v121 =>
            Vb (bin .mul (Value.int IntKind.i64 8) v116) fun v123 =>
            Vb (bin .add (Value.int IntKind.i64 8) v123) fun v124 =>
            S.C I.f_deque_Walk [v33, v121, v124, (Value.bool false)] h23 fun v125 h24 =>
            Vb (ext 0 v125) fun v126 =>
            Vb (ext 1 v125) fun v127 =>
            Jn1 (fun v138 h25 =>
                Br v138 (
                  R (Value.bool false) h25) (
                  Vb (bin .add v116 (Value.int IntKind.i64 1)) fun v139 =>
                  again2 v139 h25)) fun J4 =>
            Vb (bin .neq v127 (Value.int IntKind.i64 0)) fun v129 =>
            Br v129 (
              J4 (Value.bool true) h24) (
              Vb (ixa 2 1 l9 v116) fun v133 =>
              Vb (ldc v133 h24) fun v134 =>
              S.C I.f_simulcastref35_Walk [v134, (Value.bool false)] h24 fun v135 h26 =>
              S.C I.f_slices_Equal_int64_int64 [v126, v135] h26 fun v136 h27 =>
              Vb (uno .not v136) fun v137 =>
              J4 v137 h27)) (
            Jn1 (fun v4 h28 =>
                R v4 h28) fun J5 =>
            S.C I.f_simulcastlaw35_awake [] h23 fun v140 h29 =>
            Br v140 (
              Vb (lda 3 p5 h29) fun v142 =>
              Vb (ixa 2 1 l9 (Value.int IntKind.i64 0)) fun v145 =>
              Vb (ldc v145 h29) fun v146 =>
              Vb (lnS v146) fun v147 =>
              Vb (bin .sub (Value.int IntKind.i64 60) v147) fun v148 =>
              Vb (ixa 2 1 l9 (Value.int IntKind.i64 1)) fun v149 =>
              Vb (ldc v149 h29) fun v150 =>
              Vb (lnS v150) fun v151 =>
              Vb (bin .sub v148 v151) fun v152 =>
              S.C I.f_pool_Pool_Left [v142, v33] h29 fun v144 h30 =>
              ldc v149 h30 = some v150 ∧
              ldc v145 h30 = some v146 ∧
              Vb (bin .eql v144 v152) fun v153 =>
              J5 v153 h30) (
              J5 (Value.bool false) h29))))))

def F_simulcastlaw35_DequeMirror (S : Sys) (I : Ids) (acts0 : Value) (h : Hp) (R : Value → Hp → Prop) : Prop :=
  Vb (lnS acts0) fun v19 =>
  Vb (bin .gtr v19 (Value.int IntKind.i64 60)) fun v20 =>
  Br v20 (
    S.C I.f_simulcastlaw35_awake [] h fun v21 h1 =>
    R v21 h1) (
    S.C I.f_simulcastlaw35_nodes [(Value.int IntKind.i64 8)] h fun v23 h2 =>
    Vb (ext 0 v23) fun v24 =>
    Vb (ext 1 v23) fun v25 =>
    Eb (nw #[Value.int IntKind.i64 0, Value.int IntKind.i64 0, Value.int IntKind.i64 0] I.t_pool_Pool h2) fun p3 h3 =>
    Eb (nw #[Value.slice none 0 0] I.t_model_Model h3) fun m4 h4 =>
    Sb (sto 3 p3 v24 h4) fun h5 =>
    Sb (sto 1 m4 v25 h5) fun h6 =>
    Vb (lda 1 m4 h6) fun v26 =>
    Vb (lda 1 m4 h6) fun v28 =>
    S.C I.f_simulcastlaw35_whole [v26] h6 fun v27 h7 =>
    lda 1 m4 h7 = some v28 ∧
    S.C I.f_simulcastlaw35_whole [v28] h7 fun v29 h8 =>
    Jn1 (fun v35 h9 =>
        Br v35 (
          R (Value.bool false) h9) (
          Vb (lnS acts0) fun v37 =>
          Lp1 (Value.int IntKind.i64 0) h9 fun v38 h10 again0 =>
          Vb (bin .lss v38 v37) fun v39 =>
          Br v39 (
            Vb (ixs 3 acts0 v38) fun v40 =>
            Vb (lda 3 v40 h10) fun v41 =>
            Eb (nw #[Value.int IntKind.u8 0, Value.bool false, Value.int IntKind.i64 0] I.t_simulcastlaw35_Act h10) fun x8 h11 =>
            Sb (sto 3 x8 v41 h11) fun h12 =>
            Vb (lda 3 x8 h12) fun v42 =>
            Eb (nw #[Value.int IntKind.u8 0, Value.bool false, Value.int IntKind.i64 0] I.t_simulcastlaw35_Act h12) fun y9 h13 =>
            Sb (sto 3 y9 v42 h13) fun h14 =>
            Vb (fa 1 x8) fun v43 =>
            Vb (ldc v43 h14) fun v44 =>
            Vb (uno .not v44) fun v45 =>
            Vb (fa 1 y9) fun v46 =>
            Sb (sto 1 v46 v45 h14) fun h15 =>
            Vb (lda 3 x8 h15) fun v48 =>
            Vb (lda 3 p3 h15) fun v50 =>
            S.C I.f_simulcastlaw35_Act_do [v48, v27, v50] h15 fun v51 h16 =>
            Vb (ext 0 v51) fun v52 =>
            Vb (ext 1 v51) fun v53 =>
            Vb (lda 3 y9 h16) fun v55 =>
            Vb (lda 3 p3 h16) fun v57 =>
            S.C I.f_simulcastlaw35_Act_do [v55, v29, v57] h16 fun v58 h17 =>
            Vb (ext 0 v58) fun v59 =>
            Vb (ext 1 v58) fun v60 =>
            Jn1 (fun v68 h18 =>
                Br v68 (
                  R (Value.bool false) h18) (
                  Vb (bin .add v38 (Value.int IntKind.i64 1)) fun v69 =>
                  again0 v69 h18)) fun J1 =>
            Vb (bin .neq v52 v59) fun v63 =>
            Br v63 (
              J1 (Value.bool true) h17) (
              Vb (bin .neq v53 v60) fun v67 =>
              J1 v67 h17)) (
            Vb (lda 3 p3 h10) fun v72 =>
            S.C I.f_deque_Walk [v27, v72, (Value.int IntKind.i64 8), (Value.bool false)] h10 fun v73 h19 =>
            Vb (ext 0 v73) fun v74 =>
            Vb (ext 1 v73) fun v75 =>
            Vb (lda 3 p3 h19) fun v78 =>
            S.C I.f_deque_Walk [v29, v78, (Value.int IntKind.i64 8), (Value.bool true)] h19 fun v79 h20 =>
            Vb (ext 0 v79) fun v80 =>
            Vb (ext 1 v79) fun v81 =>
            Jn1 (fun v2 h21 =>
                R v2 h21) fun J2 =>
            S.C I.f_simulcastlaw35_awake [] h20 fun v82 h22 =>
            Br v82 (
              Vb (bin .eql v75 (Value.int IntKind.i64 0)) fun v85 =>
              Br v85 (
                Vb (bin .eql v81 (Value.int IntKind.i64 0)) fun v89 =>
                Br v89 (
                  S.C I.f_slices_Equal_int64_int64 [v74, v80] h22 fun v94 h23 =>
                  J2 v94 h23) (
                  J2 (Value.bool false) h22)) (
                J2 (Value.bool false) h22)) (
              J2 (Value.bool false) h22)))) fun J0 =>
    Vb (pos? (eqP v27 (Value.pointer none))) fun v31 =>
    Br v31 (
      J0 (Value.bool true) h8) (
      Vb (pos? (eqP v29 (Value.pointer none))) fun v34 =>
      J0 v34 h8))

def F_simulcastlaw35_DequeRefused (S : Sys) (I : Ids) (w0 x1 : Value) (h : Hp) (R : Value → Hp → Prop) : Prop :=
  Eb (nw (Value.cells x1) I.t_simulcastlaw35_Act h) fun x3 h1 =>
  Vb (lnS w0) fun v17 =>
  Vb (bin .gtr v17 (Value.int IntKind.i64 48)) fun v18 =>
  Br v18 (
    S.C I.f_simulcastlaw35_awake [] h1 fun v19 h2 =>
    R v19 h2) (
    S.C I.f_simulcastlaw35_nodes [(Value.int IntKind.i64 4)] h1 fun v21 h3 =>
    Vb (ext 0 v21) fun v22 =>
    Vb (ext 1 v21) fun v23 =>
    Eb (nw #[Value.int IntKind.i64 0, Value.int IntKind.i64 0, Value.int IntKind.i64 0] I.t_pool_Pool h3) fun p5 h4 =>
    Eb (nw #[Value.slice none 0 0] I.t_model_Model h4) fun m6 h5 =>
    Sb (sto 3 p5 v22 h5) fun h6 =>
    Sb (sto 1 m6 v23 h6) fun h7 =>
    Eb (mmk h7) fun v24 h8 =>
    Vb (lda 1 m6 h8) fun v25 =>
    S.C I.f_model_Model_Words [v25] h8 fun v26 h9 =>
    Vb (lnS v26) fun v27 =>
    Lp1 (Value.int IntKind.i64 0) h9 fun v28 h10 again0 =>
    Vb (bin .lss v28 v27) fun v29 =>
    Br v29 (
      Jn0 (fun h11 =>
          Vb (bin .add v28 (Value.int IntKind.i64 1)) fun v45 =>
          again0 v45 h11) fun J0 =>
      Vb (bldS [(0, 1), (1, 1), (2, 1)] #[Value.int IntKind.i64 0, Value.int IntKind.u32 0, Value.int IntKind.u32 0] []) fun v33 =>
      Sb (mup (.int .i64) v24 v28 v33 h10) fun h12 =>
      Vb (lnS w0) fun v36 =>
      Vb (bin .lss v28 v36) fun v37 =>
      Br v37 (
        Vb (ixs 1 w0 v28) fun v42 =>
        Vb (ldc v42 h12) fun v43 =>
        Vb (bldS [(0, 1), (1, 1), (2, 1)] #[Value.int IntKind.i64 0, Value.int IntKind.u32 0, Value.int IntKind.u32 0] [(0, v43)]) fun v44 =>
        Sb (mup (.int .i64) v24 v28 v44 h12) fun h13 =>
        J0 h13) (
        J0 h12)) (
      S.C I.f_space_New [v24] h10 fun v47 h14 =>
      Vb (pos? (eqP v47 (Value.pointer none))) fun v49 =>
      Br v49 (
        R (Value.bool false) h14) (
        Vb (lda 3 x3 h14) fun v51 =>
        Vb (lda 3 p5 h14) fun v53 =>
        S.C I.f_simulcastlaw35_Act_do [v51, v47, v53] h14 fun v54 h15 =>
        Vb (ext 0 v54) fun v55 =>
        Vb (ext 1 v54) fun v56 =>
        Jn0 (fun h16 =>
            Vb (lda 3 p5 h16) fun v79 =>
            Vb (fa 1 x3) fun v80 =>
            Vb (ldc v80 h16) fun v81 =>
            S.C I.f_deque_Walk [v47, v79, (Value.int IntKind.i64 8), v81] h16 fun v82 h17 =>
            Vb (ext 0 v82) fun v83 =>
            Vb (ext 1 v82) fun v84 =>
            Jn1 (fun v4 h18 =>
                R v4 h18) fun J2 =>
            S.C I.f_simulcastlaw35_awake [] h17 fun v85 h19 =>
            Br v85 (
              Vb (bin .eql v84 (Value.int IntKind.i64 0)) fun v88 =>
              Br v88 (
                Vb (lnS v83) fun v91 =>
                Vb (bin .leq v91 (Value.int IntKind.i64 4)) fun v92 =>
                Br v92 (
                  J2 (Value.bool true) h19) (
                  Vb (bin .eql v84 (Value.int IntKind.i64 24)) fun v96 =>
                  Br v96 (
                    Vb (lnS v83) fun v99 =>
                    Vb (bin .eql v99 (Value.int IntKind.i64 0)) fun v100 =>
                    Br v100 (
                      J2 (Value.bool true) h19) (
                      S.C I.f_space_Space_Ended [v47] h19 fun v105 h20 =>
                      J2 v105 h20)) (
                    S.C I.f_space_Space_Ended [v47] h19 fun v105_1 h21 =>
                    J2 v105_1 h21))) (
                Vb (bin .eql v84 (Value.int IntKind.i64 24)) fun v96_1 =>
                Br v96_1 (
                  Vb (lnS v83) fun v99_1 =>
                  Vb (bin .eql v99_1 (Value.int IntKind.i64 0)) fun v100_1 =>
                  Br v100_1 (
                    J2 (Value.bool true) h19) (
                    S.C I.f_space_Space_Ended [v47] h19 fun v105_2 h22 =>
                    J2 v105_2 h22)) (
                  S.C I.f_space_Space_Ended [v47] h19 fun v105_3 h23 =>
                  J2 v105_3 h23))) (
              J2 (Value.bool false) h19)) fun J1 =>
        Vb (bin .neq v56 (Value.int IntKind.i64 0)) fun v58 =>
        Br v58 (
          S.C I.f_space_Space_Writes [v47] h15 fun v60 h24 =>
          Vb (lnS v60) fun v61 =>
          Lp1 (Value.int IntKind.i64 0) h24 fun v62 h25 again1 =>
          Vb (bin .lss v62 v61) fun v63 =>
          Br v63 (
            Vb (ixs 1 v60 v62) fun v64 =>
            Vb (ldc v64 h25) fun v65 =>
            Vb (lkm (.int .i64) (Value.agg #[Value.int IntKind.i64 0, Value.int IntKind.u32 0, Value.int IntKind.u32 0]) false v24 v65 h25) fun v71 =>
            Vb (fdc 0 v71) fun v72 =>
            S.C I.f_space_Space_Get [v47, v65] h25 fun v68 h26 =>
            lkm (.int .i64) (Value.agg #[Value.int IntKind.i64 0, Value.int IntKind.u32 0, Value.int IntKind.u32 0]) false v24 v65 h26 = some v71 ∧
            Vb (bin .neq v68 v72) fun v73 =>
            Br v73 (
              R (Value.bool false) h26) (
              Vb (bin .add v62 (Value.int IntKind.i64 1)) fun v74 =>
              again1 v74 h26)) (
            Vb (bin .neq v55 (Value.int IntKind.i64 0)) fun v76 =>
            Br v76 (
              R (Value.bool false) h25) (
              J1 h25))) (
          J1 h15))))

def F_simulcastlaw32_awake (S : Sys) (I : Ids) (h : Hp) (R : Value → Hp → Prop) : Prop :=
  Vb (bldA 1 #[Value.int IntKind.i64 0, Value.int IntKind.i64 0, Value.int IntKind.i64 0, Value.int IntKind.i64 0] [(0, (Value.int IntKind.i64 5))]) fun v6 =>
  S.C I.f_simulcastlaw32_words [v6] h fun v7 h1 =>
  Eb (nw #[Value.slice none 0 0] I.t_model_Model h1) fun m1 h2 =>
  Sb (sto 1 m1 v7 h2) fun h3 =>
  Eb (nw #[Value.int IntKind.i64 0] I.t_int64 h3) fun v2 h4 =>
  Sb (sto 1 v2 (Value.int IntKind.i64 0) h4) fun h5 =>
  Vb (lda 1 m1 h5) fun v9 =>
  Vb (some (.func (.func I.f_simulcastlaw32_awake_1) #[] #[v2])) fun v10 =>
  S.C I.f_simulcastlaw32_Told [v9, v10] h5 fun v11 h6 =>
  Vb (ext 0 v11) fun v12 =>
  Vb (ext 1 v11) fun v13 =>
  Sb (sto 1 m1 v12 h6) fun h7 =>
  Jn1 (fun w4 h8 =>
      Jn1 (fun v0 h9 =>
          R v0 h9) fun J1 =>
      Br v13 (
        Vb (ldc v2 h8) fun v22 =>
        Vb (bin .eql v22 (Value.int IntKind.i64 8)) fun v23 =>
        Br v23 (
          Vb (fa 0 w4) fun v26 =>
          Vb (ldc v26 h8) fun v27 =>
          Vb (bin .eql v27 (Value.int IntKind.i64 8)) fun v28 =>
          Br v28 (
            Vb (fa 1 w4) fun v31 =>
            Vb (ldc v31 h8) fun v32 =>
            Vb (bin .eql v32 (Value.int IntKind.u32 1)) fun v33 =>
            J1 v33 h8) (
            J1 (Value.bool false) h8)) (
          J1 (Value.bool false) h8)) (
        J1 (Value.bool false) h8)) fun J0 =>
  Vb (lda 1 m1 h7) fun v15 =>
  And (
    S.C I.f_simulcastlaw32_root [(Value.int IntKind.i64 0)] h7 fun v16 h10 =>
    lda 1 m1 h10 = some v15 ∧
    And (
      S.C I.f_model_Model_At [v15, v16] h10 fun v17 h11 =>
      Vb (ext 0 v17) fun v18 =>
      Vb (ext 1 v17) fun v19 =>
      Eb (nw #[Value.int IntKind.i64 0, Value.int IntKind.u32 0, Value.int IntKind.u32 0] I.t_api_Word h11) fun w4_1 h12 =>
      Sb (sto 3 w4_1 v18 h12) fun h13 =>
      J0 w4_1 h13) (
      Eb (nw #[Value.int IntKind.i64 0, Value.int IntKind.u32 0, Value.int IntKind.u32 0] I.t_api_Word h10) fun w4_2 h14 =>
      lda 1 m1 h14 = some v15 ∧
      S.C I.f_model_Model_At [v15, v16] h14 fun v17_1 h15 =>
      Vb (ext 0 v17_1) fun v18_1 =>
      Vb (ext 1 v17_1) fun v19_1 =>
      Sb (sto 3 w4_2 v18_1 h15) fun h16 =>
      J0 w4_2 h16)) (
    Eb (nw #[Value.int IntKind.i64 0, Value.int IntKind.u32 0, Value.int IntKind.u32 0] I.t_api_Word h7) fun w4_3 h17 =>
    lda 1 m1 h17 = some v15 ∧
    S.C I.f_simulcastlaw32_root [(Value.int IntKind.i64 0)] h17 fun v16_1 h18 =>
    lda 1 m1 h18 = some v15 ∧
    S.C I.f_model_Model_At [v15, v16_1] h18 fun v17_2 h19 =>
    Vb (ext 0 v17_2) fun v18_2 =>
    Vb (ext 1 v17_2) fun v19_2 =>
    Sb (sto 3 w4_3 v18_2 h19) fun h20 =>
    J0 w4_3 h20)

def F_simulcastlaw32_words (S : Sys) (I : Ids) (l0 : Value) (h : Hp) (R : Value → Hp → Prop) : Prop :=
  Eb (nw (Value.cells l0) I.t_4_int64 h) fun l1 h1 =>
  Eb (nw #[Value.slice none 0 0] I.t_model_Model h1) fun v2 h2 =>
  Eb (msl #[Value.int IntKind.i64 0, Value.int IntKind.u32 0, Value.int IntKind.u32 0] 3 16 I.t_api_Word (Value.int IntKind.i64 40) (Value.int IntKind.i64 40) h2) fun v6 h3 =>
  Vb (lda 4 l1 h3) fun v7 =>
  Lp1 (Value.int IntKind.i64 0) h3 fun v8 h4 again0 =>
  Vb (bin .lss v8 (Value.int IntKind.i64 4)) fun v9 =>
  Br v9 (
    Vb (idc 4 1 v7 v8) fun v11 =>
    S.C I.f_simulcastlaw32_root [v8] h4 fun v14 h5 =>
    Vb (ixs 3 v6 v14) fun v16 =>
    Vb (fa 0 v16) fun v17 =>
    Sb (sto 1 v17 v11 h5) fun h6 =>
    Vb (bin .add v8 (Value.int IntKind.i64 1)) fun v18 =>
    again0 v18 h6) (
    S.C I.f_model_New [v6] h4 fun v20 h7 =>
    Sb (sto 1 v2 v20 h7) fun h8 =>
    Vb (lda 1 v2 h8) fun r0 =>
    R r0 h8)

def F_simulcastlaw32_Told (S : Sys) (I : Ids) (m0 do1 : Value) (h : Hp) (R : Value → Hp → Prop) : Prop :=
  Eb (nw (Value.cells m0) I.t_model_Model h) fun m2 h1 =>
  Eb (nw #[Value.slice none 0 0] I.t_model_Model h1) fun v4 h2 =>
  Eb (mmk h2) fun v22 h3 =>
  Vb (lda 1 m2 h3) fun v23 =>
  S.C I.f_model_Model_Len [v23] h3 fun v24 h4 =>
  Vb (bin .add v24 (Value.int IntKind.i64 1)) fun v25 =>
  Lp2 v22 (Value.int IntKind.i64 0) h4 fun known6 v26 h5 again0 =>
  Vb (bin .lss v26 v25) fun v27 =>
  Br v27 (
    S.C I.f_space_New [known6] h5 fun v29 h6 =>
    Vb (pos? (eqP v29 (Value.pointer none))) fun v31 =>
    Br v31 (
      Vb (lda 1 m2 h6) fun v32 =>
      Sb (sto 1 v4 v32 h6) fun h7 =>
      Vb (lda 1 v4 h7) fun r0 =>
      R (.tuple #[r0, (Value.bool false)]) h7) (
      Cv S.C S.Y do1 [v29] h6 fun v35 h8 =>
      S.C I.f_space_Space_Need [v29] h8 fun v38 h9 =>
      Vb (ext 0 v38) fun v39 =>
      Vb (ext 1 v38) fun v40 =>
      Vb (uno .not v40) fun v42 =>
      Br v42 (
        S.C I.f_space_Space_Entries [v29] h9 fun v45 h10 =>
        Vb (ext 0 v45) fun v46 =>
        Vb (ext 1 v45) fun v47 =>
        Jn1 (fun v54 h11 =>
            Br v54 (
              Vb (lda 1 m2 h11) fun v55 =>
              Vb (bin .eql v47 (Value.int IntKind.i64 0)) fun v57 =>
              Sb (sto 1 v4 v55 h11) fun h12 =>
              Vb (lda 1 v4 h12) fun r0 =>
              R (.tuple #[r0, v57]) h12) (
              Vb (lda 1 m2 h11) fun v59 =>
              S.C I.f_model_Model_Swap [v59, v46] h11 fun v61 h13 =>
              Vb (ext 0 v61) fun v62 =>
              Vb (ext 1 v61) fun v63 =>
              Vb (ext 2 v61) fun v64 =>
              Eb (nw #[Value.slice none 0 0] I.t_model_Model h13) fun next12 h14 =>
              Sb (sto 1 next12 v62 h14) fun h15 =>
              Jn1 (fun v5 h16 =>
                  Vb (lda 1 v4 h16) fun r0 =>
                  R (.tuple #[r0, v5]) h16) fun J1 =>
              Vb (lda 1 next12 h15) fun v65 =>
              Br v63 (
                Vb (bin .eql v64 (Value.int IntKind.i64 0)) fun v69 =>
                Sb (sto 1 v4 v65 h15) fun h17 =>
                J1 v69 h17) (
                Sb (sto 1 v4 v65 h15) fun h18 =>
                J1 (Value.bool false) h18))) fun J0 =>
        Vb (bin .neq v47 (Value.int IntKind.i64 0)) fun v49 =>
        Br v49 (
          J0 (Value.bool true) h10) (
          Vb (lnS v46) fun v52 =>
          Vb (bin .eql v52 (Value.int IntKind.i64 0)) fun v53 =>
          J0 v53 h10)) (
        Vb (lda 1 m2 h9) fun v72 =>
        S.C I.f_model_Model_At [v72, v39] h9 fun v74 h19 =>
        Vb (ext 0 v74) fun v75 =>
        Vb (ext 1 v74) fun v76 =>
        Eb (nw #[Value.int IntKind.i64 0, Value.int IntKind.u32 0, Value.int IntKind.u32 0] I.t_api_Word h19) fun w15 h20 =>
        Sb (sto 3 w15 v75 h20) fun h21 =>
        Vb (lkm (.int .i64) (Value.agg #[Value.int IntKind.i64 0, Value.int IntKind.u32 0, Value.int IntKind.u32 0]) true known6 v39 h21) fun v80 =>
        Vb (ext 0 v80) fun v81 =>
        Vb (ext 1 v80) fun v82 =>
        Eb (nw #[Value.int IntKind.i64 0, Value.int IntKind.u32 0, Value.int IntKind.u32 0] I.t_api_Word h21) fun v17 h22 =>
        Sb (sto 3 v17 v81 h22) fun h23 =>
        Jn1 (fun v87 h24 =>
            Br v87 (
              Vb (lda 1 m2 h24) fun v88 =>
              Sb (sto 1 v4 v88 h24) fun h25 =>
              Vb (lda 1 v4 h25) fun r0 =>
              R (.tuple #[r0, (Value.bool false)]) h25) (
              Eb (mmk h24) fun v89 h26 =>
              Vb (lda 3 w15 h26) fun v91 =>
              Sb (mup (.int .i64) v89 v39 v91 h26) fun h27 =>
              Eb (rng known6 h27) fun v94 h28 =>
              Lp0 h28 fun h29 again1 =>
              Nx v94 h29 fun v95 h30 =>
              Vb (ext 0 v95) fun v96 =>
              Br v96 (
                Vb (ent v94 h30) fun v97 =>
                Vb (ext 0 v97) fun v98 =>
                Vb (ext 1 v97) fun v99 =>
                Eb (nw #[Value.int IntKind.i64 0, Value.int IntKind.u32 0, Value.int IntKind.u32 0] I.t_api_Word h30) fun x21 h31 =>
                Sb (sto 3 x21 v99 h31) fun h32 =>
                Vb (lda 3 x21 h32) fun v102 =>
                Sb (mup (.int .i64) v89 v98 v102 h32) fun h33 =>
                again1 h33) (
                Vb (bin .add v26 (Value.int IntKind.i64 1)) fun v104 =>
                again0 v89 v104 h30))) fun J2 =>
        Br v82 (
          J2 (Value.bool true) h23) (
          Vb (uno .not v76) fun v86 =>
          J2 v86 h23)))) (
    Vb (lda 1 m2 h5) fun v105 =>
    Sb (sto 1 v4 v105 h5) fun h34 =>
    Vb (lda 1 v4 h34) fun r0 =>
    R (.tuple #[r0, (Value.bool false)]) h34)

def F_simulcastlaw32_CounterActs_1 (S : Sys) (I : Ids) (s0 v1 v2 v3 : Value) (h : Hp) (R : Value → Hp → Prop) : Prop :=
  Vb (lda 4 v1 h) fun v6 =>
  S.C I.f_simulcastlaw32_Act_do [v6, s0] h fun v8 h1 =>
  Vb (ext 0 v8) fun v9 =>
  Vb (ext 1 v8) fun v10 =>
  Sb (sto 1 v2 v9 h1) fun h2 =>
  Sb (sto 1 v3 v10 h2) fun h3 =>
  R (.tuple #[]) h3

def F_simulcastlaw32_Act_do (S : Sys) (I : Ids) (x0 s1 : Value) (h : Hp) (R : Value → Hp → Prop) : Prop :=
  Eb (nw (Value.cells x0) I.t_simulcastlaw32_Act h) fun x2 h1 =>
  Vb (lda 4 x2 h1) fun v7 =>
  S.C I.f_simulcastlaw32_Act_ref [v7] h1 fun v8 h2 =>
  Eb (nw #[Value.int IntKind.i64 0, Value.int IntKind.i64 0, Value.int IntKind.i64 0, Value.int IntKind.i64 0] I.t_simulcastref32_Act h2) fun r6 h3 =>
  Sb (sto 4 r6 v8 h3) fun h4 =>
  Vb (fa 0 r6) fun v9 =>
  Vb (ldc v9 h4) fun v10 =>
  Vb (bin .eql v10 (Value.int IntKind.i64 0)) fun v12 =>
  Br v12 (
    Vb (fa 1 r6) fun v14 =>
    Vb (ldc v14 h4) fun v15 =>
    S.C I.f_simulcastlaw32_root [v15] h4 fun v16 h5 =>
    S.C I.f_counter_Get [s1, v16] h5 fun v17 h6 =>
    R (.tuple #[v17, (Value.int IntKind.i64 0)]) h6) (
    Vb (bin .eql v10 (Value.int IntKind.i64 1)) fun v19 =>
    Br v19 (
      Vb (fa 1 r6) fun v21 =>
      Vb (ldc v21 h4) fun v22 =>
      Vb (fa 3 x2) fun v24 =>
      Vb (ldc v24 h4) fun v25 =>
      S.C I.f_simulcastlaw32_root [v22] h4 fun v23 h7 =>
      ldc v24 h7 = some v25 ∧
      S.C I.f_counter_Add [s1, v23, v25] h7 fun v26 h8 =>
      Vb (ext 0 v26) fun v27 =>
      Vb (ext 1 v26) fun v28 =>
      R (.tuple #[v27, v28]) h8) (
      Vb (bin .eql v10 (Value.int IntKind.i64 2)) fun v30 =>
      Br v30 (
        Vb (fa 1 r6) fun v32 =>
        Vb (ldc v32 h4) fun v33 =>
        Vb (fa 3 x2) fun v35 =>
        Vb (ldc v35 h4) fun v36 =>
        S.C I.f_simulcastlaw32_root [v33] h4 fun v34 h9 =>
        ldc v35 h9 = some v36 ∧
        S.C I.f_counter_Set [s1, v34, v36] h9 fun v37 h10 =>
        R (.tuple #[v37, (Value.int IntKind.i64 0)]) h10) (
        Vb (fa 1 r6) fun v39 =>
        Vb (ldc v39 h4) fun v40 =>
        Vb (fa 2 r6) fun v42 =>
        Vb (ldc v42 h4) fun v43 =>
        Vb (fa 3 x2) fun v45 =>
        Vb (ldc v45 h4) fun v46 =>
        S.C I.f_simulcastlaw32_root [v40] h4 fun v41 h11 =>
        ldc v45 h11 = some v46 ∧
        ldc v42 h11 = some v43 ∧
        S.C I.f_simulcastlaw32_root [v43] h11 fun v44 h12 =>
        ldc v45 h12 = some v46 ∧
        S.C I.f_counter_Move [s1, v41, v44, v46] h12 fun v47 h13 =>
        R (.tuple #[(Value.int IntKind.i64 0), v47]) h13)))

def F_simulcastref32_Do (S : Sys) (I : Ids) (l0 x1 : Value) (h : Hp) (R : Value → Hp → Prop) : Prop :=
  Eb (nw (Value.cells x1) I.t_simulcastref32_Act h) fun x3 h1 =>
  Ap I.t_int64 #[Value.int IntKind.i64 0] 1 8 (Value.slice none 0 0) l0 h1 fun v11 h2 =>
  Vb (fa 1 x3) fun v13 =>
  Vb (ldc v13 h2) fun v14 =>
  Vb (ixs 1 l0 v14) fun v15 =>
  Vb (ldc v15 h2) fun v16 =>
  Vb (fa 0 x3) fun v17 =>
  Vb (ldc v17 h2) fun v18 =>
  Vb (bin .eql v18 (Value.int IntKind.i64 0)) fun v19 =>
  Br v19 (
    R (.tuple #[v11, v16, (Value.int IntKind.i64 0)]) h2) (
    Vb (fa 0 x3) fun v22 =>
    Vb (ldc v22 h2) fun v23 =>
    Vb (bin .eql v23 (Value.int IntKind.i64 1)) fun v24 =>
    Br v24 (
      Vb (fa 3 x3) fun v26 =>
      Vb (ldc v26 h2) fun v27 =>
      S.C I.f_simulcastref32_fits [v16, v27] h2 fun v28 h3 =>
      Vb (uno .not v28) fun v29 =>
      Br v29 (
        R (.tuple #[v11, (Value.int IntKind.i64 0), (Value.int IntKind.i64 9)]) h3) (
        Vb (fa 1 x3) fun v32 =>
        Vb (ldc v32 h3) fun v33 =>
        Vb (fa 3 x3) fun v35 =>
        Vb (ldc v35 h3) fun v36 =>
        Vb (bin .add v16 v36) fun v37 =>
        Vb (ixs 1 v11 v33) fun v38 =>
        Sb (sto 1 v38 v37 h3) fun h4 =>
        Vb (fa 3 x3) fun v41 =>
        Vb (ldc v41 h4) fun v42 =>
        Vb (bin .add v16 v42) fun v43 =>
        R (.tuple #[v11, v43, (Value.int IntKind.i64 0)]) h4)) (
      Vb (fa 0 x3) fun v44 =>
      Vb (ldc v44 h2) fun v45 =>
      Vb (bin .eql v45 (Value.int IntKind.i64 2)) fun v46 =>
      Br v46 (
        Vb (fa 1 x3) fun v48 =>
        Vb (ldc v48 h2) fun v49 =>
        Vb (fa 3 x3) fun v50 =>
        Vb (ldc v50 h2) fun v51 =>
        Vb (ixs 1 v11 v49) fun v52 =>
        Sb (sto 1 v52 v51 h2) fun h5 =>
        R (.tuple #[v11, v16, (Value.int IntKind.i64 0)]) h5) (
        Vb (fa 3 x3) fun v55 =>
        Vb (ldc v55 h2) fun v56 =>
        Vb (bin .lss v56 (Value.int IntKind.i64 0)) fun v57 =>
        Br v57 (
          R (.tuple #[v11, (Value.int IntKind.i64 0), (Value.int IntKind.i64 4)]) h2) (
          Vb (fa 3 x3) fun v60 =>
          Vb (ldc v60 h2) fun v61 =>
          Vb (bin .lss v16 v61) fun v62 =>
          Br v62 (
            R (.tuple #[v11, (Value.int IntKind.i64 0), (Value.int IntKind.i64 8)]) h2) (
            Vb (fa 1 x3) fun v64 =>
            Vb (ldc v64 h2) fun v65 =>
            Vb (fa 2 x3) fun v66 =>
            Vb (ldc v66 h2) fun v67 =>
            Vb (bin .eql v65 v67) fun v68 =>
            Br v68 (
              R (.tuple #[v11, (Value.int IntKind.i64 0), (Value.int IntKind.i64 0)]) h2) (
              Vb (fa 2 x3) fun v71 =>
              Vb (ldc v71 h2) fun v72 =>
              Vb (ixs 1 l0 v72) fun v73 =>
              Vb (ldc v73 h2) fun v74 =>
              Vb (fa 3 x3) fun v75 =>
              Vb (ldc v75 h2) fun v76 =>
              S.C I.f_simulcastref32_fits [v74, v76] h2 fun v77 h6 =>
              Vb (uno .not v77) fun v78 =>
              Br v78 (
                R (.tuple #[v11, (Value.int IntKind.i64 0), (Value.int IntKind.i64 9)]) h6) (
                Vb (fa 1 x3) fun v81 =>
                Vb (ldc v81 h6) fun v82 =>
                Vb (fa 3 x3) fun v84 =>
                Vb (ldc v84 h6) fun v85 =>
                Vb (bin .sub v16 v85) fun v86 =>
                Vb (ixs 1 v11 v82) fun v87 =>
                Sb (sto 1 v87 v86 h6) fun h7 =>
                Vb (fa 2 x3) fun v89 =>
                Vb (ldc v89 h7) fun v90 =>
                Vb (fa 2 x3) fun v92 =>
                Vb (ldc v92 h7) fun v93 =>
                Vb (ixs 1 l0 v93) fun v94 =>
                Vb (ldc v94 h7) fun v95 =>
                Vb (fa 3 x3) fun v96 =>
                Vb (ldc v96 h7) fun v97 =>
                Vb (bin .add v95 v97) fun v98 =>
                Vb (ixs 1 v11 v90) fun v99 =>
                Sb (sto 1 v99 v98 h7) fun h8 =>
                R (.tuple #[v11, (Value.int IntKind.i64 0), (Value.int IntKind.i64 0)]) h8)))))))

def F_simulcastlaw32_Act_ref (S : Sys) (I : Ids) (x0 : Value) (h : Hp) (R : Value → Hp → Prop) : Prop :=
  Eb (nw (Value.cells x0) I.t_simulcastlaw32_Act h) fun x1 h1 =>
  Eb (nw #[Value.int IntKind.i64 0, Value.int IntKind.i64 0, Value.int IntKind.i64 0, Value.int IntKind.i64 0] I.t_simulcastref32_Act h1) fun v2 h2 =>
  Vb (fa 0 x1) fun v3 =>
  Vb (ldc v3 h2) fun v4 =>
  Vb (bin .rem v4 (Value.int IntKind.u8 4)) fun v5 =>
  Vb (cvi .i64 v5) fun v6 =>
  Vb (fa 1 x1) fun v7 =>
  Vb (ldc v7 h2) fun v8 =>
  Vb (bin .rem v8 (Value.int IntKind.u8 4)) fun v9 =>
  Vb (cvi .i64 v9) fun v10 =>
  Vb (fa 2 x1) fun v11 =>
  Vb (ldc v11 h2) fun v12 =>
  Vb (bin .rem v12 (Value.int IntKind.u8 4)) fun v13 =>
  Vb (cvi .i64 v13) fun v14 =>
  Vb (fa 3 x1) fun v15 =>
  Vb (ldc v15 h2) fun v16 =>
  Vb (bldS [(0, 1), (1, 1), (2, 1), (3, 1)] #[Value.int IntKind.i64 0, Value.int IntKind.i64 0, Value.int IntKind.i64 0, Value.int IntKind.i64 0] [(0, v6), (1, v10), (2, v14), (3, v16)]) fun v17 =>
  Sb (sto 4 v2 v17 h2) fun h3 =>
  Vb (lda 4 v2 h3) fun r0 =>
  R r0 h3

def F_simulcastlaw32_is (S : Sys) (I : Ids) (m0 l1 : Value) (h : Hp) (R : Value → Hp → Prop) : Prop :=
  Eb (nw (Value.cells m0) I.t_model_Model h) fun m2 h1 =>
  Vb (lnS l1) fun v10 =>
  Lp1 (Value.int IntKind.i64 0) h1 fun v11 h2 again0 =>
  Vb (bin .lss v11 v10) fun v12 =>
  Br v12 (
    Vb (ixs 1 l1 v11) fun v14 =>
    Vb (ldc v14 h2) fun v15 =>
    Jn2 (fun w7 ok8 h3 =>
        Jn1 (fun v30 h4 =>
            Br v30 (
              R (Value.bool false) h4) (
              Vb (bin .add v11 (Value.int IntKind.i64 1)) fun v31 =>
              again0 v31 h4)) fun J1 =>
        Vb (uno .not ok8) fun v24 =>
        Br v24 (
          J1 (Value.bool true) h3) (
          Vb (fa 0 w7) fun v26 =>
          Vb (ldc v26 h3) fun v27 =>
          Vb (bin .neq v27 v15) fun v29 =>
          J1 v29 h3)) fun J0 =>
    Vb (lda 1 m2 h2) fun v17 =>
    And (
      S.C I.f_simulcastlaw32_root [v11] h2 fun v19 h5 =>
      lda 1 m2 h5 = some v17 ∧
      And (
        S.C I.f_model_Model_At [v17, v19] h5 fun v20 h6 =>
        Vb (ext 0 v20) fun v21 =>
        Vb (ext 1 v20) fun v22 =>
        Eb (nw #[Value.int IntKind.i64 0, Value.int IntKind.u32 0, Value.int IntKind.u32 0] I.t_api_Word h6) fun w7_1 h7 =>
        Sb (sto 3 w7_1 v21 h7) fun h8 =>
        J0 w7_1 v22 h8) (
        Eb (nw #[Value.int IntKind.i64 0, Value.int IntKind.u32 0, Value.int IntKind.u32 0] I.t_api_Word h5) fun w7_2 h9 =>
        lda 1 m2 h9 = some v17 ∧
        S.C I.f_model_Model_At [v17, v19] h9 fun v20_1 h10 =>
        Vb (ext 0 v20_1) fun v21_1 =>
        Vb (ext 1 v20_1) fun v22_1 =>
        Sb (sto 3 w7_2 v21_1 h10) fun h11 =>
        J0 w7_2 v22_1 h11)) (
      Eb (nw #[Value.int IntKind.i64 0, Value.int IntKind.u32 0, Value.int IntKind.u32 0] I.t_api_Word h2) fun w7_3 h12 =>
      lda 1 m2 h12 = some v17 ∧
      S.C I.f_simulcastlaw32_root [v11] h12 fun v19_1 h13 =>
      lda 1 m2 h13 = some v17 ∧
      S.C I.f_model_Model_At [v17, v19_1] h13 fun v20_2 h14 =>
      Vb (ext 0 v20_2) fun v21_2 =>
      Vb (ext 1 v20_2) fun v22_2 =>
      Sb (sto 3 w7_3 v21_2 h14) fun h15 =>
      J0 w7_3 v22_2 h15)) (
    R (Value.bool true) h2)

def F_simulcastlaw32_CounterSums_1 (S : Sys) (I : Ids) (s0 v1 : Value) (h : Hp) (R : Value → Hp → Prop) : Prop :=
  Vb (lda 4 v1 h) fun v3 =>
  S.C I.f_simulcastlaw32_Act_do [v3, s0] h fun v5 h1 =>
  R (.tuple #[]) h1

def F_model_Model_At (S : Sys) (I : Ids) (m0 at1 : Value) (h : Hp) (R : Value → Hp → Prop) : Prop :=
  Eb (nw (Value.cells m0) I.t_model_Model h) fun m2 h1 =>
  Eb (nw #[Value.int IntKind.i64 0, Value.int IntKind.u32 0, Value.int IntKind.u32 0] I.t_api_Word h1) fun v4 h2 =>
  Jn1 (fun v14 h3 =>
      Br v14 (
        Vb (bldS [(0, 1), (1, 1), (2, 1)] #[Value.int IntKind.i64 0, Value.int IntKind.u32 0, Value.int IntKind.u32 0] []) fun v15 =>
        Sb (sto 3 v4 v15 h3) fun h4 =>
        Vb (lda 3 v4 h4) fun r0 =>
        R (.tuple #[r0, (Value.bool false)]) h4) (
        Vb (fa 0 m2) fun v16 =>
        Vb (ldc v16 h3) fun v17 =>
        Vb (ixs 3 v17 at1) fun v19 =>
        Vb (lda 3 v19 h3) fun v20 =>
        Sb (sto 3 v4 v20 h3) fun h5 =>
        Vb (lda 3 v4 h5) fun r0 =>
        R (.tuple #[r0, (Value.bool true)]) h5)) fun J0 =>
  Vb (bin .lss at1 (Value.int IntKind.i64 0)) fun v7 =>
  Br v7 (
    J0 (Value.bool true) h2) (
    Vb (fa 0 m2) fun v10 =>
    Vb (ldc v10 h2) fun v11 =>
    Vb (lnS v11) fun v12 =>
    Vb (bin .geq at1 v12) fun v13 =>
    J0 v13 h2)

def F_simulcastlaw32_root (S : Sys) (I : Ids) (n0 : Value) (h : Hp) (R : Value → Hp → Prop) : Prop :=
  Vb (bin .mul (Value.int IntKind.i64 8) n0) fun v4 =>
  Vb (bin .add v4 (Value.int IntKind.i64 3)) fun v5 =>
  R v5 h

def F_space_New (S : Sys) (I : Ids) (known0 : Value) (h : Hp) (R : Value → Hp → Prop) : Prop :=
  Eb (mmk h) fun v6 h1 =>
  Eb (mmk h1) fun v7 h2 =>
  Vb (bldS [(0, 1), (1, 1), (2, 1), (3, 1), (4, 1)] #[Value.map none, Value.map none, Value.slice none 0 0, Value.int IntKind.i64 0, Value.bool false] [(0, v6), (1, v7)]) fun v8 =>
  Eb (nw (Value.cells v8) I.t_space_Space h2) fun v9 h3 =>
  Eb (rng known0 h3) fun v11 h4 =>
  Lp0 h4 fun h5 again0 =>
  Nx v11 h5 fun v12 h6 =>
  Vb (ext 0 v12) fun v13 =>
  Br v13 (
    Vb (ent v11 h6) fun v14 =>
    Vb (ext 0 v14) fun v15 =>
    Vb (ext 1 v14) fun v16 =>
    Eb (nw #[Value.int IntKind.i64 0, Value.int IntKind.u32 0, Value.int IntKind.u32 0] I.t_api_Word h6) fun w5 h7 =>
    Sb (sto 3 w5 v16 h7) fun h8 =>
    Vb (fa 2 w5) fun v17 =>
    Vb (ldc v17 h8) fun v18 =>
    Vb (bin .eql v18 (Value.int IntKind.u32 0)) fun v19 =>
    Br v19 (
      Vb (nck v9) fun v21 =>
      Vb (fa 0 v21) fun v22 =>
      Vb (ldc v22 h8) fun v23 =>
      Vb (lda 3 w5 h8) fun v25 =>
      Sb (mup (.int .i64) v23 v15 v25 h8) fun h9 =>
      again0 h9) (
      again0 h8)) (
    R v9 h6)

def F_counter_Set (S : Sys) (I : Ids) (s0 root1 n2 : Value) (h : Hp) (R : Value → Hp → Prop) : Prop :=
  S.C I.f_counter_Get [s0, root1] h fun v10 h1 =>
  S.C I.f_space_Space_Put [s0, root1, n2] h1 fun v14 h2 =>
  R v10 h2

def F_counter_Get (S : Sys) (I : Ids) (s0 root1 : Value) (h : Hp) (R : Value → Hp → Prop) : Prop :=
  S.C I.f_space_Space_Get [s0, root1] h fun v7 h1 =>
  R v7 h1

def F_counter_Add (S : Sys) (I : Ids) (s0 root1 n2 : Value) (h : Hp) (R : Value → Hp → Prop) : Prop :=
  S.C I.f_counter_Get [s0, root1] h fun v11 h1 =>
  S.C I.f_counter_fits [v11, n2] h1 fun v14 h2 =>
  Vb (uno .not v14) fun v15 =>
  Br v15 (
    R (.tuple #[(Value.int IntKind.i64 0), (Value.int IntKind.i64 9)]) h2) (
    Vb (bin .add v11 n2) fun v20 =>
    S.C I.f_space_Space_Put [s0, root1, v20] h2 fun v21 h3 =>
    Vb (bin .add v11 n2) fun v24 =>
    R (.tuple #[v24, (Value.int IntKind.i64 0)]) h3)

def F_space_Space_Reads (S : Sys) (I : Ids) (s0 : Value) (h : Hp) (R : Value → Hp → Prop) : Prop :=
  Vb (pos? (eqP s0 (Value.pointer none))) fun v6 =>
  Br v6 (
    R (Value.slice none 0 0) h) (
    Vb (nck s0) fun v9 =>
    Vb (fa 1 v9) fun v10 =>
    Vb (ldc v10 h) fun v11 =>
    Eb (rng v11 h) fun v12 h1 =>
    Lp1 (Value.slice none 0 0) h1 fun out3 h2 again0 =>
    Nx v12 h2 fun v13 h3 =>
    Vb (ext 0 v13) fun v14 =>
    Br v14 (
      Vb (ent v12 h3) fun v15 =>
      Vb (ext 0 v15) fun v16 =>
      Eb (bsl #[Value.int IntKind.i64 0] 1 1 I.t_api_Loc [(0, v16)] h3) fun v19 h4 =>
      Ap I.t_api_Loc #[Value.int IntKind.i64 0] 1 8 out3 v19 h4 fun v20 h5 =>
      again0 v20 h5) (
      S.C I.f_slices_Sort_api_Loc_api_Loc [out3] h3 fun v22 h6 =>
      R out3 h6))

def F_space_Space_Writes (S : Sys) (I : Ids) (s0 : Value) (h : Hp) (R : Value → Hp → Prop) : Prop :=
  Vb (pos? (eqP s0 (Value.pointer none))) fun v7 =>
  Br v7 (
    R (Value.slice none 0 0) h) (
    Vb (nck s0) fun v10 =>
    Vb (fa 2 v10) fun v11 =>
    Vb (ldc v11 h) fun v12 =>
    Vb (lnS v12) fun v13 =>
    Lp2 (Value.slice none 0 0) (Value.int IntKind.i64 0) h fun out3 v14 h1 again0 =>
    Vb (bin .lss v14 v13) fun v15 =>
    Br v15 (
      Vb (ixs 2 v12 v14) fun v16 =>
      Vb (lda 2 v16 h1) fun v17 =>
      Eb (nw #[Value.int IntKind.i64 0, Value.int IntKind.i64 0] I.t_space_put h1) fun p5 h2 =>
      Sb (sto 2 p5 v17 h2) fun h3 =>
      Vb (fa 0 p5) fun v19 =>
      Vb (ldc v19 h3) fun v20 =>
      Eb (bsl #[Value.int IntKind.i64 0] 1 1 I.t_api_Loc [(0, v20)] h3) fun v21 h4 =>
      Ap I.t_api_Loc #[Value.int IntKind.i64 0] 1 8 out3 v21 h4 fun v22 h5 =>
      Vb (bin .add v14 (Value.int IntKind.i64 1)) fun v23 =>
      again0 v22 v23 h5) (
      S.C I.f_slices_Sort_api_Loc_api_Loc [out3] h1 fun v25 h6 =>
      S.C I.f_slices_Compact_api_Loc_api_Loc [out3] h6 fun v27 h7 =>
      R v27 h7))

def F_counter_Move (S : Sys) (I : Ids) (s0 from1 to2 n3 : Value) (h : Hp) (R : Value → Hp → Prop) : Prop :=
  Vb (bin .lss n3 (Value.int IntKind.i64 0)) fun v12 =>
  Br v12 (
    R (Value.int IntKind.i64 4) h) (
    S.C I.f_counter_Get [s0, from1] h fun v15 h1 =>
    Vb (bin .lss v15 n3) fun v18 =>
    Br v18 (
      R (Value.int IntKind.i64 8) h1) (
      Vb (bin .eql from1 to2) fun v21 =>
      Br v21 (
        R (Value.int IntKind.i64 0) h1) (
        S.C I.f_counter_Get [s0, to2] h1 fun v24 h2 =>
        S.C I.f_counter_fits [v24, n3] h2 fun v27 h3 =>
        Vb (uno .not v27) fun v28 =>
        Br v28 (
          R (Value.int IntKind.i64 9) h3) (
          Vb (bin .sub v15 n3) fun v33 =>
          S.C I.f_space_Space_Put [s0, from1, v33] h3 fun v34 h4 =>
          Vb (bin .add v24 n3) fun v39 =>
          S.C I.f_space_Space_Put [s0, to2, v39] h4 fun v40 h5 =>
          R (Value.int IntKind.i64 0) h5))))

def F_simulcastlaw35_awake (S : Sys) (I : Ids) (h : Hp) (R : Value → Hp → Prop) : Prop :=
  S.C I.f_simulcastlaw35_nodes [(Value.int IntKind.i64 3)] h fun v9 h1 =>
  Vb (ext 0 v9) fun v10 =>
  Vb (ext 1 v9) fun v11 =>
  Eb (nw #[Value.int IntKind.i64 0, Value.int IntKind.i64 0, Value.int IntKind.i64 0] I.t_pool_Pool h1) fun p1 h2 =>
  Eb (nw #[Value.slice none 0 0] I.t_model_Model h2) fun m2 h3 =>
  Sb (sto 3 p1 v10 h3) fun h4 =>
  Sb (sto 1 m2 v11 h4) fun h5 =>
  Vb (bldS [(0, 1), (1, 1), (2, 1)] #[Value.int IntKind.u8 0, Value.bool false, Value.int IntKind.i64 0] [(1, (Value.bool true)), (2, (Value.int IntKind.i64 1))]) fun v12 =>
  Vb (bldS [(0, 1), (1, 1), (2, 1)] #[Value.int IntKind.u8 0, Value.bool false, Value.int IntKind.i64 0] [(1, (Value.bool true)), (2, (Value.int IntKind.i64 2))]) fun v13 =>
  Vb (bldS [(0, 1), (1, 1), (2, 1)] #[Value.int IntKind.u8 0, Value.bool false, Value.int IntKind.i64 0] [(2, (Value.int IntKind.i64 3))]) fun v14 =>
  Eb (bsl #[Value.int IntKind.u8 0, Value.bool false, Value.int IntKind.i64 0] 3 3 I.t_simulcastlaw35_Act [(0, v12), (1, v13), (2, v14)] h5) fun v15 h6 =>
  Vb (lnS v15) fun v16 =>
  Lp2 (Value.bool true) (Value.int IntKind.i64 0) h6 fun ok3 v17 h7 again0 =>
  Vb (bin .lss v17 v16) fun v18 =>
  Br v18 (
    Jn1 (fun ok3_1 h8 =>
        Vb (bin .add v17 (Value.int IntKind.i64 1)) fun v32 =>
        again0 ok3_1 v32 h8) fun J0 =>
    Vb (ixs 3 v15 v17) fun v19 =>
    Vb (lda 3 v19 h7) fun v20 =>
    Eb (nw #[Value.int IntKind.u8 0, Value.bool false, Value.int IntKind.i64 0] I.t_simulcastlaw35_Act h7) fun x5 h9 =>
    Sb (sto 3 x5 v20 h9) fun h10 =>
    Vb (lda 1 m2 h10) fun v22 =>
    Vb (some (.func (.func I.f_simulcastlaw35_awake_1) #[] #[x5, p1])) fun v23 =>
    S.C I.f_simulcastlaw32_Told [v22, v23] h10 fun v24 h11 =>
    Vb (ext 0 v24) fun v25 =>
    Vb (ext 1 v24) fun v26 =>
    Eb (nw #[Value.slice none 0 0] I.t_model_Model h11) fun next6 h12 =>
    Sb (sto 1 next6 v25 h12) fun h13 =>
    Vb (lda 1 next6 h13) fun v27 =>
    Br ok3 (
      Sb (sto 1 m2 v27 h13) fun h14 =>
      J0 v26 h14) (
      Sb (sto 1 m2 v27 h13) fun h15 =>
      J0 (Value.bool false) h15)) (
    Jn1 (fun v0 h16 =>
        R v0 h16) fun J1 =>
    Br ok3 (
      Vb (lda 1 m2 h7) fun v35 =>
      Vb (lda 3 p1 h7) fun v36 =>
      Eb (bsl #[Value.int IntKind.i64 0] 1 3 I.t_int64 [(0, (Value.int IntKind.i64 3)), (1, (Value.int IntKind.i64 1)), (2, (Value.int IntKind.i64 2))] h7) fun v37 h17 =>
      S.C I.f_simulcastlaw35_is [v35, v36, v37] h17 fun v38 h18 =>
      J1 v38 h18) (
      J1 (Value.bool false) h7))

def F_simulcastlaw35_nodes (S : Sys) (I : Ids) (n0 : Value) (h : Hp) (R : Value → Hp → Prop) : Prop :=
  Eb (nw #[Value.int IntKind.i64 0, Value.int IntKind.i64 0, Value.int IntKind.i64 0] I.t_pool_Pool h) fun v2 h1 =>
  Eb (nw #[Value.slice none 0 0] I.t_model_Model h1) fun v3 h2 =>
  Vb (bldS [(0, 1), (1, 1), (2, 1)] #[Value.int IntKind.i64 0, Value.int IntKind.i64 0, Value.int IntKind.i64 0] [(0, (Value.int IntKind.i64 0)), (1, (Value.int IntKind.i64 16)), (2, n0)]) fun v5 =>
  Vb (bin .mul (Value.int IntKind.i64 8) n0) fun v7 =>
  Vb (bin .add (Value.int IntKind.i64 16) v7) fun v8 =>
  Eb (msl #[Value.int IntKind.i64 0, Value.int IntKind.u32 0, Value.int IntKind.u32 0] 3 16 I.t_api_Word v8 v8 h2) fun v9 h3 =>
  S.C I.f_model_New [v9] h3 fun v10 h4 =>
  Sb (sto 3 v2 v5 h4) fun h5 =>
  Sb (sto 1 v3 v10 h5) fun h6 =>
  Vb (lda 3 v2 h6) fun r0 =>
  Vb (lda 1 v3 h6) fun r1 =>
  R (.tuple #[r0, r1]) h6

def F_simulcastlaw35_DequeActs_1 (S : Sys) (I : Ids) (s0 v1 v2 v3 v4 : Value) (h : Hp) (R : Value → Hp → Prop) : Prop :=
  Vb (lda 3 v1 h) fun v7 =>
  Vb (lda 3 v2 h) fun v9 =>
  S.C I.f_simulcastlaw35_Act_do [v7, s0, v9] h fun v10 h1 =>
  Vb (ext 0 v10) fun v11 =>
  Vb (ext 1 v10) fun v12 =>
  Sb (sto 1 v3 v11 h1) fun h2 =>
  Sb (sto 1 v4 v12 h2) fun h3 =>
  R (.tuple #[]) h3

def F_simulcastlaw35_Act_do (S : Sys) (I : Ids) (x0 s1 p2 : Value) (h : Hp) (R : Value → Hp → Prop) : Prop :=
  Eb (nw (Value.cells x0) I.t_simulcastlaw35_Act h) fun x3 h1 =>
  Eb (nw (Value.cells p2) I.t_pool_Pool h1) fun p5 h2 =>
  Vb (fa 0 x3) fun v8 =>
  Vb (ldc v8 h2) fun v9 =>
  Vb (bin .rem v9 (Value.int IntKind.u8 4)) fun v10 =>
  Vb (bin .eql v10 (Value.int IntKind.u8 2)) fun v12 =>
  Br v12 (
    Vb (lda 3 p5 h2) fun v14 =>
    Vb (fa 1 x3) fun v15 =>
    Vb (ldc v15 h2) fun v16 =>
    S.C I.f_deque_Pop [s1, v14, (Value.int IntKind.i64 8), v16] h2 fun v17 h3 =>
    Vb (ext 0 v17) fun v18 =>
    Vb (ext 1 v17) fun v19 =>
    R (.tuple #[v18, v19]) h3) (
    Vb (bin .eql v10 (Value.int IntKind.u8 3)) fun v21 =>
    Br v21 (
      Vb (fa 1 x3) fun v23 =>
      Vb (ldc v23 h2) fun v24 =>
      S.C I.f_deque_Peek [s1, (Value.int IntKind.i64 8), v24] h2 fun v25 h4 =>
      Vb (ext 0 v25) fun v26 =>
      Vb (ext 1 v25) fun v27 =>
      R (.tuple #[v26, v27]) h4) (
      Vb (lda 3 p5 h2) fun v29 =>
      Vb (fa 1 x3) fun v30 =>
      Vb (ldc v30 h2) fun v31 =>
      Vb (fa 2 x3) fun v32 =>
      Vb (ldc v32 h2) fun v33 =>
      S.C I.f_deque_Push [s1, v29, (Value.int IntKind.i64 8), v31, v33] h2 fun v34 h5 =>
      R (.tuple #[(Value.int IntKind.i64 0), v34]) h5))

def F_simulcastlaw35_Act_ref (S : Sys) (I : Ids) (x0 l1 n2 : Value) (h : Hp) (R : Value → Hp → Prop) : Prop :=
  Eb (nw (Value.cells x0) I.t_simulcastlaw35_Act h) fun x3 h1 =>
  Jn1 (fun v9 h2 =>
      Br v9 (
        R (.tuple #[l1, (Value.int IntKind.i64 0), (Value.int IntKind.i64 9)]) h2) (
        Vb (fa 0 x3) fun v22 =>
        Vb (ldc v22 h2) fun v23 =>
        Vb (bin .rem v23 (Value.int IntKind.u8 4)) fun v24 =>
        Vb (bin .lss v24 (Value.int IntKind.u8 2)) fun v25 =>
        Br v25 (
          Vb (fa 1 x3) fun v27 =>
          Vb (ldc v27 h2) fun v28 =>
          Vb (fa 2 x3) fun v29 =>
          Vb (ldc v29 h2) fun v30 =>
          S.C I.f_simulcastref35_Push [l1, v28, v30] h2 fun v31 h3 =>
          R (.tuple #[v31, (Value.int IntKind.i64 0), (Value.int IntKind.i64 0)]) h3) (
          Vb (lnS l1) fun v34 =>
          Vb (bin .eql v34 (Value.int IntKind.i64 0)) fun v35 =>
          Br v35 (
            R (.tuple #[l1, (Value.int IntKind.i64 0), (Value.int IntKind.i64 8)]) h2) (
            Vb (fa 0 x3) fun v38 =>
            Vb (ldc v38 h2) fun v39 =>
            Vb (bin .rem v39 (Value.int IntKind.u8 4)) fun v40 =>
            Vb (bin .eql v40 (Value.int IntKind.u8 2)) fun v41 =>
            Br v41 (
              Vb (fa 1 x3) fun v43 =>
              Vb (ldc v43 h2) fun v44 =>
              Vb (fa 1 x3) fun v47 =>
              Vb (ldc v47 h2) fun v48 =>
              S.C I.f_simulcastref35_Pop [l1, v44] h2 fun v45 h4 =>
              ldc v47 h4 = some v48 ∧
              S.C I.f_simulcastref35_Peek [l1, v48] h4 fun v49 h5 =>
              R (.tuple #[v45, v49, (Value.int IntKind.i64 0)]) h5) (
              Vb (fa 1 x3) fun v52 =>
              Vb (ldc v52 h2) fun v53 =>
              S.C I.f_simulcastref35_Peek [l1, v53] h2 fun v54 h6 =>
              R (.tuple #[l1, v54, (Value.int IntKind.i64 0)]) h6))))) fun J0 =>
  Vb (fa 0 x3) fun v10 =>
  Vb (ldc v10 h1) fun v11 =>
  Vb (bin .rem v11 (Value.int IntKind.u8 4)) fun v12 =>
  Vb (bin .lss v12 (Value.int IntKind.u8 2)) fun v13 =>
  Br v13 (
    Vb (lnS l1) fun v16 =>
    Vb (bin .geq v16 n2) fun v18 =>
    J0 v18 h1) (
    J0 (Value.bool false) h1)

def F_simulcastlaw35_is (S : Sys) (I : Ids) (m0 p1 l2 : Value) (h : Hp) (R : Value → Hp → Prop) : Prop :=
  Eb (nw (Value.cells m0) I.t_model_Model h) fun m3 h1 =>
  Eb (nw (Value.cells p1) I.t_pool_Pool h1) fun p4 h2 =>
  Vb (lda 1 m3 h2) fun v14 =>
  S.C I.f_simulcastlaw35_whole [v14] h2 fun v15 h3 =>
  Vb (pos? (eqP v15 (Value.pointer none))) fun v17 =>
  Br v17 (
    R (Value.bool false) h3) (
    Vb (lda 3 p4 h3) fun v20 =>
    S.C I.f_deque_Walk [v15, v20, (Value.int IntKind.i64 8), (Value.bool false)] h3 fun v21 h4 =>
    Vb (ext 0 v21) fun v22 =>
    Vb (ext 1 v21) fun v23 =>
    Vb (lda 3 p4 h4) fun v26 =>
    S.C I.f_deque_Walk [v15, v26, (Value.int IntKind.i64 8), (Value.bool true)] h4 fun v27 h5 =>
    Vb (ext 0 v27) fun v28 =>
    Vb (ext 1 v27) fun v29 =>
    Vb (lda 1 m3 h5) fun v31 =>
    S.C I.f_model_Model_At [v31, (Value.int IntKind.i64 15)] h5 fun v32 h6 =>
    Vb (ext 0 v32) fun v33 =>
    Vb (ext 1 v32) fun v34 =>
    Eb (nw #[Value.int IntKind.i64 0, Value.int IntKind.u32 0, Value.int IntKind.u32 0] I.t_api_Word h6) fun held12 h7 =>
    Sb (sto 3 held12 v33 h7) fun h8 =>
    Jn1 (fun v6 h9 =>
        R v6 h9) fun J0 =>
    Vb (bin .eql v23 (Value.int IntKind.i64 0)) fun v36 =>
    Br v36 (
      Vb (bin .eql v29 (Value.int IntKind.i64 0)) fun v39 =>
      Br v39 (
        S.C I.f_simulcastref35_Walk [l2, (Value.bool false)] h8 fun v44 h10 =>
        S.C I.f_slices_Equal_int64_int64 [v22, v44] h10 fun v45 h11 =>
        Br v45 (
          S.C I.f_simulcastref35_Walk [l2, (Value.bool true)] h11 fun v50 h12 =>
          S.C I.f_slices_Equal_int64_int64 [v28, v50] h12 fun v51 h13 =>
          Br v51 (
            Vb (lnS l2) fun v57 =>
            S.C I.f_deque_Len [v15, (Value.int IntKind.i64 8)] h13 fun v55 h14 =>
            Vb (bin .eql v55 v57) fun v58 =>
            Br v58 (
              Vb (fa 0 held12) fun v61 =>
              Vb (ldc v61 h14) fun v62 =>
              Vb (lnS l2) fun v64 =>
              Vb (bin .eql v62 v64) fun v65 =>
              Br v65 (
                Vb (lda 3 p4 h14) fun v68 =>
                Vb (lnS l2) fun v72 =>
                Vb (fa 2 p4) fun v74 =>
                Vb (ldc v74 h14) fun v75 =>
                S.C I.f_pool_Pool_Left [v68, v15] h14 fun v70 h15 =>
                ldc v74 h15 = some v75 ∧
                Vb (bin .add v70 v72) fun v73 =>
                Vb (bin .eql v73 v75) fun v76 =>
                J0 v76 h15) (
                J0 (Value.bool false) h14)) (
              J0 (Value.bool false) h14)) (
            J0 (Value.bool false) h13)) (
          J0 (Value.bool false) h11)) (
        J0 (Value.bool false) h8)) (
      J0 (Value.bool false) h8))

def F_simulcastlaw35_whole (S : Sys) (I : Ids) (m0 : Value) (h : Hp) (R : Value → Hp → Prop) : Prop :=
  Eb (nw (Value.cells m0) I.t_model_Model h) fun m1 h1 =>
  Eb (mmk h1) fun v6 h2 =>
  Vb (lda 1 m1 h2) fun v7 =>
  S.C I.f_model_Model_Words [v7] h2 fun v8 h3 =>
  Vb (lnS v8) fun v9 =>
  Lp1 (Value.int IntKind.i64 0) h3 fun v10 h4 again0 =>
  Vb (bin .lss v10 v9) fun v11 =>
  Br v11 (
    Vb (ixs 3 v8 v10) fun v13 =>
    Vb (lda 3 v13 h4) fun v14 =>
    Eb (nw #[Value.int IntKind.i64 0, Value.int IntKind.u32 0, Value.int IntKind.u32 0] I.t_api_Word h4) fun w5 h5 =>
    Sb (sto 3 w5 v14 h5) fun h6 =>
    Vb (lda 3 w5 h6) fun v17 =>
    Sb (mup (.int .i64) v6 v10 v17 h6) fun h7 =>
    Vb (bin .add v10 (Value.int IntKind.i64 1)) fun v18 =>
    again0 v18 h7) (
    S.C I.f_space_New [v6] h4 fun v20 h8 =>
    R v20 h8)

def F_deque_Push (S : Sys) (I : Ids) (s0 p1 root2 right3 v4 : Value) (h : Hp) (R : Value → Hp → Prop) : Prop :=
  Eb (nw (Value.cells p1) I.t_pool_Pool h) fun p6 h1 =>
  Eb (nw #[Value.int IntKind.i64 0] I.t_api_Errno h1) fun e10 h2 =>
  S.C I.f_space_Space_Mark [s0] h2 fun v17 h3 =>
  Vb (lda 3 p6 h3) fun v19 =>
  S.C I.f_pool_Pool_Take [v19, s0] h3 fun v21 h4 =>
  Vb (ext 0 v21) fun v22 =>
  Vb (ext 1 v21) fun v23 =>
  Sb (sto 1 e10 v23 h4) fun h5 =>
  Vb (ldc e10 h5) fun v24 =>
  Vb (bin .neq v24 (Value.int IntKind.i64 0)) fun v25 =>
  Br v25 (
    Vb (ldc e10 h5) fun v26 =>
    Sb (sto 1 e10 v26 h5) fun h6 =>
    S.D I.f_deque_undo [s0, v17, e10] h6 fun h7 =>
    Vb (ldc e10 h7) fun r0 =>
    R r0 h7) (
    S.C I.f_deque_side [right3] h5 fun v28 h8 =>
    Vb (uno .not right3) fun v30 =>
    S.C I.f_deque_side [v30] h8 fun v31 h9 =>
    Vb (bin .add root2 v28) fun v35 =>
    S.C I.f_space_Space_Get [s0, v35] h9 fun v36 h10 =>
    Vb (bin .add v22 v28) fun v40 =>
    S.C I.f_space_Space_Put [s0, v40, (Value.int IntKind.i64 0)] h10 fun v41 h11 =>
    Vb (bin .add v22 v31) fun v45 =>
    S.C I.f_space_Space_Put [s0, v45, v36] h11 fun v47 h12 =>
    Vb (bin .add v22 (Value.int IntKind.i64 2)) fun v50 =>
    S.C I.f_space_Space_Put [s0, v50, v4] h12 fun v52 h13 =>
    Jn0 (fun h14 =>
        Vb (bin .add root2 v28) fun v76 =>
        S.C I.f_space_Space_Put [s0, v76, v22] h14 fun v78 h15 =>
        Vb (bin .add root2 (Value.int IntKind.i64 2)) fun v81 =>
        S.C I.f_deque_more [s0, v81, (Value.int IntKind.i64 1)] h15 fun v82 h16 =>
        Vb (bin .add root2 (Value.int IntKind.i64 7)) fun v85 =>
        S.C I.f_deque_more [s0, v85, (Value.int IntKind.i64 1)] h16 fun v86 h17 =>
        Sb (sto 1 e10 (Value.int IntKind.i64 0) h17) fun h18 =>
        S.D I.f_deque_undo [s0, v17, e10] h18 fun h19 =>
        Vb (ldc e10 h19) fun r0 =>
        R r0 h19) fun J0 =>
    Vb (bin .eql v36 (Value.int IntKind.i64 0)) fun v61 =>
    Br v61 (
      Vb (bin .add root2 v31) fun v65 =>
      S.C I.f_space_Space_Put [s0, v65, v22] h13 fun v67 h20 =>
      J0 h20) (
      Vb (lda 3 p6 h13) fun v69 =>
      S.C I.f_deque_is [v69, v36] h13 fun v71 h21 =>
      Vb (uno .not v71) fun v72 =>
      Br v72 (
        Sb (sto 1 e10 (Value.int IntKind.i64 24) h21) fun h22 =>
        S.D I.f_deque_undo [s0, v17, e10] h22 fun h23 =>
        Vb (ldc e10 h23) fun r0 =>
        R r0 h23) (
        Vb (bin .add v36 v28) fun v56 =>
        S.C I.f_space_Space_Put [s0, v56, v22] h21 fun v58 h24 =>
        J0 h24)))

def F_deque_Pop (S : Sys) (I : Ids) (s0 p1 root2 right3 : Value) (h : Hp) (R : Value → Hp → Prop) : Prop :=
  Eb (nw (Value.cells p1) I.t_pool_Pool h) fun p5 h1 =>
  Eb (nw #[Value.int IntKind.i64 0] I.t_api_Errno h1) fun e9 h2 =>
  S.C I.f_space_Space_Mark [s0] h2 fun v19 h3 =>
  S.C I.f_deque_side [right3] h3 fun v21 h4 =>
  Vb (uno .not right3) fun v23 =>
  S.C I.f_deque_side [v23] h4 fun v24 h5 =>
  Vb (bin .add root2 v21) fun v28 =>
  S.C I.f_space_Space_Get [s0, v28] h5 fun v29 h6 =>
  Vb (bin .eql v29 (Value.int IntKind.i64 0)) fun v32 =>
  Br v32 (
    Sb (sto 1 e9 (Value.int IntKind.i64 8) h6) fun h7 =>
    S.D I.f_deque_undo [s0, v19, e9] h7 fun h8 =>
    Vb (ldc e9 h8) fun r1 =>
    R (.tuple #[(Value.int IntKind.i64 0), r1]) h8) (
    Vb (lda 3 p5 h6) fun v34 =>
    S.C I.f_deque_is [v34, v29] h6 fun v36 h9 =>
    Vb (uno .not v36) fun v37 =>
    Br v37 (
      Sb (sto 1 e9 (Value.int IntKind.i64 24) h9) fun h10 =>
      S.D I.f_deque_undo [s0, v19, e9] h10 fun h11 =>
      Vb (ldc e9 h11) fun r1 =>
      R (.tuple #[(Value.int IntKind.i64 0), r1]) h11) (
      Vb (bin .add v29 v24) fun v42 =>
      S.C I.f_space_Space_Get [s0, v42] h9 fun v43 h12 =>
      Jn0 (fun h13 =>
          Vb (bin .add root2 v21) fun v65 =>
          S.C I.f_space_Space_Put [s0, v65, v43] h13 fun v67 h14 =>
          Vb (bin .add root2 (Value.int IntKind.i64 2)) fun v70 =>
          S.C I.f_deque_more [s0, v70, (Value.int IntKind.i64 (-1))] h14 fun v71 h15 =>
          Vb (bin .add root2 (Value.int IntKind.i64 7)) fun v74 =>
          S.C I.f_deque_more [s0, v74, (Value.int IntKind.i64 (-1))] h15 fun v75 h16 =>
          Vb (bin .add v29 (Value.int IntKind.i64 2)) fun v78 =>
          S.C I.f_space_Space_Get [s0, v78] h16 fun v79 h17 =>
          Vb (lda 3 p5 h17) fun v80 =>
          S.C I.f_pool_Pool_Give [v80, s0, v29] h17 fun v83 h18 =>
          Vb (bin .neq v83 (Value.int IntKind.i64 0)) fun v85 =>
          Br v85 (
            Sb (sto 1 e9 v83 h18) fun h19 =>
            S.D I.f_deque_undo [s0, v19, e9] h19 fun h20 =>
            Vb (ldc e9 h20) fun r1 =>
            R (.tuple #[(Value.int IntKind.i64 0), r1]) h20) (
            Sb (sto 1 e9 (Value.int IntKind.i64 0) h18) fun h21 =>
            S.D I.f_deque_undo [s0, v19, e9] h21 fun h22 =>
            Vb (ldc e9 h22) fun r1 =>
            R (.tuple #[v79, r1]) h22)) fun J0 =>
      Vb (bin .eql v43 (Value.int IntKind.i64 0)) fun v51 =>
      Br v51 (
        Vb (bin .add root2 v24) fun v55 =>
        S.C I.f_space_Space_Put [s0, v55, (Value.int IntKind.i64 0)] h12 fun v56 h23 =>
        J0 h23) (
        Vb (lda 3 p5 h12) fun v58 =>
        S.C I.f_deque_is [v58, v43] h12 fun v60 h24 =>
        Vb (uno .not v60) fun v61 =>
        Br v61 (
          Sb (sto 1 e9 (Value.int IntKind.i64 24) h24) fun h25 =>
          S.D I.f_deque_undo [s0, v19, e9] h25 fun h26 =>
          Vb (ldc e9 h26) fun r1 =>
          R (.tuple #[(Value.int IntKind.i64 0), r1]) h26) (
          Vb (bin .add v43 v21) fun v47 =>
          S.C I.f_space_Space_Put [s0, v47, (Value.int IntKind.i64 0)] h24 fun v48 h27 =>
          J0 h27))))

def F_deque_Peek (S : Sys) (I : Ids) (s0 root1 right2 : Value) (h : Hp) (R : Value → Hp → Prop) : Prop :=
  S.C I.f_deque_side [right2] h fun v12 h1 =>
  Vb (bin .add root1 v12) fun v13 =>
  S.C I.f_space_Space_Get [s0, v13] h1 fun v14 h2 =>
  Vb (bin .eql v14 (Value.int IntKind.i64 0)) fun v16 =>
  Br v16 (
    R (.tuple #[(Value.int IntKind.i64 0), (Value.int IntKind.i64 8)]) h2) (
    Vb (bin .add v14 (Value.int IntKind.i64 2)) fun v19 =>
    S.C I.f_space_Space_Get [s0, v19] h2 fun v20 h3 =>
    R (.tuple #[v20, (Value.int IntKind.i64 0)]) h3)

def F_deque_Len (S : Sys) (I : Ids) (s0 root1 : Value) (h : Hp) (R : Value → Hp → Prop) : Prop :=
  Vb (bin .add root1 (Value.int IntKind.i64 2)) fun v7 =>
  S.C I.f_space_Space_Get [s0, v7] h fun v8 h1 =>
  R v8 h1

def F_pool_Pool_Left (S : Sys) (I : Ids) (p0 s1 : Value) (h : Hp) (R : Value → Hp → Prop) : Prop :=
  Eb (nw (Value.cells p0) I.t_pool_Pool h) fun p2 h1 =>
  Vb (lda 3 p2 h1) fun v5 =>
  S.C I.f_pool_Pool_Check [v5] h1 fun v6 h2 =>
  Vb (bin .neq v6 (Value.int IntKind.i64 0)) fun v7 =>
  Br v7 (
    R (Value.int IntKind.i64 0) h2) (
    Vb (fa 0 p2) fun v9 =>
    Vb (ldc v9 h2) fun v10 =>
    Vb (bin .add v10 (Value.int IntKind.i64 2)) fun v11 =>
    Vb (fa 2 p2) fun v13 =>
    Vb (ldc v13 h2) fun v14 =>
    Vb (fa 0 p2) fun v17 =>
    Vb (ldc v17 h2) fun v18 =>
    Vb (bin .add v18 (Value.int IntKind.i64 1)) fun v19 =>
    S.C I.f_space_Space_Get [s1, v11] h2 fun v12 h3 =>
    ldc v17 h3 = some v18 ∧
    ldc v13 h3 = some v14 ∧
    Vb (bin .add v12 v14) fun v15 =>
    S.C I.f_space_Space_Get [s1, v19] h3 fun v20 h4 =>
    ldc v13 h4 = some v14 ∧
    Vb (bin .sub v15 v20) fun v21 =>
    Vb (mx v21 (Value.int IntKind.i64 0)) fun v22 =>
    R v22 h4)

def F_simulcastref35_Push (S : Sys) (I : Ids) (l0 right1 v2 : Value) (h : Hp) (R : Value → Hp → Prop) : Prop :=
  Jn1 (fun out7 h1 =>
      Ap I.t_int64 #[Value.int IntKind.i64 0] 1 8 out7 l0 h1 fun v16 h2 =>
      Jn1 (fun out7_1 h3 =>
          R out7_1 h3) fun J1 =>
      Br right1 (
        Eb (bsl #[Value.int IntKind.i64 0] 1 1 I.t_int64 [(0, v2)] h2) fun v20 h4 =>
        Ap I.t_int64 #[Value.int IntKind.i64 0] 1 8 v16 v20 h4 fun v21 h5 =>
        J1 v21 h5) (
        J1 v16 h2)) fun J0 =>
  Vb (uno .not right1) fun v9 =>
  Br v9 (
    Eb (bsl #[Value.int IntKind.i64 0] 1 1 I.t_int64 [(0, v2)] h) fun v12 h6 =>
    Ap I.t_int64 #[Value.int IntKind.i64 0] 1 8 (Value.slice none 0 0) v12 h6 fun v13 h7 =>
    J0 v13 h7) (
    J0 (Value.slice none 0 0) h)

def F_simulcastref35_Peek (S : Sys) (I : Ids) (l0 right1 : Value) (h : Hp) (R : Value → Hp → Prop) : Prop :=
  Br right1 (
    Vb (lnS l0) fun v8 =>
    Vb (bin .sub v8 (Value.int IntKind.i64 1)) fun v9 =>
    Vb (ixs 1 l0 v9) fun v10 =>
    Vb (ldc v10 h) fun v11 =>
    R v11 h) (
    Vb (ixs 1 l0 (Value.int IntKind.i64 0)) fun v13 =>
    Vb (ldc v13 h) fun v14 =>
    R v14 h)

def F_simulcastref35_Pop (S : Sys) (I : Ids) (l0 right1 : Value) (h : Hp) (R : Value → Hp → Prop) : Prop :=
  Lp2 (Value.slice none 0 0) (Value.int IntKind.i64 0) h fun out5 i6 h1 again0 =>
  Vb (lnS l0) fun v9 =>
  Vb (bin .lss i6 v9) fun v10 =>
  Br v10 (
    Jn1 (fun out5_1 h2 =>
        Vb (bin .add i6 (Value.int IntKind.i64 1)) fun v12 =>
        again0 out5_1 v12 h2) fun J0 =>
    Jn1 (fun v28 h3 =>
        Br v28 (
          J0 out5 h3) (
          Vb (ixs 1 l0 i6) fun v32 =>
          Vb (ldc v32 h3) fun v33 =>
          Eb (bsl #[Value.int IntKind.i64 0] 1 1 I.t_int64 [(0, v33)] h3) fun v34 h4 =>
          Ap I.t_int64 #[Value.int IntKind.i64 0] 1 8 out5 v34 h4 fun v35 h5 =>
          J0 v35 h5)) fun J1 =>
    Br right1 (
      Vb (lnS l0) fun v17 =>
      Vb (bin .sub v17 (Value.int IntKind.i64 1)) fun v18 =>
      Vb (bin .eql i6 v18) fun v19 =>
      Br v19 (
        J1 (Value.bool true) h1) (
        Vb (uno .not right1) fun v23 =>
        Br v23 (
          Vb (bin .eql i6 (Value.int IntKind.i64 0)) fun v26 =>
          J1 v26 h1) (
          J1 (Value.bool false) h1))) (
      Vb (uno .not right1) fun v23_1 =>
      Br v23_1 (
        Vb (bin .eql i6 (Value.int IntKind.i64 0)) fun v26_1 =>
        J1 v26_1 h1) (
        J1 (Value.bool false) h1))) (
    R out5 h1)

def F_deque_Walk (S : Sys) (I : Ids) (s0 p1 root2 right3 : Value) (h : Hp) (R : Value → Hp → Prop) : Prop :=
  Eb (nw (Value.cells p1) I.t_pool_Pool h) fun p5 h1 =>
  S.C I.f_deque_side [right3] h1 fun v15 h2 =>
  Vb (bin .add root2 v15) fun v16 =>
  S.C I.f_space_Space_Get [s0, v16] h2 fun v17 h3 =>
  Lp2 (Value.slice none 0 0) v17 h3 fun out10 at11 h4 again0 =>
  Vb (bin .neq at11 (Value.int IntKind.i64 0)) fun v19 =>
  Br v19 (
    Jn1 (fun v37 h5 =>
        Br v37 (
          R (.tuple #[(Value.slice none 0 0), (Value.int IntKind.i64 24)]) h5) (
          Vb (bin .add at11 (Value.int IntKind.i64 2)) fun v41 =>
          S.C I.f_space_Space_Get [s0, v41] h5 fun v42 h6 =>
          Eb (bsl #[Value.int IntKind.i64 0] 1 1 I.t_int64 [(0, v42)] h6) fun v43 h7 =>
          Ap I.t_int64 #[Value.int IntKind.i64 0] 1 8 out10 v43 h7 fun v44 h8 =>
          Vb (uno .not right3) fun v23 =>
          S.C I.f_deque_side [v23] h8 fun v24 h9 =>
          Vb (bin .add at11 v24) fun v25 =>
          S.C I.f_space_Space_Get [s0, v25] h9 fun v26 h10 =>
          again0 v44 v26 h10)) fun J0 =>
    Vb (lda 3 p5 h4) fun v27 =>
    S.C I.f_deque_is [v27, at11] h4 fun v29 h11 =>
    Vb (uno .not v29) fun v30 =>
    Br v30 (
      J0 (Value.bool true) h11) (
      Vb (lnS out10) fun v33 =>
      Vb (fa 2 p5) fun v34 =>
      Vb (ldc v34 h11) fun v35 =>
      Vb (bin .geq v33 v35) fun v36 =>
      J0 v36 h11)) (
    R (.tuple #[out10, (Value.int IntKind.i64 0)]) h4)

def F_slices_Equal_int64_int64 (S : Sys) (I : Ids) (s10 s21 : Value) (h : Hp) (R : Value → Hp → Prop) : Prop :=
  Vb (lnS s10) fun v7 =>
  Vb (lnS s21) fun v9 =>
  Vb (bin .neq v7 v9) fun v10 =>
  Br v10 (
    R (Value.bool false) h) (
    Vb (lnS s10) fun v12 =>
    Lp1 (Value.int IntKind.i64 0) h fun v13 h1 again0 =>
    Vb (bin .lss v13 v12) fun v14 =>
    Br v14 (
      Vb (ixs 1 s10 v13) fun v18 =>
      Vb (ldc v18 h1) fun v19 =>
      Vb (ixs 1 s21 v13) fun v22 =>
      Vb (ldc v22 h1) fun v23 =>
      Vb (bin .neq v19 v23) fun v24 =>
      Br v24 (
        R (Value.bool false) h1) (
        Vb (bin .add v13 (Value.int IntKind.i64 1)) fun v25 =>
        again0 v25 h1)) (
      R (Value.bool true) h1))

def F_simulcastref35_Walk (S : Sys) (I : Ids) (l0 right1 : Value) (h : Hp) (R : Value → Hp → Prop) : Prop :=
  Lp2 (Value.slice none 0 0) (Value.int IntKind.i64 0) h fun out5 i6 h1 again0 =>
  Vb (lnS l0) fun v9 =>
  Vb (bin .lss i6 v9) fun v10 =>
  Br v10 (
    Jn1 (fun out5_1 h2 =>
        Vb (bin .add i6 (Value.int IntKind.i64 1)) fun v12 =>
        again0 out5_1 v12 h2) fun J0 =>
    Br right1 (
      Vb (lnS l0) fun v17 =>
      Vb (bin .sub v17 (Value.int IntKind.i64 1)) fun v18 =>
      Vb (bin .sub v18 i6) fun v20 =>
      Vb (ixs 1 l0 v20) fun v21 =>
      Vb (ldc v21 h1) fun v22 =>
      Eb (bsl #[Value.int IntKind.i64 0] 1 1 I.t_int64 [(0, v22)] h1) fun v23 h3 =>
      Ap I.t_int64 #[Value.int IntKind.i64 0] 1 8 out5 v23 h3 fun v24 h4 =>
      J0 v24 h4) (
      Vb (ixs 1 l0 i6) fun v28 =>
      Vb (ldc v28 h1) fun v29 =>
      Eb (bsl #[Value.int IntKind.i64 0] 1 1 I.t_int64 [(0, v29)] h1) fun v30 h5 =>
      Ap I.t_int64 #[Value.int IntKind.i64 0] 1 8 out5 v30 h5 fun v31 h6 =>
      J0 v31 h6)) (
    R out5 h1)

def F_model_Model_Words (S : Sys) (I : Ids) (m0 : Value) (h : Hp) (R : Value → Hp → Prop) : Prop :=
  Eb (nw (Value.cells m0) I.t_model_Model h) fun m1 h1 =>
  Vb (fa 0 m1) fun v3 =>
  Vb (ldc v3 h1) fun v4 =>
  S.C I.f_slices_Clone_api_Word_api_Word [v4] h1 fun v5 h2 =>
  R v5 h2

def F_space_Space_Get (S : Sys) (I : Ids) (s0 at1 : Value) (h : Hp) (R : Value → Hp → Prop) : Prop :=
  S.C I.f_space_Space_reads [s0, at1] h fun v9 h1 =>
  Vb (uno .not v9) fun v10 =>
  Br v10 (
    R (Value.int IntKind.i64 0) h1) (
    S.C I.f_space_Space_value [s0, at1] h1 fun v14 h2 =>
    Vb (ext 0 v14) fun v15 =>
    Vb (ext 1 v14) fun v16 =>
    R v15 h2)

def F_space_Space_Ended (S : Sys) (I : Ids) (s0 : Value) (h : Hp) (R : Value → Hp → Prop) : Prop :=
  Jn1 (fun v2 h1 =>
      R v2 h1) fun J0 =>
  Vb (pos? (eqP s0 (Value.pointer none))) fun v4 =>
  Br v4 (
    J0 (Value.bool true) h) (
    Vb (nck s0) fun v7 =>
    Vb (fa 4 v7) fun v8 =>
    Vb (ldc v8 h) fun v9 =>
    J0 v9 h)

def F_simulcastlaw32_awake_1 (S : Sys) (I : Ids) (s0 v1 : Value) (h : Hp) (R : Value → Hp → Prop) : Prop :=
  Vb (bldS [(0, 1), (1, 1), (2, 1), (3, 1)] #[Value.int IntKind.u8 0, Value.int IntKind.u8 0, Value.int IntKind.u8 0, Value.int IntKind.i64 0] [(0, (Value.int IntKind.u8 1)), (3, (Value.int IntKind.i64 3))]) fun v4 =>
  S.C I.f_simulcastlaw32_Act_do [v4, s0] h fun v6 h1 =>
  Vb (ext 0 v6) fun v7 =>
  Vb (ext 1 v6) fun v8 =>
  Sb (sto 1 v1 v7 h1) fun h2 =>
  R (.tuple #[]) h2

def F_model_New (S : Sys) (I : Ids) (w0 : Value) (h : Hp) (R : Value → Hp → Prop) : Prop :=
  Eb (nw #[Value.slice none 0 0] I.t_model_Model h) fun v2 h1 =>
  S.C I.f_slices_Clone_api_Word_api_Word [w0] h1 fun v6 h2 =>
  Vb (lnS v6) fun v8 =>
  Lp1 (Value.int IntKind.i64 0) h2 fun v9 h3 again0 =>
  Vb (bin .lss v9 v8) fun v10 =>
  Br v10 (
    Vb (ixs 3 v6 v9) fun v14 =>
    Vb (fa 2 v14) fun v15 =>
    Sb (sto 1 v15 (Value.int IntKind.u32 0) h3) fun h4 =>
    Vb (bin .add v9 (Value.int IntKind.i64 1)) fun v16 =>
    again0 v16 h4) (
    Vb (bldS [(0, 1)] #[Value.slice none 0 0] [(0, v6)]) fun v18 =>
    Sb (sto 1 v2 v18 h3) fun h5 =>
    Vb (lda 1 v2 h5) fun r0 =>
    R r0 h5)

def F_model_Model_Len (S : Sys) (I : Ids) (m0 : Value) (h : Hp) (R : Value → Hp → Prop) : Prop :=
  Eb (nw (Value.cells m0) I.t_model_Model h) fun m1 h1 =>
  Vb (fa 0 m1) fun v3 =>
  Vb (ldc v3 h1) fun v4 =>
  Vb (lnS v4) fun v5 =>
  R v5 h1

def F_space_Space_Need (S : Sys) (I : Ids) (s0 : Value) (h : Hp) (R : Value → Hp → Prop) : Prop :=
  Jn1 (fun v12 h1 =>
      Br v12 (
        R (.tuple #[(Value.int IntKind.i64 0), (Value.bool false)]) h1) (
        Vb (nck s0) fun v14 =>
        Vb (fa 3 v14) fun v15 =>
        Vb (ldc v15 h1) fun v16 =>
        R (.tuple #[v16, (Value.bool true)]) h1)) fun J0 =>
  Vb (pos? (eqP s0 (Value.pointer none))) fun v5 =>
  Br v5 (
    J0 (Value.bool true) h) (
    Vb (nck s0) fun v8 =>
    Vb (fa 4 v8) fun v9 =>
    Vb (ldc v9 h) fun v10 =>
    Vb (uno .not v10) fun v11 =>
    J0 v11 h)

def F_space_Space_Entries (S : Sys) (I : Ids) (s0 : Value) (h : Hp) (R : Value → Hp → Prop) : Prop :=
  S.C I.f_space_Space_Ended [s0] h fun v11 h1 =>
  Br v11 (
    R (.tuple #[(Value.slice none 0 0), (Value.int IntKind.i64 13)]) h1) (
    S.C I.f_space_Space_Reads [s0] h1 fun v13 h2 =>
    Vb (lnS v13) fun v14 =>
    Lp2 (Value.slice none 0 0) (Value.int IntKind.i64 0) h2 fun out4 v15 h3 again0 =>
    Vb (bin .lss v15 v14) fun v16 =>
    Br v16 (
      Vb (ixs 1 v13 v15) fun v17 =>
      Vb (ldc v17 h3) fun v18 =>
      S.C I.f_space_Space_value [s0, v18] h3 fun v22 h4 =>
      Vb (ext 0 v22) fun v23 =>
      Vb (ext 1 v22) fun v24 =>
      Vb (nck s0) fun v28 =>
      Vb (fa 0 v28) fun v29 =>
      Vb (ldc v29 h4) fun v30 =>
      Vb (lkm (.int .i64) (Value.agg #[Value.int IntKind.i64 0, Value.int IntKind.u32 0, Value.int IntKind.u32 0]) false v30 v18 h4) fun v32 =>
      Vb (bldS [(0, 1), (1, 3), (4, 1), (5, 1)] #[Value.int IntKind.i64 0, Value.int IntKind.i64 0, Value.int IntKind.u32 0, Value.int IntKind.u32 0, Value.int IntKind.i64 0, Value.bool false] [(0, v18), (1, v32), (2, v23), (3, v24)]) fun v35 =>
      Eb (bsl #[Value.int IntKind.i64 0, Value.int IntKind.i64 0, Value.int IntKind.u32 0, Value.int IntKind.u32 0, Value.int IntKind.i64 0, Value.bool false] 6 1 I.t_api_Entry [(0, v35)] h4) fun v36 h5 =>
      Ap I.t_api_Entry #[Value.int IntKind.i64 0, Value.int IntKind.i64 0, Value.int IntKind.u32 0, Value.int IntKind.u32 0, Value.int IntKind.i64 0, Value.bool false] 6 40 out4 v36 h5 fun v37 h6 =>
      Vb (bin .add v15 (Value.int IntKind.i64 1)) fun v38 =>
      again0 v37 v38 h6) (
      Vb (lnS out4) fun v40 =>
      Vb (bin .eql v40 (Value.int IntKind.i64 0)) fun v41 =>
      Br v41 (
        R (.tuple #[(Value.slice none 0 0), (Value.int IntKind.i64 0)]) h3) (
        S.C I.f_entry_Check [out4] h3 fun v43 h7 =>
        Vb (bin .neq v43 (Value.int IntKind.i64 0)) fun v45 =>
        Br v45 (
          R (.tuple #[(Value.slice none 0 0), v43]) h7) (
          R (.tuple #[out4, (Value.int IntKind.i64 0)]) h7))))

def F_model_Model_Swap (S : Sys) (I : Ids) (m0 l1 : Value) (h : Hp) (R : Value → Hp → Prop) : Prop :=
  Eb (nw (Value.cells m0) I.t_model_Model h) fun m2 h1 =>
  Eb (nw #[Value.slice none 0 0] I.t_model_Model h1) fun v4 h2 =>
  S.C I.f_entry_Check [l1] h2 fun v16 h3 =>
  Vb (bin .neq v16 (Value.int IntKind.i64 0)) fun v18 =>
  Br v18 (
    Vb (lda 1 m2 h3) fun v19 =>
    Sb (sto 1 v4 v19 h3) fun h4 =>
    Vb (lda 1 v4 h4) fun r0 =>
    R (.tuple #[r0, (Value.bool false), v16]) h4) (
    Vb (lnS l1) fun v22 =>
    Lp1 (Value.int IntKind.i64 0) h3 fun v23 h5 again0 =>
    Vb (bin .lss v23 v22) fun v24 =>
    Br v24 (
      Vb (ixs 6 l1 v23) fun v25 =>
      Vb (lda 6 v25 h5) fun v26 =>
      Eb (nw #[Value.int IntKind.i64 0, Value.int IntKind.i64 0, Value.int IntKind.u32 0, Value.int IntKind.u32 0, Value.int IntKind.i64 0, Value.bool false] I.t_api_Entry h5) fun e9 h6 =>
      Sb (sto 6 e9 v26 h6) fun h7 =>
      Vb (lda 1 m2 h7) fun v28 =>
      Vb (fa 0 e9) fun v29 =>
      Vb (ldc v29 h7) fun v30 =>
      S.C I.f_model_Model_At [v28, v30] h7 fun v31 h8 =>
      Vb (ext 0 v31) fun v32 =>
      Vb (ext 1 v31) fun v33 =>
      Eb (nw #[Value.int IntKind.i64 0, Value.int IntKind.u32 0, Value.int IntKind.u32 0] I.t_api_Word h8) fun v10 h9 =>
      Sb (sto 3 v10 v32 h9) fun h10 =>
      Vb (uno .not v33) fun v35 =>
      Br v35 (
        Vb (lda 1 m2 h10) fun v36 =>
        Sb (sto 1 v4 v36 h10) fun h11 =>
        Vb (lda 1 v4 h11) fun r0 =>
        R (.tuple #[r0, (Value.bool false), (Value.int IntKind.i64 1)]) h11) (
        Vb (bin .add v23 (Value.int IntKind.i64 1)) fun v37 =>
        again0 v37 h10)) (
      Vb (lda 1 m2 h5) fun v38 =>
      S.C I.f_model_Model_Holds [v38, l1] h5 fun v40 h12 =>
      Vb (uno .not v40) fun v41 =>
      Br v41 (
        Vb (lda 1 m2 h12) fun v42 =>
        Sb (sto 1 v4 v42 h12) fun h13 =>
        Vb (lda 1 v4 h13) fun r0 =>
        R (.tuple #[r0, (Value.bool false), (Value.int IntKind.i64 0)]) h13) (
        Vb (lda 1 m2 h12) fun v43 =>
        S.C I.f_model_Model_Words [v43] h12 fun v44 h14 =>
        Vb (lnS l1) fun v46 =>
        Lp1 (Value.int IntKind.i64 0) h14 fun v47 h15 again1 =>
        Vb (bin .lss v47 v46) fun v48 =>
        Br v48 (
          Jn0 (fun h16 =>
              Vb (bin .add v47 (Value.int IntKind.i64 1)) fun v64 =>
              again1 v64 h16) fun J0 =>
          Vb (ixs 6 l1 v47) fun v49 =>
          Vb (lda 6 v49 h15) fun v50 =>
          Eb (nw #[Value.int IntKind.i64 0, Value.int IntKind.i64 0, Value.int IntKind.u32 0, Value.int IntKind.u32 0, Value.int IntKind.i64 0, Value.bool false] I.t_api_Entry h15) fun e14 h17 =>
          Sb (sto 6 e14 v50 h17) fun h18 =>
          Vb (fa 5 e14) fun v51 =>
          Vb (ldc v51 h18) fun v52 =>
          Br v52 (
            Vb (fa 0 e14) fun v54 =>
            Vb (ldc v54 h18) fun v55 =>
            Vb (fa 4 e14) fun v56 =>
            Vb (ldc v56 h18) fun v57 =>
            Vb (fa 1 e14) fun v58 =>
            Vb (fa 1 v58) fun v59 =>
            Vb (ldc v59 h18) fun v60 =>
            Vb (bin .add v60 (Value.int IntKind.u32 1)) fun v61 =>
            Vb (bldS [(0, 1), (1, 1), (2, 1)] #[Value.int IntKind.i64 0, Value.int IntKind.u32 0, Value.int IntKind.u32 0] [(0, v57), (1, v61)]) fun v62 =>
            Vb (ixs 3 v44 v55) fun v63 =>
            Sb (sto 3 v63 v62 h18) fun h19 =>
            J0 h19) (
            J0 h18)) (
          Vb (bldS [(0, 1)] #[Value.slice none 0 0] [(0, v44)]) fun v66 =>
          Sb (sto 1 v4 v66 h15) fun h20 =>
          Vb (lda 1 v4 h20) fun r0 =>
          R (.tuple #[r0, (Value.bool true), (Value.int IntKind.i64 0)]) h20))))

def F_simulcastref32_fits (S : Sys) (I : Ids) (a0 b1 : Value) (h : Hp) (R : Value → Hp → Prop) : Prop :=
  Vb (bin .gtr b1 (Value.int IntKind.i64 0)) fun v6 =>
  Br v6 (
    Vb (bin .sub (Value.int IntKind.i64 9223372036854775807) b1) fun v9 =>
    Vb (bin .leq a0 v9) fun v10 =>
    R v10 h) (
    Vb (bin .sub (Value.int IntKind.i64 (-9223372036854775808)) b1) fun v13 =>
    Vb (bin .geq a0 v13) fun v14 =>
    R v14 h)

def F_space_Space_Put (S : Sys) (I : Ids) (s0 at1 v2 : Value) (h : Hp) (R : Value → Hp → Prop) : Prop :=
  S.C I.f_space_Space_reads [s0, at1] h fun v8 h1 =>
  Br v8 (
    Vb (nck s0) fun v11 =>
    Vb (fa 2 v11) fun v12 =>
    Vb (ldc v12 h1) fun v13 =>
    Vb (bldS [(0, 1), (1, 1)] #[Value.int IntKind.i64 0, Value.int IntKind.i64 0] [(0, at1), (1, v2)]) fun v16 =>
    Eb (bsl #[Value.int IntKind.i64 0, Value.int IntKind.i64 0] 2 1 I.t_space_put [(0, v16)] h1) fun v17 h2 =>
    Ap I.t_space_put #[Value.int IntKind.i64 0, Value.int IntKind.i64 0] 2 16 v13 v17 h2 fun v18 h3 =>
    Vb (nck s0) fun v19 =>
    Vb (fa 2 v19) fun v20 =>
    Sb (sto 1 v20 v18 h3) fun h4 =>
    R (.tuple #[]) h4) (
    R (.tuple #[]) h1)

def F_counter_fits (S : Sys) (I : Ids) (a0 n1 : Value) (h : Hp) (R : Value → Hp → Prop) : Prop :=
  Vb (bin .gtr n1 (Value.int IntKind.i64 0)) fun v6 =>
  Br v6 (
    Vb (bin .sub (Value.int IntKind.i64 9223372036854775807) n1) fun v9 =>
    Vb (bin .leq a0 v9) fun v10 =>
    R v10 h) (
    Vb (bin .sub (Value.int IntKind.i64 (-9223372036854775808)) n1) fun v13 =>
    Vb (bin .geq a0 v13) fun v14 =>
    R v14 h)

def F_slices_Sort_api_Loc_api_Loc (S : Sys) (I : Ids) (x0 : Value) (h : Hp) (R : Value → Hp → Prop) : Prop :=
  Vb (lnS x0) fun v4 =>
  Vb (cvi .u64 v4) fun v8 =>
  S.C I.f_math_bits_Len [v8] h fun v9 h1 =>
  S.C I.f_slices_pdqsortOrdered_api_Loc [x0, (Value.int IntKind.i64 0), v4, v9] h1 fun v10 h2 =>
  R (.tuple #[]) h2

def F_slices_Compact_api_Loc_api_Loc (S : Sys) (I : Ids) (s0 : Value) (h : Hp) (R : Value → Hp → Prop) : Prop :=
  Vb (lnS s0) fun v7 =>
  Vb (bin .lss v7 (Value.int IntKind.i64 2)) fun v8 =>
  Br v8 (
    R s0 h) (
    Lp1 (Value.int IntKind.i64 1) h fun k3 h1 again0 =>
    Vb (lnS s0) fun v12 =>
    Vb (bin .lss k3 v12) fun v13 =>
    Br v13 (
      Vb (ixs 1 s0 k3) fun v18 =>
      Vb (ldc v18 h1) fun v19 =>
      Vb (bin .sub k3 (Value.int IntKind.i64 1)) fun v22 =>
      Vb (ixs 1 s0 v22) fun v23 =>
      Vb (ldc v23 h1) fun v24 =>
      Vb (bin .eql v19 v24) fun v25 =>
      Br v25 (
        Vb (slc 1 s0 (some k3) none none) fun v28 =>
        Lp2 k3 (Value.int IntKind.i64 1) h1 fun k3_1 k25 h2 again1 =>
        Vb (lnS v28) fun v31 =>
        Vb (bin .lss k25 v31) fun v32 =>
        Br v32 (
          Jn1 (fun k3_2 h3 =>
              Vb (bin .add k25 (Value.int IntKind.i64 1)) fun v34 =>
              again1 k3_2 v34 h3) fun J0 =>
          Vb (ixs 1 v28 k25) fun v37 =>
          Vb (ldc v37 h2) fun v38 =>
          Vb (bin .sub k25 (Value.int IntKind.i64 1)) fun v41 =>
          Vb (ixs 1 v28 v41) fun v42 =>
          Vb (ldc v42 h2) fun v43 =>
          Vb (bin .neq v38 v43) fun v44 =>
          Br v44 (
            Vb (ixs 1 v28 k25) fun v49 =>
            Vb (ldc v49 h2) fun v50 =>
            Vb (ixs 1 s0 k3_1) fun v51 =>
            Sb (sto 1 v51 v50 h2) fun h4 =>
            Vb (bin .add k3_1 (Value.int IntKind.i64 1)) fun v53 =>
            J0 v53 h4) (
            J0 k3_1 h2)) (
          Vb (slc 1 s0 (some k3_1) none none) fun v56 =>
          Eb (clrS #[Value.int IntKind.i64 0] v56 h2) fun _ h5 =>
          Vb (slc 1 s0 none (some k3_1) none) fun v59 =>
          R v59 h5)) (
        Vb (bin .add k3 (Value.int IntKind.i64 1)) fun v15 =>
        again0 v15 h1)) (
      R s0 h1))

def F_simulcastlaw35_awake_1 (S : Sys) (I : Ids) (s0 v1 v2 : Value) (h : Hp) (R : Value → Hp → Prop) : Prop :=
  Vb (lda 3 v1 h) fun v4 =>
  Vb (lda 3 v2 h) fun v6 =>
  S.C I.f_simulcastlaw35_Act_do [v4, s0, v6] h fun v7 h1 =>
  R (.tuple #[]) h1

def F_deque_undo (S : Sys) (I : Ids) (s0 mark1 e2 : Value) (h : Hp) (R : Value → Hp → Prop) : Prop :=
  Vb (nck e2) fun v7 =>
  Vb (ldc v7 h) fun v8 =>
  Vb (bin .neq v8 (Value.int IntKind.i64 0)) fun v9 =>
  Br v9 (
    S.C I.f_space_Space_Back [s0, mark1] h fun v12 h1 =>
    R (.tuple #[]) h1) (
    R (.tuple #[]) h)

def F_space_Space_Mark (S : Sys) (I : Ids) (s0 : Value) (h : Hp) (R : Value → Hp → Prop) : Prop :=
  Vb (pos? (eqP s0 (Value.pointer none))) fun v4 =>
  Br v4 (
    R (Value.int IntKind.i64 0) h) (
    Vb (nck s0) fun v6 =>
    Vb (fa 2 v6) fun v7 =>
    Vb (ldc v7 h) fun v8 =>
    Vb (lnS v8) fun v9 =>
    R v9 h)

def F_pool_Pool_Take (S : Sys) (I : Ids) (p0 s1 : Value) (h : Hp) (R : Value → Hp → Prop) : Prop :=
  Eb (nw (Value.cells p0) I.t_pool_Pool h) fun p2 h1 =>
  Vb (lda 3 p2 h1) fun v12 =>
  S.C I.f_pool_Pool_Check [v12] h1 fun v13 h2 =>
  Vb (bin .neq v13 (Value.int IntKind.i64 0)) fun v15 =>
  Br v15 (
    R (.tuple #[(Value.int IntKind.i64 0), v13]) h2) (
    Vb (fa 0 p2) fun v18 =>
    Vb (ldc v18 h2) fun v19 =>
    S.C I.f_space_Space_Get [s1, v19] h2 fun v20 h3 =>
    Vb (bin .neq v20 (Value.int IntKind.i64 0)) fun v22 =>
    Br v22 (
      Vb (lda 3 p2 h3) fun v25 =>
      S.C I.f_pool_Pool_Node [v25, v20] h3 fun v27 h4 =>
      Vb (ext 0 v27) fun v28 =>
      Vb (ext 1 v27) fun v29 =>
      Vb (uno .not v29) fun v31 =>
      Br v31 (
        R (.tuple #[(Value.int IntKind.i64 0), (Value.int IntKind.i64 24)]) h4) (
        Vb (fa 0 p2) fun v33 =>
        Vb (ldc v33 h4) fun v34 =>
        S.C I.f_space_Space_Get [s1, v20] h4 fun v37 h5 =>
        ldc v33 h5 = some v34 ∧
        S.C I.f_space_Space_Put [s1, v34, v37] h5 fun v38 h6 =>
        Vb (lda 3 p2 h6) fun v39 =>
        S.C I.f_pool_Pool_add [v39, s1, (Value.int IntKind.i64 2), (Value.int IntKind.i64 (-1))] h6 fun v41 h7 =>
        R (.tuple #[v20, (Value.int IntKind.i64 0)]) h7)) (
      Vb (fa 0 p2) fun v44 =>
      Vb (ldc v44 h3) fun v45 =>
      Vb (bin .add v45 (Value.int IntKind.i64 1)) fun v46 =>
      S.C I.f_space_Space_Get [s1, v46] h3 fun v47 h8 =>
      Jn1 (fun v55 h9 =>
          Br v55 (
            R (.tuple #[(Value.int IntKind.i64 0), (Value.int IntKind.i64 9)]) h9) (
            Vb (fa 0 p2) fun v57 =>
            Vb (ldc v57 h9) fun v58 =>
            Vb (bin .add v58 (Value.int IntKind.i64 1)) fun v59 =>
            Vb (bin .add v47 (Value.int IntKind.i64 1)) fun v61 =>
            S.C I.f_space_Space_Put [s1, v59, v61] h9 fun v62 h10 =>
            Vb (fa 1 p2) fun v63 =>
            Vb (ldc v63 h10) fun v64 =>
            Vb (bin .mul (Value.int IntKind.i64 8) v47) fun v66 =>
            Vb (bin .add v64 v66) fun v67 =>
            R (.tuple #[v67, (Value.int IntKind.i64 0)]) h10)) fun J0 =>
      Vb (bin .lss v47 (Value.int IntKind.i64 0)) fun v49 =>
      Br v49 (
        J0 (Value.bool true) h8) (
        Vb (fa 2 p2) fun v52 =>
        Vb (ldc v52 h8) fun v53 =>
        Vb (bin .geq v47 v53) fun v54 =>
        J0 v54 h8)))

def F_deque_side (S : Sys) (I : Ids) (right0 : Value) (h : Hp) (R : Value → Hp → Prop) : Prop :=
  Br right0 (
    R (Value.int IntKind.i64 1) h) (
    R (Value.int IntKind.i64 0) h)

def F_deque_is (S : Sys) (I : Ids) (p0 at1 : Value) (h : Hp) (R : Value → Hp → Prop) : Prop :=
  Eb (nw (Value.cells p0) I.t_pool_Pool h) fun p2 h1 =>
  Vb (lda 3 p2 h1) fun v8 =>
  S.C I.f_pool_Pool_Node [v8, at1] h1 fun v10 h2 =>
  Vb (ext 0 v10) fun v11 =>
  Vb (ext 1 v10) fun v12 =>
  R v12 h2

def F_deque_more (S : Sys) (I : Ids) (s0 at1 n2 : Value) (h : Hp) (R : Value → Hp → Prop) : Prop :=
  S.C I.f_space_Space_Get [s0, at1] h fun v10 h1 =>
  Vb (bin .add v10 n2) fun v12 =>
  S.C I.f_space_Space_Put [s0, at1, v12] h1 fun v13 h2 =>
  R (.tuple #[]) h2

def F_pool_Pool_Give (S : Sys) (I : Ids) (p0 s1 at2 : Value) (h : Hp) (R : Value → Hp → Prop) : Prop :=
  Eb (nw (Value.cells p0) I.t_pool_Pool h) fun p3 h1 =>
  Vb (lda 3 p3 h1) fun v10 =>
  S.C I.f_pool_Pool_Node [v10, at2] h1 fun v12 h2 =>
  Vb (ext 0 v12) fun v13 =>
  Vb (ext 1 v12) fun v14 =>
  Vb (uno .not v14) fun v16 =>
  Br v16 (
    R (Value.int IntKind.i64 1) h2) (
    Vb (fa 0 p3) fun v20 =>
    Vb (ldc v20 h2) fun v21 =>
    S.C I.f_space_Space_Get [s1, v21] h2 fun v22 h3 =>
    S.C I.f_space_Space_Put [s1, at2, v22] h3 fun v23 h4 =>
    Vb (fa 0 p3) fun v25 =>
    Vb (ldc v25 h4) fun v26 =>
    S.C I.f_space_Space_Put [s1, v26, at2] h4 fun v28 h5 =>
    Vb (lda 3 p3 h5) fun v29 =>
    S.C I.f_pool_Pool_add [v29, s1, (Value.int IntKind.i64 2), (Value.int IntKind.i64 1)] h5 fun v31 h6 =>
    R (Value.int IntKind.i64 0) h6)

def F_pool_Pool_Check (S : Sys) (I : Ids) (p0 : Value) (h : Hp) (R : Value → Hp → Prop) : Prop :=
  Eb (nw (Value.cells p0) I.t_pool_Pool h) fun p1 h1 =>
  Jn1 (fun v3 h2 =>
      Br v3 (
        R (Value.int IntKind.i64 1) h2) (
        Jn1 (fun v22 h3 =>
            Br v22 (
              R (Value.int IntKind.i64 1) h3) (
              Jn1 (fun v35 h4 =>
                  Br v35 (
                    R (Value.int IntKind.i64 1) h4) (
                    R (Value.int IntKind.i64 0) h4)) fun J2 =>
              Vb (fa 2 p1) fun v36 =>
              Vb (ldc v36 h3) fun v37 =>
              Vb (bin .gtr v37 (Value.int IntKind.i64 0)) fun v38 =>
              Br v38 (
                Vb (fa 0 p1) fun v40 =>
                Vb (ldc v40 h3) fun v41 =>
                Vb (bin .add v41 (Value.int IntKind.i64 3)) fun v42 =>
                Vb (fa 1 p1) fun v43 =>
                Vb (ldc v43 h3) fun v44 =>
                Vb (bin .gtr v42 v44) fun v45 =>
                Br v45 (
                  Vb (fa 0 p1) fun v48 =>
                  Vb (ldc v48 h3) fun v49 =>
                  Vb (fa 1 p1) fun v50 =>
                  Vb (ldc v50 h3) fun v51 =>
                  Vb (fa 2 p1) fun v52 =>
                  Vb (ldc v52 h3) fun v53 =>
                  Vb (bin .mul (Value.int IntKind.i64 8) v53) fun v54 =>
                  Vb (bin .add v51 v54) fun v55 =>
                  Vb (bin .lss v49 v55) fun v56 =>
                  J2 v56 h3) (
                  J2 (Value.bool false) h3)) (
                J2 (Value.bool false) h3))) fun J1 =>
        Vb (fa 0 p1) fun v23 =>
        Vb (ldc v23 h2) fun v24 =>
        Vb (bin .gtr v24 (Value.int IntKind.i64 4093)) fun v25 =>
        Br v25 (
          J1 (Value.bool true) h2) (
          Vb (fa 1 p1) fun v27 =>
          Vb (ldc v27 h2) fun v28 =>
          Vb (fa 2 p1) fun v29 =>
          Vb (ldc v29 h2) fun v30 =>
          Vb (bin .mul (Value.int IntKind.i64 8) v30) fun v31 =>
          Vb (bin .sub (Value.int IntKind.i64 4096) v31) fun v32 =>
          Vb (bin .gtr v28 v32) fun v33 =>
          J1 v33 h2))) fun J0 =>
  Vb (fa 0 p1) fun v4 =>
  Vb (ldc v4 h1) fun v5 =>
  Vb (bin .lss v5 (Value.int IntKind.i64 0)) fun v6 =>
  Br v6 (
    J0 (Value.bool true) h1) (
    Vb (fa 1 p1) fun v8 =>
    Vb (ldc v8 h1) fun v9 =>
    Vb (bin .lss v9 (Value.int IntKind.i64 1)) fun v10 =>
    Br v10 (
      J0 (Value.bool true) h1) (
      Vb (fa 2 p1) fun v13 =>
      Vb (ldc v13 h1) fun v14 =>
      Vb (bin .lss v14 (Value.int IntKind.i64 0)) fun v15 =>
      Br v15 (
        J0 (Value.bool true) h1) (
        Vb (fa 2 p1) fun v18 =>
        Vb (ldc v18 h1) fun v19 =>
        Vb (bin .gtr v19 (Value.int IntKind.i64 128)) fun v20 =>
        J0 v20 h1)))

def F_slices_Clone_api_Word_api_Word (S : Sys) (I : Ids) (s0 : Value) (h : Hp) (R : Value → Hp → Prop) : Prop :=
  Vb (pos? (eqS s0 (Value.slice none 0 0))) fun v4 =>
  Br v4 (
    R (Value.slice none 0 0) h) (
    Eb (bsl #[Value.int IntKind.i64 0, Value.int IntKind.u32 0, Value.int IntKind.u32 0] 3 0 I.t_api_Word [] h) fun v5 h1 =>
    Ap I.t_api_Word #[Value.int IntKind.i64 0, Value.int IntKind.u32 0, Value.int IntKind.u32 0] 3 16 v5 s0 h1 fun v7 h2 =>
    R v7 h2)

def F_space_Space_reads (S : Sys) (I : Ids) (s0 at1 : Value) (h : Hp) (R : Value → Hp → Prop) : Prop :=
  S.C I.f_space_Space_Ended [s0] h fun v8 h1 =>
  Br v8 (
    R (Value.bool false) h1) (
    Vb (nck s0) fun v11 =>
    Vb (fa 0 v11) fun v12 =>
    Vb (ldc v12 h1) fun v13 =>
    Vb (lkm (.int .i64) (Value.agg #[Value.int IntKind.i64 0, Value.int IntKind.u32 0, Value.int IntKind.u32 0]) true v13 at1 h1) fun v15 =>
    Vb (ext 0 v15) fun v16 =>
    Vb (ext 1 v15) fun v17 =>
    Eb (nw #[Value.int IntKind.i64 0, Value.int IntKind.u32 0, Value.int IntKind.u32 0] I.t_api_Word h1) fun v5 h2 =>
    Sb (sto 3 v5 v16 h2) fun h3 =>
    Vb (uno .not v17) fun v19 =>
    Br v19 (
      Vb (nck s0) fun v23 =>
      Vb (fa 4 v23) fun v24 =>
      Sb (sto 1 v24 (Value.bool true) h3) fun h4 =>
      Vb (nck s0) fun v25 =>
      Vb (fa 3 v25) fun v26 =>
      Sb (sto 1 v26 at1 h4) fun h5 =>
      R (Value.bool false) h5) (
      Vb (nck s0) fun v28 =>
      Vb (fa 1 v28) fun v29 =>
      Vb (ldc v29 h3) fun v30 =>
      Sb (mup (.int .i64) v30 at1 (Value.bool true) h3) fun h6 =>
      R (Value.bool true) h6))

def F_space_Space_value (S : Sys) (I : Ids) (s0 at1 : Value) (h : Hp) (R : Value → Hp → Prop) : Prop :=
  S.C I.f_space_Space_last [s0, at1] h fun v9 h1 =>
  Vb (bin .geq v9 (Value.int IntKind.i64 0)) fun v11 =>
  Br v11 (
    Vb (nck s0) fun v13 =>
    Vb (fa 2 v13) fun v14 =>
    Vb (ldc v14 h1) fun v15 =>
    Vb (ixs 2 v15 v9) fun v17 =>
    Vb (fa 1 v17) fun v18 =>
    Vb (ldc v18 h1) fun v19 =>
    R (.tuple #[v19, (Value.bool true)]) h1) (
    Vb (nck s0) fun v21 =>
    Vb (fa 0 v21) fun v22 =>
    Vb (ldc v22 h1) fun v23 =>
    Vb (lkm (.int .i64) (Value.agg #[Value.int IntKind.i64 0, Value.int IntKind.u32 0, Value.int IntKind.u32 0]) false v23 at1 h1) fun v25 =>
    Vb (fdc 0 v25) fun v26 =>
    R (.tuple #[v26, (Value.bool false)]) h1)

def F_entry_Check (S : Sys) (I : Ids) (l0 : Value) (h : Hp) (R : Value → Hp → Prop) : Prop :=
  Vb (lnS l0) fun v8 =>
  Vb (bin .eql v8 (Value.int IntKind.i64 0)) fun v9 =>
  Br v9 (
    R (Value.int IntKind.i64 8) h) (
    Vb (lnS l0) fun v12 =>
    Vb (bin .gtr v12 (Value.int IntKind.i64 32)) fun v13 =>
    Br v13 (
      R (Value.int IntKind.i64 15) h) (
      Vb (lnS l0) fun v15 =>
      Lp1 (Value.int IntKind.i64 0) h fun v16 h1 again0 =>
      Vb (bin .lss v16 v15) fun v17 =>
      Br v17 (
        Vb (ixs 6 l0 v16) fun v19 =>
        Vb (lda 6 v19 h1) fun v20 =>
        Eb (nw #[Value.int IntKind.i64 0, Value.int IntKind.i64 0, Value.int IntKind.u32 0, Value.int IntKind.u32 0, Value.int IntKind.i64 0, Value.bool false] I.t_api_Entry h1) fun x4 h2 =>
        Sb (sto 6 x4 v20 h2) fun h3 =>
        Vb (lda 6 x4 h3) fun v21 =>
        S.C I.f_entry_wrong [v21] h3 fun v22 h4 =>
        Vb (bin .neq v22 (Value.int IntKind.i64 0)) fun v24 =>
        Br v24 (
          R v22 h4) (
          Vb (slc 6 l0 none (some v16) none) fun v28 =>
          Vb (some (.func (.func I.f_entry_Check_1) #[] #[x4])) fun v29 =>
          S.C I.f_slices_ContainsFunc_api_Entry_api_Entry [v28, v29] h4 fun v30 h5 =>
          Br v30 (
            R (Value.int IntKind.i64 11) h5) (
            Vb (bin .add v16 (Value.int IntKind.i64 1)) fun v31 =>
            again0 v31 h5))) (
        R (Value.int IntKind.i64 0) h1)))

def F_model_Model_Holds (S : Sys) (I : Ids) (m0 l1 : Value) (h : Hp) (R : Value → Hp → Prop) : Prop :=
  Eb (nw (Value.cells m0) I.t_model_Model h) fun m2 h1 =>
  Vb (lnS l1) fun v10 =>
  Lp1 (Value.int IntKind.i64 0) h1 fun v11 h2 again0 =>
  Vb (bin .lss v11 v10) fun v12 =>
  Br v12 (
    Vb (ixs 6 l1 v11) fun v13 =>
    Vb (lda 6 v13 h2) fun v14 =>
    Eb (nw #[Value.int IntKind.i64 0, Value.int IntKind.i64 0, Value.int IntKind.u32 0, Value.int IntKind.u32 0, Value.int IntKind.i64 0, Value.bool false] I.t_api_Entry h2) fun e6 h3 =>
    Sb (sto 6 e6 v14 h3) fun h4 =>
    Vb (fa 1 e6) fun v15 =>
    Vb (fa 2 v15) fun v16 =>
    Sb (sto 1 v16 (Value.int IntKind.u32 0) h4) fun h5 =>
    Vb (lda 1 m2 h5) fun v18 =>
    Vb (fa 0 e6) fun v19 =>
    Vb (ldc v19 h5) fun v20 =>
    S.C I.f_model_Model_At [v18, v20] h5 fun v21 h6 =>
    Vb (ext 0 v21) fun v22 =>
    Vb (ext 1 v21) fun v23 =>
    Eb (nw #[Value.int IntKind.i64 0, Value.int IntKind.u32 0, Value.int IntKind.u32 0] I.t_api_Word h6) fun w7 h7 =>
    Sb (sto 3 w7 v22 h7) fun h8 =>
    Jn1 (fun v31 h9 =>
        Br v31 (
          R (Value.bool false) h9) (
          Vb (bin .add v11 (Value.int IntKind.i64 1)) fun v32 =>
          again0 v32 h9)) fun J0 =>
    Vb (uno .not v23) fun v25 =>
    Br v25 (
      J0 (Value.bool true) h8) (
      Vb (lda 3 w7 h8) fun v27 =>
      Vb (fa 1 e6) fun v28 =>
      Vb (lda 3 v28 h8) fun v29 =>
      Vb (neg? (eqA [true, true, true] v27 v29)) fun v30 =>
      J0 v30 h8)) (
    R (Value.bool true) h2)

def F_slices_pdqsortOrdered_api_Loc (S : Sys) (I : Ids) (data0 a1 b2 limit3 : Value) (h : Hp) (R : Value → Hp → Prop) : Prop :=
  Lp5 a1 b2 limit3 (Value.bool true) (Value.bool true) h fun a1_1 b2_1 limit3_1 wasBalanced8 wasPartitioned9 h1 again0 =>
  Vb (bin .sub b2_1 a1_1) fun v21 =>
  Vb (bin .leq v21 (Value.int IntKind.i64 12)) fun v23 =>
  Br v23 (
    S.C I.f_slices_insertionSortOrdered_api_Loc [data0, a1_1, b2_1] h1 fun v27 h2 =>
    R (.tuple #[]) h2) (
    Vb (bin .eql limit3_1 (Value.int IntKind.i64 0)) fun v29 =>
    Br v29 (
      S.C I.f_slices_heapSortOrdered_api_Loc [data0, a1_1, b2_1] h1 fun v33 h3 =>
      R (.tuple #[]) h3) (
      Jn1 (fun limit3_2 h4 =>
          S.C I.f_slices_choosePivotOrdered_api_Loc [data0, a1_1, b2_1] h4 fun v46 h5 =>
          Vb (ext 0 v46) fun v47 =>
          Vb (ext 1 v46) fun v48 =>
          Jn2 (fun pivot11 hint12 h6 =>
              Jn0 (fun h7 =>
                  Jn1 (fun v87 h8 =>
                      Br v87 (
                        S.C I.f_slices_partitionEqualOrdered_api_Loc [data0, a1_1, b2_1, pivot11] h8 fun v92 h9 =>
                        again0 v92 b2_1 limit3_2 wasBalanced8 wasPartitioned9 h9) (
                        S.C I.f_slices_partitionOrdered_api_Loc [data0, a1_1, b2_1, pivot11] h8 fun v99 h10 =>
                        Vb (ext 0 v99) fun v100 =>
                        Vb (ext 1 v99) fun v101 =>
                        Vb (bin .sub v100 a1_1) fun v105 =>
                        Vb (bin .sub b2_1 v100) fun v108 =>
                        Vb (bin .quo v21 (Value.int IntKind.i64 8)) fun v110 =>
                        Vb (bin .lss v105 v108) fun v113 =>
                        Br v113 (
                          Vb (bin .geq v105 v110) fun v116 =>
                          S.C I.f_slices_pdqsortOrdered_api_Loc [data0, a1_1, v100, limit3_2] h10 fun v121 h11 =>
                          Vb (bin .add v100 (Value.int IntKind.i64 1)) fun v123 =>
                          again0 v123 b2_1 limit3_2 v116 v101 h11) (
                          Vb (bin .geq v108 v110) fun v126 =>
                          Vb (bin .add v100 (Value.int IntKind.i64 1)) fun v129 =>
                          S.C I.f_slices_pdqsortOrdered_api_Loc [data0, v129, b2_1, limit3_2] h10 fun v132 h12 =>
                          again0 a1_1 v100 limit3_2 v126 v101 h12))) fun J3 =>
                  Vb (bin .gtr a1_1 (Value.int IntKind.i64 0)) fun v74 =>
                  Br v74 (
                    Vb (bin .sub a1_1 (Value.int IntKind.i64 1)) fun v78 =>
                    Vb (ixs 1 data0 v78) fun v79 =>
                    Vb (ldc v79 h7) fun v80 =>
                    Vb (ixs 1 data0 pivot11) fun v83 =>
                    Vb (ldc v83 h7) fun v84 =>
                    S.C I.f_cmp_Less_api_Loc [v80, v84] h7 fun v85 h13 =>
                    Vb (uno .not v85) fun v86 =>
                    J3 v86 h13) (
                    J3 (Value.bool false) h7)) fun J2 =>
              Jn1 (fun v68 h14 =>
                  Br v68 (
                    S.C I.f_slices_partialInsertionSortOrdered_api_Loc [data0, a1_1, b2_1] h14 fun v72 h15 =>
                    Br v72 (
                      R (.tuple #[]) h15) (
                      J2 h15)) (
                    J2 h14)) fun J4 =>
              Br wasBalanced8 (
                Br wasPartitioned9 (
                  Vb (bin .eql hint12 (Value.int IntKind.i64 1)) fun v67 =>
                  J4 v67 h6) (
                  J4 (Value.bool false) h6)) (
                J4 (Value.bool false) h6)) fun J1 =>
          Vb (bin .eql v48 (Value.int IntKind.i64 2)) fun v50 =>
          Br v50 (
            S.C I.f_slices_reverseRangeOrdered_api_Loc [data0, a1_1, b2_1] h5 fun v54 h16 =>
            Vb (bin .sub b2_1 (Value.int IntKind.i64 1)) fun v56 =>
            Vb (bin .sub v47 a1_1) fun v59 =>
            Vb (bin .sub v56 v59) fun v60 =>
            J1 v60 (Value.int IntKind.i64 1) h16) (
            J1 v47 v48 h5)) fun J0 =>
      Vb (uno .not wasBalanced8) fun v35 =>
      Br v35 (
        S.C I.f_slices_breakPatternsOrdered_api_Loc [data0, a1_1, b2_1] h1 fun v39 h17 =>
        Vb (bin .sub limit3_1 (Value.int IntKind.i64 1)) fun v41 =>
        J0 v41 h17) (
        J0 limit3_1 h1)))

def F_math_bits_Len (S : Sys) (I : Ids) (x0 : Value) (h : Hp) (R : Value → Hp → Prop) : Prop :=
  S.C I.f_math_bits_Len64 [x0] h fun v7 h1 =>
  R v7 h1

def F_space_Space_Back (S : Sys) (I : Ids) (s0 mark1 : Value) (h : Hp) (R : Value → Hp → Prop) : Prop :=
  Jn1 (fun v19 h1 =>
      Br v19 (
        Vb (nck s0) fun v22 =>
        Vb (fa 2 v22) fun v23 =>
        Vb (ldc v23 h1) fun v24 =>
        Vb (slc 2 v24 none (some mark1) (some mark1)) fun v27 =>
        Vb (nck s0) fun v28 =>
        Vb (fa 2 v28) fun v29 =>
        Sb (sto 1 v29 v27 h1) fun h2 =>
        R (.tuple #[]) h2) (
        R (.tuple #[]) h1)) fun J0 =>
  S.C I.f_space_Space_Ended [s0] h fun v5 h3 =>
  Vb (uno .not v5) fun v6 =>
  Br v6 (
    Vb (bin .geq mark1 (Value.int IntKind.i64 0)) fun v9 =>
    Br v9 (
      Vb (nck s0) fun v14 =>
      Vb (fa 2 v14) fun v15 =>
      Vb (ldc v15 h3) fun v16 =>
      Vb (lnS v16) fun v17 =>
      Vb (bin .leq mark1 v17) fun v18 =>
      J0 v18 h3) (
      J0 (Value.bool false) h3)) (
    J0 (Value.bool false) h3)

def F_pool_Pool_Node (S : Sys) (I : Ids) (p0 at1 : Value) (h : Hp) (R : Value → Hp → Prop) : Prop :=
  Eb (nw (Value.cells p0) I.t_pool_Pool h) fun p2 h1 =>
  Jn1 (fun v23 h2 =>
      Br v23 (
        R (.tuple #[(Value.int IntKind.i64 0), (Value.bool false)]) h2) (
        Vb (fa 1 p2) fun v25 =>
        Vb (ldc v25 h2) fun v26 =>
        Vb (bin .sub at1 v26) fun v27 =>
        Vb (bin .quo v27 (Value.int IntKind.i64 8)) fun v28 =>
        Vb (fa 2 p2) fun v30 =>
        Vb (ldc v30 h2) fun v31 =>
        Vb (bin .geq v28 v31) fun v32 =>
        Br v32 (
          R (.tuple #[(Value.int IntKind.i64 0), (Value.bool false)]) h2) (
          R (.tuple #[v28, (Value.bool true)]) h2))) fun J0 =>
  Vb (lda 3 p2 h1) fun v7 =>
  S.C I.f_pool_Pool_Check [v7] h1 fun v8 h3 =>
  Vb (bin .neq v8 (Value.int IntKind.i64 0)) fun v9 =>
  Br v9 (
    J0 (Value.bool true) h3) (
    Vb (fa 1 p2) fun v12 =>
    Vb (ldc v12 h3) fun v13 =>
    Vb (bin .lss at1 v13) fun v14 =>
    Br v14 (
      J0 (Value.bool true) h3) (
      Vb (fa 1 p2) fun v18 =>
      Vb (ldc v18 h3) fun v19 =>
      Vb (bin .sub at1 v19) fun v20 =>
      Vb (bin .rem v20 (Value.int IntKind.i64 8)) fun v21 =>
      Vb (bin .neq v21 (Value.int IntKind.i64 0)) fun v22 =>
      J0 v22 h3))

def F_pool_Pool_add (S : Sys) (I : Ids) (p0 s1 count2 n3 : Value) (h : Hp) (R : Value → Hp → Prop) : Prop :=
  Eb (nw (Value.cells p0) I.t_pool_Pool h) fun p4 h1 =>
  Vb (fa 0 p4) fun v9 =>
  Vb (ldc v9 h1) fun v10 =>
  Vb (bin .add v10 count2) fun v12 =>
  Vb (fa 0 p4) fun v14 =>
  Vb (ldc v14 h1) fun v15 =>
  Vb (bin .add v15 count2) fun v17 =>
  S.C I.f_space_Space_Get [s1, v17] h1 fun v18 h2 =>
  ldc v9 h2 = some v10 ∧
  Vb (bin .add v18 n3) fun v20 =>
  S.C I.f_space_Space_Put [s1, v12, v20] h2 fun v21 h3 =>
  R (.tuple #[]) h3

def F_space_Space_last (S : Sys) (I : Ids) (s0 at1 : Value) (h : Hp) (R : Value → Hp → Prop) : Prop :=
  Vb (nck s0) fun v7 =>
  Vb (fa 2 v7) fun v8 =>
  Vb (ldc v8 h) fun v9 =>
  Vb (lnS v9) fun v10 =>
  Vb (bin .sub v10 (Value.int IntKind.i64 1)) fun v11 =>
  Lp1 v11 h fun i5 h1 again0 =>
  Vb (bin .geq i5 (Value.int IntKind.i64 0)) fun v13 =>
  Br v13 (
    Vb (nck s0) fun v17 =>
    Vb (fa 2 v17) fun v18 =>
    Vb (ldc v18 h1) fun v19 =>
    Vb (ixs 2 v19 i5) fun v21 =>
    Vb (fa 0 v21) fun v22 =>
    Vb (ldc v22 h1) fun v23 =>
    Vb (bin .eql v23 at1) fun v25 =>
    Br v25 (
      R i5 h1) (
      Vb (bin .sub i5 (Value.int IntKind.i64 1)) fun v15 =>
      again0 v15 h1)) (
    R (Value.int IntKind.i64 (-1)) h1)

def F_entry_wrong (S : Sys) (I : Ids) (x0 : Value) (h : Hp) (R : Value → Hp → Prop) : Prop :=
  Eb (nw (Value.cells x0) I.t_api_Entry h) fun x1 h1 =>
  Jn1 (fun v3 h2 =>
      Br v3 (
        R (Value.int IntKind.i64 3) h2) (
        Vb (fa 1 x1) fun v13 =>
        Vb (lda 3 v13 h2) fun v14 =>
        S.C I.f_word_Plain [v14] h2 fun v15 h3 =>
        Vb (uno .not v15) fun v16 =>
        Br v16 (
          R (Value.int IntKind.i64 13) h3) (
          Jn1 (fun v17 h4 =>
              Br v17 (
                R (Value.int IntKind.i64 9) h4) (
                Jn1 (fun v26 h5 =>
                    Br v26 (
                      R (Value.int IntKind.i64 4) h5) (
                      R (Value.int IntKind.i64 0) h5)) fun J2 =>
                Vb (fa 5 x1) fun v27 =>
                Vb (ldc v27 h4) fun v28 =>
                Vb (uno .not v28) fun v29 =>
                Br v29 (
                  Vb (fa 4 x1) fun v31 =>
                  Vb (ldc v31 h4) fun v32 =>
                  Vb (fa 1 x1) fun v33 =>
                  Vb (fa 0 v33) fun v34 =>
                  Vb (ldc v34 h4) fun v35 =>
                  Vb (bin .neq v32 v35) fun v36 =>
                  J2 v36 h4) (
                  J2 (Value.bool false) h4))) fun J1 =>
          Vb (fa 5 x1) fun v18 =>
          Vb (ldc v18 h3) fun v19 =>
          Br v19 (
            Vb (fa 1 x1) fun v21 =>
            Vb (fa 1 v21) fun v22 =>
            Vb (ldc v22 h3) fun v23 =>
            Vb (bin .eql v23 (Value.int IntKind.u32 4294967295)) fun v24 =>
            J1 v24 h3) (
            J1 (Value.bool false) h3)))) fun J0 =>
  Vb (fa 0 x1) fun v4 =>
  Vb (ldc v4 h1) fun v5 =>
  Vb (bin .lss v5 (Value.int IntKind.i64 0)) fun v6 =>
  Br v6 (
    J0 (Value.bool true) h1) (
    Vb (fa 0 x1) fun v8 =>
    Vb (ldc v8 h1) fun v9 =>
    Vb (bin .geq v9 (Value.int IntKind.i64 4096)) fun v10 =>
    J0 v10 h1)

def F_slices_ContainsFunc_api_Entry_api_Entry (S : Sys) (I : Ids) (s0 f1 : Value) (h : Hp) (R : Value → Hp → Prop) : Prop :=
  S.C I.f_slices_IndexFunc_api_Entry_api_Entry [s0, f1] h fun v7 h1 =>
  Vb (bin .geq v7 (Value.int IntKind.i64 0)) fun v8 =>
  R v8 h1

def F_entry_Check_1 (S : Sys) (I : Ids) (y0 v1 : Value) (h : Hp) (R : Value → Hp → Prop) : Prop :=
  Eb (nw (Value.cells y0) I.t_api_Entry h) fun y2 h1 =>
  Vb (fa 0 y2) fun v4 =>
  Vb (ldc v4 h1) fun v5 =>
  Vb (fa 0 v1) fun v6 =>
  Vb (ldc v6 h1) fun v7 =>
  Vb (bin .eql v5 v7) fun v8 =>
  R v8 h1

def F_slices_insertionSortOrdered_api_Loc (S : Sys) (I : Ids) (data0 a1 b2 : Value) (h : Hp) (R : Value → Hp → Prop) : Prop :=
  Vb (bin .add a1 (Value.int IntKind.i64 1)) fun v9 =>
  Lp1 v9 h fun i6 h1 again0 =>
  Vb (bin .lss i6 b2) fun v12 =>
  Br v12 (
    Lp1 i6 h1 fun j7 h2 again1 =>
    Jn1 (fun v30 h3 =>
        Br v30 (
          Vb (bin .sub j7 (Value.int IntKind.i64 1)) fun v37 =>
          Vb (bin .sub j7 (Value.int IntKind.i64 1)) fun v40 =>
          Vb (ixs 1 data0 v40) fun v41 =>
          Vb (ldc v41 h3) fun v42 =>
          Vb (ixs 1 data0 j7) fun v45 =>
          Vb (ldc v45 h3) fun v46 =>
          Vb (ixs 1 data0 j7) fun v47 =>
          Sb (sto 1 v47 v42 h3) fun h4 =>
          Vb (ixs 1 data0 v37) fun v48 =>
          Sb (sto 1 v48 v46 h4) fun h5 =>
          Vb (bin .sub j7 (Value.int IntKind.i64 1)) fun v32 =>
          again1 v32 h5) (
          Vb (bin .add i6 (Value.int IntKind.i64 1)) fun v14 =>
          again0 v14 h3)) fun J0 =>
    Vb (bin .gtr j7 a1) fun v18 =>
    Br v18 (
      Vb (ixs 1 data0 j7) fun v22 =>
      Vb (ldc v22 h2) fun v23 =>
      Vb (bin .sub j7 (Value.int IntKind.i64 1)) fun v26 =>
      Vb (ixs 1 data0 v26) fun v27 =>
      Vb (ldc v27 h2) fun v28 =>
      S.C I.f_cmp_Less_api_Loc [v23, v28] h2 fun v29 h6 =>
      J0 v29 h6) (
      J0 (Value.bool false) h2)) (
    R (.tuple #[]) h1)

def F_slices_heapSortOrdered_api_Loc (S : Sys) (I : Ids) (data0 a1 b2 : Value) (h : Hp) (R : Value → Hp → Prop) : Prop :=
  Vb (bin .sub b2 a1) fun v14 =>
  Vb (bin .sub v14 (Value.int IntKind.i64 1)) fun v16 =>
  Vb (bin .quo v16 (Value.int IntKind.i64 2)) fun v17 =>
  Lp1 v17 h fun i9 h1 again0 =>
  Vb (bin .geq i9 (Value.int IntKind.i64 0)) fun v19 =>
  Br v19 (
    S.C I.f_slices_siftDownOrdered_api_Loc [data0, i9, v14, a1] h1 fun v26 h2 =>
    Vb (bin .sub i9 (Value.int IntKind.i64 1)) fun v21 =>
    again0 v21 h2) (
    Vb (bin .sub v14 (Value.int IntKind.i64 1)) fun v28 =>
    Lp1 v28 h1 fun i10 h3 again1 =>
    Vb (bin .geq i10 (Value.int IntKind.i64 0)) fun v30 =>
    Br v30 (
      Vb (bin .add a1 i10) fun v38 =>
      Vb (bin .add a1 i10) fun v42 =>
      Vb (ixs 1 data0 v42) fun v43 =>
      Vb (ldc v43 h3) fun v44 =>
      Vb (ixs 1 data0 a1) fun v47 =>
      Vb (ldc v47 h3) fun v48 =>
      Vb (ixs 1 data0 a1) fun v49 =>
      Sb (sto 1 v49 v44 h3) fun h4 =>
      Vb (ixs 1 data0 v38) fun v50 =>
      Sb (sto 1 v50 v48 h4) fun h5 =>
      S.C I.f_slices_siftDownOrdered_api_Loc [data0, (Value.int IntKind.i64 0), i10, a1] h5 fun v55 h6 =>
      Vb (bin .sub i10 (Value.int IntKind.i64 1)) fun v32 =>
      again1 v32 h6) (
      R (.tuple #[]) h3))

def F_slices_breakPatternsOrdered_api_Loc (S : Sys) (I : Ids) (data0 a1 b2 : Value) (h : Hp) (R : Value → Hp → Prop) : Prop :=
  Vb (bin .sub b2 a1) fun v13 =>
  Vb (bin .geq v13 (Value.int IntKind.i64 8)) fun v15 =>
  Br v15 (
    Vb (cvi .u64 v13) fun v17 =>
    Eb (nw #[Value.int IntKind.u64 0] I.t_slices_xorshift h) fun random7 h1 =>
    Sb (sto 1 random7 v17 h1) fun h2 =>
    S.C I.f_slices_nextPowerOfTwo [v13] h2 fun v19 h3 =>
    Vb (bin .quo v13 (Value.int IntKind.i64 4)) fun v22 =>
    Vb (bin .mul v22 (Value.int IntKind.i64 2)) fun v23 =>
    Vb (bin .add a1 v23) fun v24 =>
    Vb (bin .sub v24 (Value.int IntKind.i64 1)) fun v25 =>
    Lp1 v25 h3 fun idx9 h4 again0 =>
    Vb (bin .quo v13 (Value.int IntKind.i64 4)) fun v29 =>
    Vb (bin .mul v29 (Value.int IntKind.i64 2)) fun v30 =>
    Vb (bin .add a1 v30) fun v31 =>
    Vb (bin .add v31 (Value.int IntKind.i64 1)) fun v32 =>
    Vb (bin .leq idx9 v32) fun v33 =>
    Br v33 (
      S.C I.f_slices_xorshift_Next [random7] h4 fun v36 h5 =>
      Vb (bin .sub v19 (Value.int IntKind.u64 1)) fun v38 =>
      Vb (bin .and v36 v38) fun v39 =>
      Vb (cvi .i64 v39) fun v40 =>
      Jn1 (fun other10 h6 =>
          Vb (bin .add a1 other10) fun v52 =>
          Vb (bin .add a1 other10) fun v56 =>
          Vb (ixs 1 data0 v56) fun v57 =>
          Vb (ldc v57 h6) fun v58 =>
          Vb (ixs 1 data0 idx9) fun v61 =>
          Vb (ldc v61 h6) fun v62 =>
          Vb (ixs 1 data0 idx9) fun v63 =>
          Sb (sto 1 v63 v58 h6) fun h7 =>
          Vb (ixs 1 data0 v52) fun v64 =>
          Sb (sto 1 v64 v62 h7) fun h8 =>
          Vb (bin .add idx9 (Value.int IntKind.i64 1)) fun v35 =>
          again0 v35 h8) fun J0 =>
      Vb (bin .geq v40 v13) fun v43 =>
      Br v43 (
        Vb (bin .sub v40 v13) fun v46 =>
        J0 v46 h5) (
        J0 v40 h5)) (
      R (.tuple #[]) h4)) (
    R (.tuple #[]) h)

def F_slices_choosePivotOrdered_api_Loc (S : Sys) (I : Ids) (data0 a1 b2 : Value) (h : Hp) (R : Value → Hp → Prop) : Prop :=
  Vb (bin .sub b2 a1) fun v15 =>
  Eb (nw #[Value.int IntKind.i64 0] I.t_int h) fun swaps9 h1 =>
  Vb (bin .quo v15 (Value.int IntKind.i64 4)) fun v18 =>
  Vb (bin .mul v18 (Value.int IntKind.i64 1)) fun v19 =>
  Vb (bin .add a1 v19) fun v20 =>
  Vb (bin .quo v15 (Value.int IntKind.i64 4)) fun v23 =>
  Vb (bin .mul v23 (Value.int IntKind.i64 2)) fun v24 =>
  Vb (bin .add a1 v24) fun v25 =>
  Vb (bin .quo v15 (Value.int IntKind.i64 4)) fun v28 =>
  Vb (bin .mul v28 (Value.int IntKind.i64 3)) fun v29 =>
  Vb (bin .add a1 v29) fun v30 =>
  Jn1 (fun j11 h2 =>
      Vb (ldc swaps9 h2) fun v49 =>
      Vb (bin .eql v49 (Value.int IntKind.i64 0)) fun v52 =>
      Br v52 (
        R (.tuple #[j11, (Value.int IntKind.i64 1)]) h2) (
        Vb (bin .eql v49 (Value.int IntKind.i64 12)) fun v55 =>
        Br v55 (
          R (.tuple #[j11, (Value.int IntKind.i64 2)]) h2) (
          R (.tuple #[j11, (Value.int IntKind.i64 0)]) h2))) fun J0 =>
  Vb (bin .geq v15 (Value.int IntKind.i64 8)) fun v32 =>
  Br v32 (
    Jn3 (fun i10 j11_1 k12 h3 =>
        S.C I.f_slices_medianOrdered_api_Loc [data0, i10, j11_1, k12, swaps9] h3 fun v48 h4 =>
        J0 v48 h4) fun J1 =>
    Vb (bin .geq v15 (Value.int IntKind.i64 50)) fun v34 =>
    Br v34 (
      S.C I.f_slices_medianAdjacentOrdered_api_Loc [data0, v20, swaps9] h1 fun v37 h5 =>
      S.C I.f_slices_medianAdjacentOrdered_api_Loc [data0, v25, swaps9] h5 fun v40 h6 =>
      S.C I.f_slices_medianAdjacentOrdered_api_Loc [data0, v30, swaps9] h6 fun v43 h7 =>
      J1 v37 v40 v43 h7) (
      J1 v20 v25 v30 h1)) (
    J0 v25 h1)

def F_slices_reverseRangeOrdered_api_Loc (S : Sys) (I : Ids) (data0 a1 b2 : Value) (h : Hp) (R : Value → Hp → Prop) : Prop :=
  Vb (bin .sub b2 (Value.int IntKind.i64 1)) fun v10 =>
  Lp2 a1 v10 h fun i6 j7 h1 again0 =>
  Vb (bin .lss i6 j7) fun v13 =>
  Br v13 (
    Vb (ixs 1 data0 j7) fun v20 =>
    Vb (ldc v20 h1) fun v21 =>
    Vb (ixs 1 data0 i6) fun v24 =>
    Vb (ldc v24 h1) fun v25 =>
    Vb (ixs 1 data0 i6) fun v26 =>
    Sb (sto 1 v26 v21 h1) fun h2 =>
    Vb (ixs 1 data0 j7) fun v27 =>
    Sb (sto 1 v27 v25 h2) fun h3 =>
    Vb (bin .add i6 (Value.int IntKind.i64 1)) fun v29 =>
    Vb (bin .sub j7 (Value.int IntKind.i64 1)) fun v31 =>
    again0 v29 v31 h3) (
    R (.tuple #[]) h1)

def F_slices_partialInsertionSortOrdered_api_Loc (S : Sys) (I : Ids) (data0 a1 b2 : Value) (h : Hp) (R : Value → Hp → Prop) : Prop :=
  Vb (bin .add a1 (Value.int IntKind.i64 1)) fun v12 =>
  Lp2 v12 (Value.int IntKind.i64 0) h fun i7 j8 h1 again0 =>
  Vb (bin .lss j8 (Value.int IntKind.i64 5)) fun v14 =>
  Br v14 (
    Jn1 (fun i7_1 h2 =>
        Vb (bin .add j8 (Value.int IntKind.i64 1)) fun v16 =>
        again0 i7_1 v16 h2) fun J0 =>
    Lp1 i7 h1 fun i7_2 h3 again1 =>
    Jn1 (fun v32 h4 =>
        Br v32 (
          Vb (bin .add i7_2 (Value.int IntKind.i64 1)) fun v34 =>
          again1 v34 h4) (
          Vb (bin .eql i7_2 b2) fun v37 =>
          Br v37 (
            R (Value.bool true) h4) (
            Vb (bin .sub b2 a1) fun v40 =>
            Vb (bin .lss v40 (Value.int IntKind.i64 50)) fun v41 =>
            Br v41 (
              R (Value.bool false) h4) (
              Vb (bin .sub i7_2 (Value.int IntKind.i64 1)) fun v46 =>
              Vb (bin .sub i7_2 (Value.int IntKind.i64 1)) fun v49 =>
              Vb (ixs 1 data0 v49) fun v50 =>
              Vb (ldc v50 h4) fun v51 =>
              Vb (ixs 1 data0 i7_2) fun v54 =>
              Vb (ldc v54 h4) fun v55 =>
              Vb (ixs 1 data0 i7_2) fun v56 =>
              Sb (sto 1 v56 v51 h4) fun h5 =>
              Vb (ixs 1 data0 v46) fun v57 =>
              Sb (sto 1 v57 v55 h5) fun h6 =>
              Jn0 (fun h7 =>
                  Vb (bin .sub b2 i7_2) fun v97 =>
                  Vb (bin .geq v97 (Value.int IntKind.i64 2)) fun v98 =>
                  Br v98 (
                    Vb (bin .add i7_2 (Value.int IntKind.i64 1)) fun v100 =>
                    Lp1 v100 h7 fun j10 h8 again2 =>
                    Vb (bin .lss j10 b2) fun v103 =>
                    Br v103 (
                      Vb (ixs 1 data0 j10) fun v108 =>
                      Vb (ldc v108 h8) fun v109 =>
                      Vb (bin .sub j10 (Value.int IntKind.i64 1)) fun v112 =>
                      Vb (ixs 1 data0 v112) fun v113 =>
                      Vb (ldc v113 h8) fun v114 =>
                      S.C I.f_cmp_Less_api_Loc [v109, v114] h8 fun v115 h9 =>
                      Vb (uno .not v115) fun v116 =>
                      Br v116 (
                        J0 i7_2 h9) (
                        Vb (bin .sub j10 (Value.int IntKind.i64 1)) fun v121 =>
                        Vb (bin .sub j10 (Value.int IntKind.i64 1)) fun v124 =>
                        Vb (ixs 1 data0 v124) fun v125 =>
                        Vb (ldc v125 h9) fun v126 =>
                        Vb (ixs 1 data0 j10) fun v129 =>
                        Vb (ldc v129 h9) fun v130 =>
                        Vb (ixs 1 data0 j10) fun v131 =>
                        Sb (sto 1 v131 v126 h9) fun h10 =>
                        Vb (ixs 1 data0 v121) fun v132 =>
                        Sb (sto 1 v132 v130 h10) fun h11 =>
                        Vb (bin .add j10 (Value.int IntKind.i64 1)) fun v105 =>
                        again2 v105 h11)) (
                      J0 i7_2 h8)) (
                    J0 i7_2 h7)) fun J2 =>
              Vb (bin .sub i7_2 a1) fun v60 =>
              Vb (bin .geq v60 (Value.int IntKind.i64 2)) fun v61 =>
              Br v61 (
                Vb (bin .sub i7_2 (Value.int IntKind.i64 1)) fun v63 =>
                Lp1 v63 h6 fun j9 h12 again3 =>
                Vb (bin .geq j9 (Value.int IntKind.i64 1)) fun v65 =>
                Br v65 (
                  Vb (ixs 1 data0 j9) fun v70 =>
                  Vb (ldc v70 h12) fun v71 =>
                  Vb (bin .sub j9 (Value.int IntKind.i64 1)) fun v74 =>
                  Vb (ixs 1 data0 v74) fun v75 =>
                  Vb (ldc v75 h12) fun v76 =>
                  S.C I.f_cmp_Less_api_Loc [v71, v76] h12 fun v77 h13 =>
                  Vb (uno .not v77) fun v78 =>
                  Br v78 (
                    J2 h13) (
                    Vb (bin .sub j9 (Value.int IntKind.i64 1)) fun v83 =>
                    Vb (bin .sub j9 (Value.int IntKind.i64 1)) fun v86 =>
                    Vb (ixs 1 data0 v86) fun v87 =>
                    Vb (ldc v87 h13) fun v88 =>
                    Vb (ixs 1 data0 j9) fun v91 =>
                    Vb (ldc v91 h13) fun v92 =>
                    Vb (ixs 1 data0 j9) fun v93 =>
                    Sb (sto 1 v93 v88 h13) fun h14 =>
                    Vb (ixs 1 data0 v83) fun v94 =>
                    Sb (sto 1 v94 v92 h14) fun h15 =>
                    Vb (bin .sub j9 (Value.int IntKind.i64 1)) fun v67 =>
                    again3 v67 h15)) (
                  J2 h12)) (
                J2 h6))))) fun J1 =>
    Vb (bin .lss i7_2 b2) fun v19 =>
    Br v19 (
      Vb (ixs 1 data0 i7_2) fun v23 =>
      Vb (ldc v23 h3) fun v24 =>
      Vb (bin .sub i7_2 (Value.int IntKind.i64 1)) fun v27 =>
      Vb (ixs 1 data0 v27) fun v28 =>
      Vb (ldc v28 h3) fun v29 =>
      S.C I.f_cmp_Less_api_Loc [v24, v29] h3 fun v30 h16 =>
      Vb (uno .not v30) fun v31 =>
      J1 v31 h16) (
      J1 (Value.bool false) h3)) (
    R (Value.bool false) h1)

def F_cmp_Less_api_Loc (S : Sys) (I : Ids) (x0 y1 : Value) (h : Hp) (R : Value → Hp → Prop) : Prop :=
  Jn1 (fun v4 h1 =>
      R v4 h1) fun J0 =>
  S.C I.f_cmp_isNaN_api_Loc [x0] h fun v6 h2 =>
  Br v6 (
    S.C I.f_cmp_isNaN_api_Loc [y1] h2 fun v9 h3 =>
    Vb (uno .not v9) fun v10 =>
    Br v10 (
      J0 (Value.bool true) h3) (
      Vb (bin .lss x0 y1) fun v15 =>
      J0 v15 h3)) (
    Vb (bin .lss x0 y1) fun v15_1 =>
    J0 v15_1 h2)

def F_slices_partitionEqualOrdered_api_Loc (S : Sys) (I : Ids) (data0 a1 b2 pivot3 : Value) (h : Hp) (R : Value → Hp → Prop) : Prop :=
  Vb (ixs 1 data0 pivot3) fun v17 =>
  Vb (ldc v17 h) fun v18 =>
  Vb (ixs 1 data0 a1) fun v21 =>
  Vb (ldc v21 h) fun v22 =>
  Vb (ixs 1 data0 a1) fun v23 =>
  Sb (sto 1 v23 v18 h) fun h1 =>
  Vb (ixs 1 data0 pivot3) fun v24 =>
  Sb (sto 1 v24 v22 h1) fun h2 =>
  Vb (bin .add a1 (Value.int IntKind.i64 1)) fun v26 =>
  Vb (bin .sub b2 (Value.int IntKind.i64 1)) fun v28 =>
  Lp2 v26 v28 h2 fun i9 j10 h3 again0 =>
  Lp1 i9 h3 fun i9_1 h4 again1 =>
  Jn1 (fun v43 h5 =>
      Br v43 (
        Vb (bin .add i9_1 (Value.int IntKind.i64 1)) fun v45 =>
        again1 v45 h5) (
        Lp1 j10 h5 fun j10_1 h6 again2 =>
        Jn1 (fun v59 h7 =>
            Br v59 (
              Vb (bin .sub j10_1 (Value.int IntKind.i64 1)) fun v61 =>
              again2 v61 h7) (
              Vb (bin .gtr i9_1 j10_1) fun v64 =>
              Br v64 (
                R i9_1 h7) (
                Vb (ixs 1 data0 j10_1) fun v71 =>
                Vb (ldc v71 h7) fun v72 =>
                Vb (ixs 1 data0 i9_1) fun v75 =>
                Vb (ldc v75 h7) fun v76 =>
                Vb (ixs 1 data0 i9_1) fun v77 =>
                Sb (sto 1 v77 v72 h7) fun h8 =>
                Vb (ixs 1 data0 j10_1) fun v78 =>
                Sb (sto 1 v78 v76 h8) fun h9 =>
                Vb (bin .add i9_1 (Value.int IntKind.i64 1)) fun v80 =>
                Vb (bin .sub j10_1 (Value.int IntKind.i64 1)) fun v82 =>
                again0 v80 v82 h9))) fun J1 =>
        Vb (bin .leq i9_1 j10_1) fun v48 =>
        Br v48 (
          Vb (ixs 1 data0 a1) fun v52 =>
          Vb (ldc v52 h6) fun v53 =>
          Vb (ixs 1 data0 j10_1) fun v56 =>
          Vb (ldc v56 h6) fun v57 =>
          S.C I.f_cmp_Less_api_Loc [v53, v57] h6 fun v58 h10 =>
          J1 v58 h10) (
          J1 (Value.bool false) h6))) fun J0 =>
  Vb (bin .leq i9_1 j10) fun v31 =>
  Br v31 (
    Vb (ixs 1 data0 a1) fun v35 =>
    Vb (ldc v35 h4) fun v36 =>
    Vb (ixs 1 data0 i9_1) fun v39 =>
    Vb (ldc v39 h4) fun v40 =>
    S.C I.f_cmp_Less_api_Loc [v36, v40] h4 fun v41 h11 =>
    Vb (uno .not v41) fun v42 =>
    J0 v42 h11) (
    J0 (Value.bool false) h4)

def F_slices_partitionOrdered_api_Loc (S : Sys) (I : Ids) (data0 a1 b2 pivot3 : Value) (h : Hp) (R : Value → Hp → Prop) : Prop :=
  Vb (ixs 1 data0 pivot3) fun v18 =>
  Vb (ldc v18 h) fun v19 =>
  Vb (ixs 1 data0 a1) fun v22 =>
  Vb (ldc v22 h) fun v23 =>
  Vb (ixs 1 data0 a1) fun v24 =>
  Sb (sto 1 v24 v19 h) fun h1 =>
  Vb (ixs 1 data0 pivot3) fun v25 =>
  Sb (sto 1 v25 v23 h1) fun h2 =>
  Vb (bin .add a1 (Value.int IntKind.i64 1)) fun v27 =>
  Vb (bin .sub b2 (Value.int IntKind.i64 1)) fun v29 =>
  Lp1 v27 h2 fun i10 h3 again0 =>
  Jn1 (fun v43 h4 =>
      Br v43 (
        Vb (bin .add i10 (Value.int IntKind.i64 1)) fun v45 =>
        again0 v45 h4) (
        Lp1 v29 h4 fun j11 h5 again1 =>
        Jn1 (fun v60 h6 =>
            Br v60 (
              Vb (bin .sub j11 (Value.int IntKind.i64 1)) fun v62 =>
              again1 v62 h6) (
              Vb (bin .gtr i10 j11) fun v65 =>
              Br v65 (
                Vb (ixs 1 data0 a1) fun v72 =>
                Vb (ldc v72 h6) fun v73 =>
                Vb (ixs 1 data0 j11) fun v76 =>
                Vb (ldc v76 h6) fun v77 =>
                Vb (ixs 1 data0 j11) fun v78 =>
                Sb (sto 1 v78 v73 h6) fun h7 =>
                Vb (ixs 1 data0 a1) fun v79 =>
                Sb (sto 1 v79 v77 h7) fun h8 =>
                R (.tuple #[j11, (Value.bool true)]) h8) (
                Vb (ixs 1 data0 j11) fun v87 =>
                Vb (ldc v87 h6) fun v88 =>
                Vb (ixs 1 data0 i10) fun v91 =>
                Vb (ldc v91 h6) fun v92 =>
                Vb (ixs 1 data0 i10) fun v93 =>
                Sb (sto 1 v93 v88 h6) fun h9 =>
                Vb (ixs 1 data0 j11) fun v94 =>
                Sb (sto 1 v94 v92 h9) fun h10 =>
                Vb (bin .add i10 (Value.int IntKind.i64 1)) fun v96 =>
                Vb (bin .sub j11 (Value.int IntKind.i64 1)) fun v98 =>
                Lp2 v96 v98 h10 fun i10_1 j11_1 h11 again2 =>
                Lp1 i10_1 h11 fun i10_2 h12 again3 =>
                Jn1 (fun v112 h13 =>
                    Br v112 (
                      Vb (bin .add i10_2 (Value.int IntKind.i64 1)) fun v114 =>
                      again3 v114 h13) (
                      Lp1 j11_1 h13 fun j11_2 h14 again4 =>
                      Jn1 (fun v129 h15 =>
                          Br v129 (
                            Vb (bin .sub j11_2 (Value.int IntKind.i64 1)) fun v131 =>
                            again4 v131 h15) (
                            Vb (bin .gtr i10_2 j11_2) fun v134 =>
                            Br v134 (
                              Vb (ixs 1 data0 a1) fun v159 =>
                              Vb (ldc v159 h15) fun v160 =>
                              Vb (ixs 1 data0 j11_2) fun v163 =>
                              Vb (ldc v163 h15) fun v164 =>
                              Vb (ixs 1 data0 j11_2) fun v165 =>
                              Sb (sto 1 v165 v160 h15) fun h16 =>
                              Vb (ixs 1 data0 a1) fun v166 =>
                              Sb (sto 1 v166 v164 h16) fun h17 =>
                              R (.tuple #[j11_2, (Value.bool false)]) h17) (
                              Vb (ixs 1 data0 j11_2) fun v141 =>
                              Vb (ldc v141 h15) fun v142 =>
                              Vb (ixs 1 data0 i10_2) fun v145 =>
                              Vb (ldc v145 h15) fun v146 =>
                              Vb (ixs 1 data0 i10_2) fun v147 =>
                              Sb (sto 1 v147 v142 h15) fun h18 =>
                              Vb (ixs 1 data0 j11_2) fun v148 =>
                              Sb (sto 1 v148 v146 h18) fun h19 =>
                              Vb (bin .add i10_2 (Value.int IntKind.i64 1)) fun v150 =>
                              Vb (bin .sub j11_2 (Value.int IntKind.i64 1)) fun v152 =>
                              again2 v150 v152 h19))) fun J3 =>
                      Vb (bin .leq i10_2 j11_2) fun v117 =>
                      Br v117 (
                        Vb (ixs 1 data0 j11_2) fun v121 =>
                        Vb (ldc v121 h14) fun v122 =>
                        Vb (ixs 1 data0 a1) fun v125 =>
                        Vb (ldc v125 h14) fun v126 =>
                        S.C I.f_cmp_Less_api_Loc [v122, v126] h14 fun v127 h20 =>
                        Vb (uno .not v127) fun v128 =>
                        J3 v128 h20) (
                        J3 (Value.bool false) h14))) fun J2 =>
                Vb (bin .leq i10_2 j11_1) fun v101 =>
                Br v101 (
                  Vb (ixs 1 data0 i10_2) fun v105 =>
                  Vb (ldc v105 h12) fun v106 =>
                  Vb (ixs 1 data0 a1) fun v109 =>
                  Vb (ldc v109 h12) fun v110 =>
                  S.C I.f_cmp_Less_api_Loc [v106, v110] h12 fun v111 h21 =>
                  J2 v111 h21) (
                  J2 (Value.bool false) h12)))) fun J1 =>
        Vb (bin .leq i10 j11) fun v48 =>
        Br v48 (
          Vb (ixs 1 data0 j11) fun v52 =>
          Vb (ldc v52 h5) fun v53 =>
          Vb (ixs 1 data0 a1) fun v56 =>
          Vb (ldc v56 h5) fun v57 =>
          S.C I.f_cmp_Less_api_Loc [v53, v57] h5 fun v58 h22 =>
          Vb (uno .not v58) fun v59 =>
          J1 v59 h22) (
          J1 (Value.bool false) h5))) fun J0 =>
  Vb (bin .leq i10 v29) fun v32 =>
  Br v32 (
    Vb (ixs 1 data0 i10) fun v36 =>
    Vb (ldc v36 h3) fun v37 =>
    Vb (ixs 1 data0 a1) fun v40 =>
    Vb (ldc v40 h3) fun v41 =>
    S.C I.f_cmp_Less_api_Loc [v37, v41] h3 fun v42 h23 =>
    J0 v42 h23) (
    J0 (Value.bool false) h3)

def F_math_bits_Len32 (S : Sys) (I : Ids) (x0 : Value) (h : Hp) (R : Value → Hp → Prop) : Prop :=
  Jn2 (fun x0_1 n2 h1 =>
      Jn2 (fun x0_2 n2_1 h2 =>
          Vb (cvi .u8 x0_2) fun v15 =>
          Vb (idst (Value.string { data := (List.toArray (List.append (List.append [0, 1, 2, 2, 3, 3, 3, 3, 4, 4, 4, 4, 4, 4, 4, 4, 5, 5, 5, 5, 5, 5, 5, 5, 5, 5, 5, 5, 5, 5, 5, 5, 6, 6, 6, 6, 6, 6, 6, 6, 6, 6, 6, 6, 6, 6, 6, 6, 6, 6, 6, 6, 6, 6, 6, 6, 6, 6, 6, 6, 6, 6, 6, 6] [7, 7, 7, 7, 7, 7, 7, 7, 7, 7, 7, 7, 7, 7, 7, 7, 7, 7, 7, 7, 7, 7, 7, 7, 7, 7, 7, 7, 7, 7, 7, 7, 7, 7, 7, 7, 7, 7, 7, 7, 7, 7, 7, 7, 7, 7, 7, 7, 7, 7, 7, 7, 7, 7, 7, 7, 7, 7, 7, 7, 7, 7, 7, 7]) (List.append [8, 8, 8, 8, 8, 8, 8, 8, 8, 8, 8, 8, 8, 8, 8, 8, 8, 8, 8, 8, 8, 8, 8, 8, 8, 8, 8, 8, 8, 8, 8, 8, 8, 8, 8, 8, 8, 8, 8, 8, 8, 8, 8, 8, 8, 8, 8, 8, 8, 8, 8, 8, 8, 8, 8, 8, 8, 8, 8, 8, 8, 8, 8, 8] [8, 8, 8, 8, 8, 8, 8, 8, 8, 8, 8, 8, 8, 8, 8, 8, 8, 8, 8, 8, 8, 8, 8, 8, 8, 8, 8, 8, 8, 8, 8, 8, 8, 8, 8, 8, 8, 8, 8, 8, 8, 8, 8, 8, 8, 8, 8, 8, 8, 8, 8, 8, 8, 8, 8, 8, 8, 8, 8, 8, 8, 8, 8, 8]))) }) v15) fun v16 =>
          Vb (cvi .i64 v16) fun v17 =>
          Vb (bin .add n2_1 v17) fun v18 =>
          R v18 h2) fun J1 =>
      Vb (bin .geq x0_1 (Value.int IntKind.u32 256)) fun v8 =>
      Br v8 (
        Vb (bin .shr x0_1 (Value.int IntKind.u64 8)) fun v10 =>
        Vb (bin .add n2 (Value.int IntKind.i64 8)) fun v12 =>
        J1 v10 v12 h1) (
        J1 x0_1 n2 h1)) fun J0 =>
  Vb (bin .geq x0 (Value.int IntKind.u32 65536)) fun v4 =>
  Br v4 (
    Vb (bin .shr x0 (Value.int IntKind.u64 16)) fun v6 =>
    J0 v6 (Value.int IntKind.i64 16) h) (
    J0 x0 (Value.int IntKind.i64 0) h)

def F_math_bits_Len64 (S : Sys) (I : Ids) (x0 : Value) (h : Hp) (R : Value → Hp → Prop) : Prop :=
  Jn2 (fun x0_1 n2 h1 =>
      Jn2 (fun x0_2 n2_1 h2 =>
          Jn2 (fun x0_3 n2_2 h3 =>
              Vb (cvi .u8 x0_3) fun v21 =>
              Vb (idst (Value.string { data := (List.toArray (List.append (List.append [0, 1, 2, 2, 3, 3, 3, 3, 4, 4, 4, 4, 4, 4, 4, 4, 5, 5, 5, 5, 5, 5, 5, 5, 5, 5, 5, 5, 5, 5, 5, 5, 6, 6, 6, 6, 6, 6, 6, 6, 6, 6, 6, 6, 6, 6, 6, 6, 6, 6, 6, 6, 6, 6, 6, 6, 6, 6, 6, 6, 6, 6, 6, 6] [7, 7, 7, 7, 7, 7, 7, 7, 7, 7, 7, 7, 7, 7, 7, 7, 7, 7, 7, 7, 7, 7, 7, 7, 7, 7, 7, 7, 7, 7, 7, 7, 7, 7, 7, 7, 7, 7, 7, 7, 7, 7, 7, 7, 7, 7, 7, 7, 7, 7, 7, 7, 7, 7, 7, 7, 7, 7, 7, 7, 7, 7, 7, 7]) (List.append [8, 8, 8, 8, 8, 8, 8, 8, 8, 8, 8, 8, 8, 8, 8, 8, 8, 8, 8, 8, 8, 8, 8, 8, 8, 8, 8, 8, 8, 8, 8, 8, 8, 8, 8, 8, 8, 8, 8, 8, 8, 8, 8, 8, 8, 8, 8, 8, 8, 8, 8, 8, 8, 8, 8, 8, 8, 8, 8, 8, 8, 8, 8, 8] [8, 8, 8, 8, 8, 8, 8, 8, 8, 8, 8, 8, 8, 8, 8, 8, 8, 8, 8, 8, 8, 8, 8, 8, 8, 8, 8, 8, 8, 8, 8, 8, 8, 8, 8, 8, 8, 8, 8, 8, 8, 8, 8, 8, 8, 8, 8, 8, 8, 8, 8, 8, 8, 8, 8, 8, 8, 8, 8, 8, 8, 8, 8, 8]))) }) v21) fun v22 =>
              Vb (cvi .i64 v22) fun v23 =>
              Vb (bin .add n2_2 v23) fun v24 =>
              R v24 h3) fun J2 =>
          Vb (bin .geq x0_2 (Value.int IntKind.u64 256)) fun v14 =>
          Br v14 (
            Vb (bin .shr x0_2 (Value.int IntKind.u64 8)) fun v16 =>
            Vb (bin .add n2_1 (Value.int IntKind.i64 8)) fun v18 =>
            J2 v16 v18 h2) (
            J2 x0_2 n2_1 h2)) fun J1 =>
      Vb (bin .geq x0_1 (Value.int IntKind.u64 65536)) fun v8 =>
      Br v8 (
        Vb (bin .shr x0_1 (Value.int IntKind.u64 16)) fun v10 =>
        Vb (bin .add n2 (Value.int IntKind.i64 16)) fun v12 =>
        J1 v10 v12 h1) (
        J1 x0_1 n2 h1)) fun J0 =>
  Vb (bin .geq x0 (Value.int IntKind.u64 4294967296)) fun v4 =>
  Br v4 (
    Vb (bin .shr x0 (Value.int IntKind.u64 32)) fun v6 =>
    J0 v6 (Value.int IntKind.i64 32) h) (
    J0 x0 (Value.int IntKind.i64 0) h)

def F_word_Plain (S : Sys) (I : Ids) (w0 : Value) (h : Hp) (R : Value → Hp → Prop) : Prop :=
  Eb (nw (Value.cells w0) I.t_api_Word h) fun w1 h1 =>
  Vb (lda 3 w1 h1) fun v3 =>
  S.C I.f_word_kind [v3] h1 fun v4 h2 =>
  Vb (bin .eql v4 (Value.int IntKind.i64 0)) fun v5 =>
  R v5 h2

def F_slices_IndexFunc_api_Entry_api_Entry (S : Sys) (I : Ids) (s0 f1 : Value) (h : Hp) (R : Value → Hp → Prop) : Prop :=
  Vb (lnS s0) fun v7 =>
  Lp1 (Value.int IntKind.i64 0) h fun v8 h1 again0 =>
  Vb (bin .lss v8 v7) fun v9 =>
  Br v9 (
    Vb (ixs 6 s0 v8) fun v14 =>
    Vb (lda 6 v14 h1) fun v15 =>
    Cv S.C S.Y f1 [v15] h1 fun v16 h2 =>
    Br v16 (
      R v8 h2) (
      Vb (bin .add v8 (Value.int IntKind.i64 1)) fun v18 =>
      again0 v18 h2)) (
    R (Value.int IntKind.i64 (-1)) h1)

def F_slices_siftDownOrdered_api_Loc (S : Sys) (I : Ids) (data0 lo1 hi2 first3 : Value) (h : Hp) (R : Value → Hp → Prop) : Prop :=
  Lp1 lo1 h fun root8 h1 again0 =>
  Vb (bin .mul (Value.int IntKind.i64 2) root8) fun v12 =>
  Vb (bin .add v12 (Value.int IntKind.i64 1)) fun v13 =>
  Vb (bin .geq v13 hi2) fun v16 =>
  Br v16 (
    R (.tuple #[]) h1) (
    Jn1 (fun child9 h2 =>
        Vb (bin .add first3 root8) fun v42 =>
        Vb (ixs 1 data0 v42) fun v43 =>
        Vb (ldc v43 h2) fun v44 =>
        Vb (bin .add first3 child9) fun v48 =>
        Vb (ixs 1 data0 v48) fun v49 =>
        Vb (ldc v49 h2) fun v50 =>
        S.C I.f_cmp_Less_api_Loc [v44, v50] h2 fun v51 h3 =>
        Vb (uno .not v51) fun v52 =>
        Br v52 (
          R (.tuple #[]) h3) (
          Vb (bin .add first3 root8) fun v56 =>
          Vb (bin .add first3 child9) fun v60 =>
          Vb (bin .add first3 child9) fun v64 =>
          Vb (ixs 1 data0 v64) fun v65 =>
          Vb (ldc v65 h3) fun v66 =>
          Vb (bin .add first3 root8) fun v70 =>
          Vb (ixs 1 data0 v70) fun v71 =>
          Vb (ldc v71 h3) fun v72 =>
          Vb (ixs 1 data0 v56) fun v73 =>
          Sb (sto 1 v73 v66 h3) fun h4 =>
          Vb (ixs 1 data0 v60) fun v74 =>
          Sb (sto 1 v74 v72 h4) fun h5 =>
          again0 child9 h5)) fun J0 =>
    Jn1 (fun v36 h6 =>
        Br v36 (
          Vb (bin .add v13 (Value.int IntKind.i64 1)) fun v38 =>
          J0 v38 h6) (
          J0 v13 h6)) fun J1 =>
    Vb (bin .add v13 (Value.int IntKind.i64 1)) fun v18 =>
    Vb (bin .lss v18 hi2) fun v20 =>
    Br v20 (
      Vb (bin .add first3 v13) fun v25 =>
      Vb (ixs 1 data0 v25) fun v26 =>
      Vb (ldc v26 h1) fun v27 =>
      Vb (bin .add first3 v13) fun v31 =>
      Vb (bin .add v31 (Value.int IntKind.i64 1)) fun v32 =>
      Vb (ixs 1 data0 v32) fun v33 =>
      Vb (ldc v33 h1) fun v34 =>
      S.C I.f_cmp_Less_api_Loc [v27, v34] h1 fun v35 h7 =>
      J1 v35 h7) (
      J1 (Value.bool false) h1))

def F_slices_nextPowerOfTwo (S : Sys) (I : Ids) (length0 : Value) (h : Hp) (R : Value → Hp → Prop) : Prop :=
  Vb (cvi .u64 length0) fun v4 =>
  S.C I.f_math_bits_Len [v4] h fun v5 h1 =>
  Vb (bin .shl (Value.int IntKind.u64 1) v5) fun v6 =>
  R v6 h1

def F_slices_xorshift_Next (S : Sys) (I : Ids) (r0 : Value) (h : Hp) (R : Value → Hp → Prop) : Prop :=
  Vb (nck r0) fun v4 =>
  Vb (ldc v4 h) fun v5 =>
  Vb (nck r0) fun v7 =>
  Vb (ldc v7 h) fun v8 =>
  Vb (bin .shl v8 (Value.int IntKind.u64 13)) fun v9 =>
  Vb (bin .xor v5 v9) fun v10 =>
  Vb (nck r0) fun v11 =>
  Sb (sto 1 v11 v10 h) fun h1 =>
  Vb (nck r0) fun v13 =>
  Vb (ldc v13 h1) fun v14 =>
  Vb (nck r0) fun v16 =>
  Vb (ldc v16 h1) fun v17 =>
  Vb (bin .shr v17 (Value.int IntKind.u64 7)) fun v18 =>
  Vb (bin .xor v14 v18) fun v19 =>
  Vb (nck r0) fun v20 =>
  Sb (sto 1 v20 v19 h1) fun h2 =>
  Vb (nck r0) fun v22 =>
  Vb (ldc v22 h2) fun v23 =>
  Vb (nck r0) fun v25 =>
  Vb (ldc v25 h2) fun v26 =>
  Vb (bin .shl v26 (Value.int IntKind.u64 17)) fun v27 =>
  Vb (bin .xor v23 v27) fun v28 =>
  Vb (nck r0) fun v29 =>
  Sb (sto 1 v29 v28 h2) fun h3 =>
  Vb (nck r0) fun v31 =>
  Vb (ldc v31 h3) fun v32 =>
  R v32 h3

def F_slices_medianAdjacentOrdered_api_Loc (S : Sys) (I : Ids) (data0 a1 swaps2 : Value) (h : Hp) (R : Value → Hp → Prop) : Prop :=
  Vb (bin .sub a1 (Value.int IntKind.i64 1)) fun v9 =>
  Vb (bin .add a1 (Value.int IntKind.i64 1)) fun v12 =>
  S.C I.f_slices_medianOrdered_api_Loc [data0, v9, a1, v12, swaps2] h fun v14 h1 =>
  R v14 h1

def F_slices_medianOrdered_api_Loc (S : Sys) (I : Ids) (data0 a1 b2 c3 swaps4 : Value) (h : Hp) (R : Value → Hp → Prop) : Prop :=
  S.C I.f_slices_order2Ordered_api_Loc [data0, a1, b2, swaps4] h fun v16 h1 =>
  Vb (ext 0 v16) fun v17 =>
  Vb (ext 1 v16) fun v18 =>
  S.C I.f_slices_order2Ordered_api_Loc [data0, v18, c3, swaps4] h1 fun v24 h2 =>
  Vb (ext 0 v24) fun v25 =>
  Vb (ext 1 v24) fun v26 =>
  S.C I.f_slices_order2Ordered_api_Loc [data0, v17, v25, swaps4] h2 fun v32 h3 =>
  Vb (ext 0 v32) fun v33 =>
  Vb (ext 1 v32) fun v34 =>
  R v34 h3

def F_cmp_isNaN_api_Loc (S : Sys) (I : Ids) (x0 : Value) (h : Hp) (R : Value → Hp → Prop) : Prop :=
  Vb (bin .neq x0 x0) fun v5 =>
  R v5 h

def F_word_kind (S : Sys) (I : Ids) (w0 : Value) (h : Hp) (R : Value → Hp → Prop) : Prop :=
  Eb (nw (Value.cells w0) I.t_api_Word h) fun w1 h1 =>
  Vb (fa 2 w1) fun v6 =>
  Vb (ldc v6 h1) fun v7 =>
  S.C I.f_word_Who [v7] h1 fun v8 h2 =>
  Vb (ext 0 v8) fun v9 =>
  Vb (ext 1 v8) fun v10 =>
  Vb (fa 2 w1) fun v12 =>
  Vb (ldc v12 h2) fun v13 =>
  Vb (bin .eql v13 (Value.int IntKind.u32 0)) fun v14 =>
  Br v14 (
    R (Value.int IntKind.i64 0) h2) (
    Vb (bin .gtr v9 (Value.int IntKind.i64 0)) fun v17 =>
    Br v17 (
      R (Value.int IntKind.i64 1) h2) (
      R (Value.int IntKind.i64 2) h2))

def F_slices_order2Ordered_api_Loc (S : Sys) (I : Ids) (data0 a1 b2 swaps3 : Value) (h : Hp) (R : Value → Hp → Prop) : Prop :=
  Vb (ixs 1 data0 b2) fun v12 =>
  Vb (ldc v12 h) fun v13 =>
  Vb (ixs 1 data0 a1) fun v16 =>
  Vb (ldc v16 h) fun v17 =>
  S.C I.f_cmp_Less_api_Loc [v13, v17] h fun v18 h1 =>
  Br v18 (
    Vb (nck swaps3) fun v20 =>
    Vb (ldc v20 h1) fun v21 =>
    Vb (bin .add v21 (Value.int IntKind.i64 1)) fun v22 =>
    Vb (nck swaps3) fun v23 =>
    Sb (sto 1 v23 v22 h1) fun h2 =>
    R (.tuple #[b2, a1]) h2) (
    R (.tuple #[a1, b2]) h1)

def F_word_Who (S : Sys) (I : Ids) (ref0 : Value) (h : Hp) (R : Value → Hp → Prop) : Prop :=
  Vb (bin .shr ref0 (Value.int IntKind.u64 24)) fun v9 =>
  Vb (cvi .i64 v9) fun v10 =>
  Vb (bin .and ref0 (Value.int IntKind.u32 16777215)) fun v12 =>
  Vb (cvi .i64 v12) fun v13 =>
  S.C I.f_word_Ref [v10, v13] h fun v17 h1 =>
  Vb (ext 0 v17) fun v18 =>
  Vb (ext 1 v17) fun v19 =>
  Vb (bin .neq v19 (Value.int IntKind.i64 0)) fun v21 =>
  Br v21 (
    R (.tuple #[(Value.int IntKind.i64 0), (Value.int IntKind.i64 0)]) h1) (
    R (.tuple #[v10, v13]) h1)

def F_word_Ref (S : Sys) (I : Ids) (who0 seq1 : Value) (h : Hp) (R : Value → Hp → Prop) : Prop :=
  Jn1 (fun v19 h1 =>
      Br v19 (
        R (.tuple #[(Value.int IntKind.u32 0), (Value.int IntKind.i64 3)]) h1) (
        Vb (cvi .u32 who0) fun v21 =>
        Vb (bin .shl v21 (Value.int IntKind.u64 24)) fun v22 =>
        Vb (cvi .u32 seq1) fun v24 =>
        Vb (bin .or v22 v24) fun v25 =>
        R (.tuple #[v25, (Value.int IntKind.i64 0)]) h1)) fun J0 =>
  Vb (bin .lss who0 (Value.int IntKind.i64 1)) fun v7 =>
  Br v7 (
    J0 (Value.bool true) h) (
    Vb (bin .gtr who0 (Value.int IntKind.i64 72)) fun v10 =>
    Br v10 (
      J0 (Value.bool true) h) (
      Vb (bin .lss seq1 (Value.int IntKind.i64 1)) fun v14 =>
      Br v14 (
        J0 (Value.bool true) h) (
        Vb (bin .gtr seq1 (Value.int IntKind.i64 16777215)) fun v18 =>
        J0 v18 h)))

end Go.En
