/-
  Clean texts of 107 functions: what each of them does, printed by program out of the translation.
-/
import Derived.Test.YtggieecoagcmbaaXB
namespace Go.En
/-- the numbers of functions and types -/
structure Ids where
  f_simulcastlaw31_PoolTurns : Nat
  f_simulcastlaw31_PoolOnce : Nat
  f_simulcastlaw34_QueuePlays : Nat
  f_simulcastlaw34_QueueOrders : Nat
  f_simulcastlaw34_QueueUndoes : Nat
  f_simulcastlaw34_QueueShares : Nat
  f_simulcastlaw30_SpaceAnew : Nat
  f_simulcastlaw30_SpaceBack : Nat
  f_simulcastlaw30_SpaceOrders : Nat
  f_simulcastlaw31_PoolWild : Nat
  f_simulcastlaw31_PoolPlays : Nat
  f_simulcastlaw30_SpaceEntries : Nat
  f_simulcastlaw34_QueueWild : Nat
  f_simulcastlaw31_start : Nat
  f_space_New : Nat
  f_simulcastlaw31_Words_Known : Nat
  f_pool_Pool_Take : Nat
  f_pool_Pool_Give : Nat
  f_pool_Pool_Left : Nat
  f_simulcastlaw31_awake : Nat
  f_space_Space_Mark : Nat
  f_pool_Pool_Node : Nat
  f_space_Space_Back : Nat
  f_simulcastlaw34_awake : Nat
  f_simulcastlaw34_start : Nat
  f_simulcastlaw34_space0 : Nat
  f_simulcastlaw34_done : Nat
  f_simulcastlaw34_tells : Nat
  f_queue_Put : Nat
  f_queue_Take : Nat
  f_simulcastref34_Same : Nat
  f_queue_Len : Nat
  f_simulcastref34_Put : Nat
  f_simulcastref34_Take : Nat
  f_queue_Walk : Nat
  f_simulcastlaw30_awake : Nat
  f_simulcastlaw30_program : Nat
  f_space_Space_Reads : Nat
  f_space_Space_Need : Nat
  f_space_Space_Entries : Nat
  f_simulcastref30_Alike : Nat
  f_simulcastlaw30_do : Nat
  f_space_Space_Ended : Nat
  f_simulcastref30_Same : Nat
  f_space_Space_Writes : Nat
  f_space_Space_Get : Nat
  f_space_Space_Put : Nat
  f_pool_Pool_Check : Nat
  f_pool_Pool_Free : Nat
  f_simulcastlaw31_Words_Get : Nat
  f_simulcastref31_Take : Nat
  f_simulcastref31_Give : Nat
  f_simulcastlaw31_Words_Behind : Nat
  f_simulcastref31_Same : Nat
  f_simulcastref31_Turned : Nat
  f_model_New : Nat
  f_model_Model_Swap : Nat
  f_model_Model_At : Nat
  f_pool_Pool_add : Nat
  f_queue_First : Nat
  f_queue_undo : Nat
  f_queue_isNode : Nat
  f_queue_nodes : Nat
  f_slices_Sort_api_Loc_api_Loc : Nat
  f_space_Space_value : Nat
  f_entry_Check : Nat
  f_simulcastref30_Get : Nat
  f_simulcastref30_Set : Nat
  f_simulcastref30_Back : Nat
  f_slices_Compact_api_Loc_api_Loc : Nat
  f_space_Space_reads : Nat
  f_slices_Clone_api_Word_api_Word : Nat
  f_model_Model_Holds : Nat
  f_model_Model_Words : Nat
  f_queue_nodes_1 : Nat
  f_slices_pdqsortOrdered_api_Loc : Nat
  f_math_bits_Len : Nat
  f_space_Space_last : Nat
  f_entry_wrong : Nat
  f_slices_ContainsFunc_api_Entry_api_Entry : Nat
  f_entry_Check_1 : Nat
  f_simulcastref30_touch : Nat
  f_simulcastref30_has : Nat
  f_slices_insertionSortOrdered_api_Loc : Nat
  f_slices_heapSortOrdered_api_Loc : Nat
  f_slices_breakPatternsOrdered_api_Loc : Nat
  f_slices_choosePivotOrdered_api_Loc : Nat
  f_slices_reverseRangeOrdered_api_Loc : Nat
  f_slices_partialInsertionSortOrdered_api_Loc : Nat
  f_cmp_Less_api_Loc : Nat
  f_slices_partitionEqualOrdered_api_Loc : Nat
  f_slices_partitionOrdered_api_Loc : Nat
  f_math_bits_Len32 : Nat
  f_math_bits_Len64 : Nat
  f_word_Plain : Nat
  f_slices_IndexFunc_api_Entry_api_Entry : Nat
  f_simulcastref30_find : Nat
  f_slices_siftDownOrdered_api_Loc : Nat
  f_slices_nextPowerOfTwo : Nat
  f_slices_xorshift_Next : Nat
  f_slices_medianAdjacentOrdered_api_Loc : Nat
  f_slices_medianOrdered_api_Loc : Nat
  f_cmp_isNaN_api_Loc : Nat
  f_word_kind : Nat
  f_slices_order2Ordered_api_Loc : Nat
  f_word_Who : Nat
  f_word_Ref : Nat
  t_int64 : Nat
  t_int : Nat
  t_api_Loc : Nat
  t_pool_Pool : Nat
  t_s_int64 : Nat
  t_simulcastlaw31_Words : Nat
  t_p_space_Space : Nat
  t_api_Errno : Nat
  t_simulcastlaw34_Act : Nat
  t_2_s_int64 : Nat
  t_16_int8 : Nat
  t_api_Word : Nat
  t_8_int64 : Nat
  t_simulcastlaw30_Act : Nat
  t_simulcastref30_Space : Nat
  t_api_Entry : Nat
  t_simulcastref31_State : Nat
  t_8_uint16 : Nat
  t_model_Model : Nat
  t_space_Space : Nat
  t_space_put : Nat
  t_simulcastref30_Put : Nat
  t_slices_xorshift : Nat

def F_simulcastlaw31_PoolTurns (S : Sys) (I : Ids) (nodes0 many1 : Value) (h : Hp) (R : Value → Hp → Prop) : Prop :=
  S.C I.f_simulcastlaw31_start [nodes0] h fun v18 h1 =>
  Vb (ext 0 v18) fun v19 =>
  Vb (ext 1 v18) fun v20 =>
  Eb (nw #[Value.int IntKind.i64 0, Value.int IntKind.i64 0, Value.int IntKind.i64 0] I.t_pool_Pool h1) fun p5 h2 =>
  Eb (nw #[Value.slice none 0 0] I.t_simulcastlaw31_Words h2) fun w6 h3 =>
  Sb (sto 3 p5 v19 h3) fun h4 =>
  Sb (sto 1 w6 v20 h4) fun h5 =>
  Vb (lda 1 w6 h5) fun v21 =>
  S.C I.f_simulcastlaw31_Words_Known [v21] h5 fun v22 h6 =>
  S.C I.f_space_New [v22] h6 fun v23 h7 =>
  Lp2 (Value.slice none 0 0) (Value.int IntKind.i64 0) h7 fun l8 i9 h8 again0 =>
  Vb (bin .rem many1 (Value.int IntKind.u8 9)) fun v26 =>
  Vb (cvi .i64 v26) fun v27 =>
  Vb (bin .lss i9 v27) fun v28 =>
  Br v28 (
    Jn1 (fun l8_1 h9 =>
        Vb (bin .add i9 (Value.int IntKind.i64 1)) fun v30 =>
        again0 l8_1 v30 h9) fun J0 =>
    Vb (lda 3 p5 h8) fun v32 =>
    S.C I.f_pool_Pool_Take [v32, v23] h8 fun v34 h10 =>
    Vb (ext 0 v34) fun v35 =>
    Vb (ext 1 v34) fun v36 =>
    Vb (bin .eql v36 (Value.int IntKind.i64 0)) fun v38 =>
    Br v38 (
      Eb (bsl #[Value.int IntKind.i64 0] 1 1 I.t_api_Loc [(0, v35)] h10) fun v41 h11 =>
      Ap I.t_api_Loc #[Value.int IntKind.i64 0] 1 8 l8 v41 h11 fun v42 h12 =>
      J0 v42 h12) (
      J0 l8 h10)) (
    Lp1 (Value.int IntKind.i64 0) h8 fun i12 h13 again1 =>
    Vb (lnS l8) fun v45 =>
    Vb (bin .lss i12 v45) fun v46 =>
    Br v46 (
      Vb (lda 3 p5 h13) fun v49 =>
      Vb (ixs 1 l8 i12) fun v53 =>
      Vb (ldc v53 h13) fun v54 =>
      S.C I.f_pool_Pool_Give [v49, v23, v54] h13 fun v55 h14 =>
      Vb (bin .neq v55 (Value.int IntKind.i64 0)) fun v56 =>
      Br v56 (
        R (Value.bool false) h14) (
        Vb (bin .add i12 (Value.int IntKind.i64 1)) fun v48 =>
        again1 v48 h14)) (
      Vb (lnS l8) fun v58 =>
      Vb (bin .sub v58 (Value.int IntKind.i64 1)) fun v59 =>
      Lp1 v59 h13 fun i13 h15 again2 =>
      Vb (bin .geq i13 (Value.int IntKind.i64 0)) fun v61 =>
      Br v61 (
        Vb (lda 3 p5 h15) fun v65 =>
        S.C I.f_pool_Pool_Take [v65, v23] h15 fun v67 h16 =>
        Vb (ext 0 v67) fun v68 =>
        Vb (ext 1 v67) fun v69 =>
        Jn1 (fun v79 h17 =>
            Br v79 (
              R (Value.bool false) h17) (
              Vb (bin .sub i13 (Value.int IntKind.i64 1)) fun v63 =>
              again2 v63 h17)) fun J1 =>
        Vb (bin .neq v69 (Value.int IntKind.i64 0)) fun v71 =>
        Br v71 (
          J1 (Value.bool true) h16) (
          Vb (ixs 1 l8 i13) fun v76 =>
          Vb (ldc v76 h16) fun v77 =>
          Vb (bin .neq v68 v77) fun v78 =>
          J1 v78 h16)) (
        Jn1 (fun v4 h18 =>
            R v4 h18) fun J2 =>
        Vb (lda 3 p5 h15) fun v80 =>
        Vb (fa 2 p5) fun v83 =>
        Vb (ldc v83 h15) fun v84 =>
        Vb (lnS l8) fun v86 =>
        Vb (bin .sub v84 v86) fun v87 =>
        S.C I.f_pool_Pool_Left [v80, v23] h15 fun v82 h19 =>
        ldc v83 h19 = some v84 ∧
        Vb (bin .eql v82 v87) fun v88 =>
        Br v88 (
          Vb (lnS l8) fun v91 =>
          Vb (bin .rem many1 (Value.int IntKind.u8 9)) fun v93 =>
          Vb (cvi .i64 v93) fun v94 =>
          Vb (fa 2 p5) fun v95 =>
          Vb (ldc v95 h19) fun v96 =>
          Vb (mn v94 v96) fun v97 =>
          Vb (bin .eql v91 v97) fun v98 =>
          Br v98 (
            S.C I.f_simulcastlaw31_awake [] h19 fun v101 h20 =>
            J2 v101 h20) (
            J2 (Value.bool false) h19)) (
          J2 (Value.bool false) h19))))

def F_simulcastlaw31_PoolOnce (S : Sys) (I : Ids) (nodes0 l1 cut2 : Value) (h : Hp) (R : Value → Hp → Prop) : Prop :=
  Vb (lnS l1) fun v23 =>
  Vb (bin .gtr v23 (Value.int IntKind.i64 60)) fun v24 =>
  Br v24 (
    S.C I.f_simulcastlaw31_awake [] h fun v25 h1 =>
    R v25 h1) (
    S.C I.f_simulcastlaw31_start [nodes0] h fun v28 h2 =>
    Vb (ext 0 v28) fun v29 =>
    Vb (ext 1 v28) fun v30 =>
    Eb (nw #[Value.int IntKind.i64 0, Value.int IntKind.i64 0, Value.int IntKind.i64 0] I.t_pool_Pool h2) fun p7 h3 =>
    Eb (nw #[Value.slice none 0 0] I.t_simulcastlaw31_Words h3) fun w8 h4 =>
    Sb (sto 3 p7 v29 h4) fun h5 =>
    Sb (sto 1 w8 v30 h5) fun h6 =>
    Vb (lda 1 w8 h6) fun v31 =>
    S.C I.f_simulcastlaw31_Words_Known [v31] h6 fun v32 h7 =>
    S.C I.f_space_New [v32] h7 fun v33 h8 =>
    Eb (mmk h8) fun v34 h9 =>
    Vb (lda 3 p7 h9) fun v35 =>
    S.C I.f_pool_Pool_Left [v35, v33] h9 fun v37 h10 =>
    Vb (cvi .i64 cut2) fun v39 =>
    Vb (lnS l1) fun v41 =>
    Vb (bin .add v41 (Value.int IntKind.i64 1)) fun v42 =>
    Vb (bin .rem v39 v42) fun v43 =>
    Lp5 (Value.slice none 0 0) v37 (Value.int IntKind.i64 0) (Value.int IntKind.i64 0) (Value.int IntKind.i64 0) h10 fun list11 left12 mark14 then15 i16 h11 again0 =>
    Vb (lnS l1) fun v46 =>
    Vb (bin .lss i16 v46) fun v47 =>
    Br v47 (
      Jn2 (fun mark14_1 then15_1 h12 =>
          Jn2 (fun list11_1 left12_1 h13 =>
              Vb (lda 3 p7 h13) fun v128 =>
              S.C I.f_pool_Pool_Left [v128, v33] h13 fun v130 h14 =>
              Vb (bin .neq v130 left12_1) fun v132 =>
              Br v132 (
                R (Value.bool false) h14) (
                Vb (bin .add i16 (Value.int IntKind.i64 1)) fun v49 =>
                again0 list11_1 left12_1 mark14_1 then15_1 v49 h14)) fun J1 =>
          Vb (ixs 2 l1 i16) fun v60 =>
          Vb (fa 0 v60) fun v61 =>
          Vb (ldc v61 h12) fun v62 =>
          Vb (bin .rem v62 (Value.int IntKind.u8 3)) fun v63 =>
          Vb (bin .lss v63 (Value.int IntKind.u8 2)) fun v64 =>
          Br v64 (
            Vb (lda 3 p7 h12) fun v66 =>
            S.C I.f_pool_Pool_Take [v66, v33] h12 fun v68 h15 =>
            Vb (ext 0 v68) fun v69 =>
            Vb (ext 1 v68) fun v70 =>
            Vb (lda 3 p7 h15) fun v72 =>
            S.C I.f_pool_Pool_Node [v72, v69] h15 fun v74 h16 =>
            Vb (ext 0 v74) fun v75 =>
            Vb (ext 1 v74) fun v76 =>
            Jn1 (fun v94 h17 =>
                Br v94 (
                  R (Value.bool false) h17) (
                  Vb (bin .eql v70 (Value.int IntKind.i64 0)) fun v96 =>
                  Br v96 (
                    Sb (mup (.int .i64) v34 v69 (Value.bool true) h17) fun h18 =>
                    Eb (bsl #[Value.int IntKind.i64 0] 1 1 I.t_api_Loc [(0, v69)] h18) fun v101 h19 =>
                    Ap I.t_api_Loc #[Value.int IntKind.i64 0] 1 8 list11 v101 h19 fun v102 h20 =>
                    Vb (bin .sub left12 (Value.int IntKind.i64 1)) fun v104 =>
                    J1 v102 v104 h20) (
                    J1 list11 left12 h17))) fun J2 =>
            Vb (bin .eql v70 (Value.int IntKind.i64 0)) fun v78 =>
            Br v78 (
              Vb (lkm (.int .i64) (Value.bool false) false v34 v69 h16) fun v82 =>
              Br v82 (
                J2 (Value.bool true) h16) (
                Vb (uno .not v76) fun v85 =>
                Br v85 (
                  J2 (Value.bool true) h16) (
                  Vb (bin .eql v70 (Value.int IntKind.i64 0)) fun v90 =>
                  Vb (bin .gtr left12 (Value.int IntKind.i64 0)) fun v92 =>
                  Vb (neg? (eqB v90 v92)) fun v93 =>
                  J2 v93 h16))) (
              Vb (bin .eql v70 (Value.int IntKind.i64 0)) fun v90_1 =>
              Vb (bin .gtr left12 (Value.int IntKind.i64 0)) fun v92_1 =>
              Vb (neg? (eqB v90_1 v92_1)) fun v93_1 =>
              J2 v93_1 h16)) (
            Vb (lnS list11) fun v106 =>
            Vb (bin .gtr v106 (Value.int IntKind.i64 0)) fun v107 =>
            Br v107 (
              Vb (lnS list11) fun v110 =>
              Vb (bin .sub v110 (Value.int IntKind.i64 1)) fun v111 =>
              Vb (ixs 1 list11 v111) fun v112 =>
              Vb (ldc v112 h12) fun v113 =>
              Vb (lnS list11) fun v116 =>
              Vb (bin .sub v116 (Value.int IntKind.i64 1)) fun v117 =>
              Vb (slc 1 list11 none (some v117) none) fun v118 =>
              Vb (lda 3 p7 h12) fun v119 =>
              S.C I.f_pool_Pool_Give [v119, v33, v113] h12 fun v122 h21 =>
              Vb (bin .neq v122 (Value.int IntKind.i64 0)) fun v123 =>
              Br v123 (
                R (Value.bool false) h21) (
                Sb (mup (.int .i64) v34 v113 (Value.bool false) h21) fun h22 =>
                Vb (bin .add left12 (Value.int IntKind.i64 1)) fun v127 =>
                J1 v118 v127 h22)) (
              J1 list11 left12 h12))) fun J0 =>
      Vb (bin .eql i16 v43) fun v52 =>
      Br v52 (
        Vb (lda 3 p7 h11) fun v55 =>
        S.C I.f_space_Space_Mark [v33] h11 fun v54 h23 =>
        lda 3 p7 h23 = some v55 ∧
        S.C I.f_pool_Pool_Left [v55, v33] h23 fun v57 h24 =>
        J0 v54 v57 h24) (
        J0 mark14 then15 h11)) (
      Vb (lnS l1) fun v135 =>
      Vb (bin .lss v43 v135) fun v136 =>
      Br v136 (
        S.C I.f_space_Space_Back [v33, mark14] h11 fun v139 h25 =>
        Jn1 (fun v6 h26 =>
            R v6 h26) fun J3 =>
        Vb (lda 3 p7 h25) fun v140 =>
        S.C I.f_pool_Pool_Left [v140, v33] h25 fun v142 h27 =>
        Vb (bin .eql v142 then15) fun v144 =>
        Br v144 (
          S.C I.f_simulcastlaw31_awake [] h27 fun v146 h28 =>
          J3 v146 h28) (
          J3 (Value.bool false) h27)) (
        S.C I.f_simulcastlaw31_awake [] h11 fun v148 h29 =>
        R v148 h29)))

def F_simulcastlaw34_QueuePlays (S : Sys) (I : Ids) (nodes0 l1 : Value) (h : Hp) (R : Value → Hp → Prop) : Prop :=
  Vb (lnS l1) fun v13 =>
  Vb (bin .gtr v13 (Value.int IntKind.i64 60)) fun v14 =>
  Br v14 (
    S.C I.f_simulcastlaw34_awake [] h fun v15 h1 =>
    R v15 h1) (
    S.C I.f_simulcastlaw34_start [nodes0] h fun v18 h2 =>
    Vb (ext 0 v18) fun v19 =>
    Vb (ext 1 v18) fun v20 =>
    Eb (nw #[Value.int IntKind.i64 0, Value.int IntKind.i64 0, Value.int IntKind.i64 0] I.t_pool_Pool h2) fun p5 h3 =>
    Eb (nw #[Value.slice none 0 0] I.t_simulcastlaw31_Words h3) fun w6 h4 =>
    Sb (sto 3 p5 v19 h4) fun h5 =>
    Sb (sto 1 w6 v20 h5) fun h6 =>
    Vb (lda 1 w6 h6) fun v21 =>
    S.C I.f_simulcastlaw34_space0 [v21] h6 fun v22 h7 =>
    Lp2 (Value.slice none 0 0) (Value.int IntKind.i64 0) h7 fun m8 i9 h8 again0 =>
    Vb (lnS l1) fun v25 =>
    Vb (bin .lss i9 v25) fun v26 =>
    Br v26 (
      Vb (lda 3 p5 h8) fun v31 =>
      Vb (ixs 2 l1 i9) fun v35 =>
      Vb (lda 2 v35 h8) fun v36 =>
      S.C I.f_simulcastlaw34_done [v22, v31, m8, v36] h8 fun v37 h9 =>
      Vb (ext 0 v37) fun v38 =>
      Vb (ext 1 v37) fun v39 =>
      Jn1 (fun v48 h10 =>
          Br v48 (
            R (Value.bool false) h10) (
            Vb (bin .add i9 (Value.int IntKind.i64 1)) fun v28 =>
            again0 v38 v28 h10)) fun J0 =>
      Vb (uno .not v39) fun v41 =>
      Br v41 (
        J0 (Value.bool true) h9) (
        Vb (lda 3 p5 h9) fun v44 =>
        S.C I.f_simulcastlaw34_tells [v22, v44, v38] h9 fun v46 h11 =>
        Vb (uno .not v46) fun v47 =>
        J0 v47 h11)) (
      Jn1 (fun v4 h12 =>
          R v4 h12) fun J1 =>
      Vb (lda 3 p5 h8) fun v51 =>
      S.C I.f_simulcastlaw34_tells [v22, v51, m8] h8 fun v53 h13 =>
      Br v53 (
        S.C I.f_simulcastlaw34_awake [] h13 fun v55 h14 =>
        J1 v55 h14) (
        J1 (Value.bool false) h13)))

def F_simulcastlaw34_QueueOrders (S : Sys) (I : Ids) (nodes0 l1 : Value) (h : Hp) (R : Value → Hp → Prop) : Prop :=
  Vb (lnS l1) fun v17 =>
  Vb (bin .gtr v17 (Value.int IntKind.i64 60)) fun v18 =>
  Br v18 (
    S.C I.f_simulcastlaw34_awake [] h fun v19 h1 =>
    R v19 h1) (
    S.C I.f_simulcastlaw34_start [nodes0] h fun v22 h2 =>
    Vb (ext 0 v22) fun v23 =>
    Vb (ext 1 v22) fun v24 =>
    Eb (nw #[Value.int IntKind.i64 0, Value.int IntKind.i64 0, Value.int IntKind.i64 0] I.t_pool_Pool h2) fun p5 h3 =>
    Eb (nw #[Value.slice none 0 0] I.t_simulcastlaw31_Words h3) fun w6 h4 =>
    Sb (sto 3 p5 v23 h4) fun h5 =>
    Sb (sto 1 w6 v24 h5) fun h6 =>
    Vb (lda 1 w6 h6) fun v25 =>
    S.C I.f_simulcastlaw34_space0 [v25] h6 fun v26 h7 =>
    Lp3 (Value.slice none 0 0) (Value.slice none 0 0) (Value.int IntKind.i64 0) h7 fun put8 got9 i10 h8 again0 =>
    Vb (lnS l1) fun v29 =>
    Vb (bin .lss i10 v29) fun v30 =>
    Br v30 (
      Jn2 (fun put8_1 got9_1 h9 =>
          Vb (bin .add i10 (Value.int IntKind.i64 1)) fun v32 =>
          again0 put8_1 got9_1 v32 h9) fun J0 =>
      Vb (ixs 2 l1 i10) fun v35 =>
      Vb (fa 0 v35) fun v36 =>
      Vb (ldc v36 h8) fun v37 =>
      Vb (bin .rem v37 (Value.int IntKind.u8 3)) fun v38 =>
      Vb (bin .lss v38 (Value.int IntKind.u8 2)) fun v39 =>
      Br v39 (
        Vb (lda 3 p5 h8) fun v41 =>
        Vb (ixs 2 l1 i10) fun v44 =>
        Vb (fa 1 v44) fun v45 =>
        Vb (ldc v45 h8) fun v46 =>
        S.C I.f_queue_Put [v26, v41, (Value.int IntKind.i64 8), v46] h8 fun v47 h10 =>
        Vb (bin .eql v47 (Value.int IntKind.i64 0)) fun v48 =>
        Br v48 (
          Vb (ixs 2 l1 i10) fun v52 =>
          Vb (fa 1 v52) fun v53 =>
          Vb (ldc v53 h10) fun v54 =>
          Eb (bsl #[Value.int IntKind.i64 0] 1 1 I.t_int64 [(0, v54)] h10) fun v55 h11 =>
          Ap I.t_int64 #[Value.int IntKind.i64 0] 1 8 put8 v55 h11 fun v56 h12 =>
          J0 v56 got9 h12) (
          J0 put8 got9 h10)) (
        Vb (lda 3 p5 h8) fun v59 =>
        S.C I.f_queue_Take [v26, v59, (Value.int IntKind.i64 8)] h8 fun v60 h13 =>
        Vb (ext 0 v60) fun v61 =>
        Vb (ext 1 v60) fun v62 =>
        Vb (bin .eql v62 (Value.int IntKind.i64 0)) fun v64 =>
        Br v64 (
          Eb (bsl #[Value.int IntKind.i64 0] 1 1 I.t_int64 [(0, v61)] h13) fun v67 h14 =>
          Ap I.t_int64 #[Value.int IntKind.i64 0] 1 8 got9 v67 h14 fun v68 h15 =>
          J0 put8 v68 h15) (
          J0 put8 got9 h13))) (
      Lp2 got9 (Value.int IntKind.i64 0) h8 fun got9_2 i13 h16 again1 =>
      Vb (lnS l1) fun v71 =>
      Vb (bin .leq i13 v71) fun v72 =>
      Br v72 (
        Vb (lda 3 p5 h16) fun v77 =>
        S.C I.f_queue_Take [v26, v77, (Value.int IntKind.i64 8)] h16 fun v78 h17 =>
        Vb (ext 0 v78) fun v79 =>
        Vb (ext 1 v78) fun v80 =>
        Vb (bin .neq v80 (Value.int IntKind.i64 0)) fun v82 =>
        Br v82 (
          Jn1 (fun v4 h18 =>
              R v4 h18) fun J1 =>
          Vb (bin .eql v80 (Value.int IntKind.i64 8)) fun v84 =>
          Br v84 (
            Vb (bin .eql v79 (Value.int IntKind.i64 0)) fun v87 =>
            Br v87 (
              S.C I.f_simulcastref34_Same [got9_2, put8] h17 fun v92 h19 =>
              Br v92 (
                Vb (lda 3 p5 h19) fun v95 =>
                Vb (fa 2 p5) fun v98 =>
                Vb (ldc v98 h19) fun v99 =>
                S.C I.f_pool_Pool_Left [v95, v26] h19 fun v97 h20 =>
                ldc v98 h20 = some v99 ∧
                Vb (bin .eql v97 v99) fun v100 =>
                Br v100 (
                  S.C I.f_queue_Len [v26, (Value.int IntKind.i64 8)] h20 fun v104 h21 =>
                  Vb (bin .eql v104 (Value.int IntKind.i64 0)) fun v105 =>
                  Br v105 (
                    S.C I.f_simulcastlaw34_awake [] h21 fun v108 h22 =>
                    J1 v108 h22) (
                    J1 (Value.bool false) h21)) (
                  J1 (Value.bool false) h20)) (
                J1 (Value.bool false) h19)) (
              J1 (Value.bool false) h17)) (
            J1 (Value.bool false) h17)) (
          Eb (bsl #[Value.int IntKind.i64 0] 1 1 I.t_int64 [(0, v79)] h17) fun v112 h23 =>
          Ap I.t_int64 #[Value.int IntKind.i64 0] 1 8 got9_2 v112 h23 fun v113 h24 =>
          Vb (bin .add i13 (Value.int IntKind.i64 1)) fun v74 =>
          again1 v113 v74 h24)) (
        R (Value.bool false) h16)))

def F_simulcastlaw34_QueueUndoes (S : Sys) (I : Ids) (nodes0 l1 more2 : Value) (h : Hp) (R : Value → Hp → Prop) : Prop :=
  Jn1 (fun v22 h1 =>
      Br v22 (
        S.C I.f_simulcastlaw34_awake [] h1 fun v23 h2 =>
        R v23 h2) (
        S.C I.f_simulcastlaw34_start [nodes0] h1 fun v26 h3 =>
        Vb (ext 0 v26) fun v27 =>
        Vb (ext 1 v26) fun v28 =>
        Eb (nw #[Value.int IntKind.i64 0, Value.int IntKind.i64 0, Value.int IntKind.i64 0] I.t_pool_Pool h3) fun p7 h4 =>
        Eb (nw #[Value.slice none 0 0] I.t_simulcastlaw31_Words h4) fun w8 h5 =>
        Sb (sto 3 p7 v27 h5) fun h6 =>
        Sb (sto 1 w8 v28 h6) fun h7 =>
        Vb (lda 1 w8 h7) fun v29 =>
        S.C I.f_simulcastlaw34_space0 [v29] h7 fun v30 h8 =>
        Lp2 (Value.slice none 0 0) (Value.int IntKind.i64 0) h8 fun m10 i11 h9 again0 =>
        Vb (lnS l1) fun v33 =>
        Vb (bin .lss i11 v33) fun v34 =>
        Br v34 (
          Vb (lda 3 p7 h9) fun v39 =>
          Vb (ixs 2 l1 i11) fun v43 =>
          Vb (lda 2 v43 h9) fun v44 =>
          S.C I.f_simulcastlaw34_done [v30, v39, m10, v44] h9 fun v45 h10 =>
          Vb (ext 0 v45) fun v46 =>
          Vb (ext 1 v45) fun v47 =>
          Vb (bin .add i11 (Value.int IntKind.i64 1)) fun v36 =>
          again0 v46 v36 h10) (
          S.C I.f_space_Space_Mark [v30] h9 fun v49 h11 =>
          Lp2 m10 (Value.int IntKind.i64 0) h11 fun n13 i14 h12 again1 =>
          Vb (lnS more2) fun v53 =>
          Vb (bin .lss i14 v53) fun v54 =>
          Br v54 (
            Vb (lda 3 p7 h12) fun v59 =>
            Vb (ixs 2 more2 i14) fun v63 =>
            Vb (lda 2 v63 h12) fun v64 =>
            S.C I.f_simulcastlaw34_done [v30, v59, n13, v64] h12 fun v65 h13 =>
            Vb (ext 0 v65) fun v66 =>
            Vb (ext 1 v65) fun v67 =>
            Vb (bin .add i14 (Value.int IntKind.i64 1)) fun v56 =>
            again1 v66 v56 h13) (
            S.C I.f_space_Space_Back [v30, v49] h12 fun v70 h14 =>
            Jn1 (fun v6 h15 =>
                R v6 h15) fun J1 =>
            Vb (lda 3 p7 h14) fun v72 =>
            S.C I.f_simulcastlaw34_tells [v30, v72, m10] h14 fun v74 h16 =>
            Br v74 (
              S.C I.f_simulcastlaw34_awake [] h16 fun v76 h17 =>
              J1 v76 h17) (
              J1 (Value.bool false) h16))))) fun J0 =>
  Vb (lnS l1) fun v16 =>
  Vb (bin .gtr v16 (Value.int IntKind.i64 40)) fun v17 =>
  Br v17 (
    J0 (Value.bool true) h) (
    Vb (lnS more2) fun v20 =>
    Vb (bin .gtr v20 (Value.int IntKind.i64 40)) fun v21 =>
    J0 v21 h)

def F_simulcastlaw34_QueueShares (S : Sys) (I : Ids) (nodes0 l1 turn2 : Value) (h : Hp) (R : Value → Hp → Prop) : Prop :=
  Vb (lnS l1) fun v26 =>
  Vb (bin .gtr v26 (Value.int IntKind.i64 60)) fun v27 =>
  Br v27 (
    S.C I.f_simulcastlaw34_awake [] h fun v28 h1 =>
    R v28 h1) (
    S.C I.f_simulcastlaw34_start [nodes0] h fun v31 h2 =>
    Vb (ext 0 v31) fun v32 =>
    Vb (ext 1 v31) fun v33 =>
    Eb (nw #[Value.int IntKind.i64 0, Value.int IntKind.i64 0, Value.int IntKind.i64 0] I.t_pool_Pool h2) fun p7 h3 =>
    Eb (nw #[Value.slice none 0 0] I.t_simulcastlaw31_Words h3) fun w8 h4 =>
    Sb (sto 3 p7 v32 h4) fun h5 =>
    Sb (sto 1 w8 v33 h5) fun h6 =>
    Vb (lda 1 w8 h6) fun v34 =>
    S.C I.f_simulcastlaw34_space0 [v34] h6 fun v35 h7 =>
    Eb (nw #[Value.slice none 0 0, Value.slice none 0 0] I.t_2_s_int64 h7) fun m10 h8 =>
    Lp1 (Value.int IntKind.i64 0) h8 fun i11 h9 again0 =>
    Vb (lnS l1) fun v38 =>
    Vb (bin .lss i11 v38) fun v39 =>
    Br v39 (
      Vb (cvi .i64 turn2) fun v44 =>
      Vb (bin .add i11 v44) fun v45 =>
      Vb (bin .rem v45 (Value.int IntKind.i64 3)) fun v46 =>
      Vb (bin .rem v46 (Value.int IntKind.i64 2)) fun v47 =>
      Vb (bin .mul (Value.int IntKind.i64 8) v47) fun v49 =>
      Vb (bin .add (Value.int IntKind.i64 8) v49) fun v50 =>
      Jn0 (fun h10 =>
          Lp1 (Value.int IntKind.i64 0) h10 fun j22 h11 again1 =>
          Vb (bin .lss j22 (Value.int IntKind.i64 2)) fun v122 =>
          Br v122 (
            Vb (lda 3 p7 h11) fun v127 =>
            Vb (bin .mul (Value.int IntKind.i64 8) j22) fun v129 =>
            Vb (bin .add (Value.int IntKind.i64 8) v129) fun v130 =>
            S.C I.f_queue_Walk [v35, v127, v130] h11 fun v131 h12 =>
            Vb (ext 0 v131) fun v132 =>
            Vb (ext 1 v131) fun v133 =>
            Jn1 (fun v143 h13 =>
                Br v143 (
                  R (Value.bool false) h13) (
                  Vb (bin .add j22 (Value.int IntKind.i64 1)) fun v124 =>
                  again1 v124 h13)) fun J1 =>
            Vb (bin .neq v133 (Value.int IntKind.i64 0)) fun v135 =>
            Br v135 (
              J1 (Value.bool true) h12) (
              Vb (ixa 2 1 m10 j22) fun v139 =>
              Vb (ldc v139 h12) fun v140 =>
              S.C I.f_simulcastref34_Same [v132, v140] h12 fun v141 h14 =>
              Vb (uno .not v141) fun v142 =>
              J1 v142 h14)) (
            Vb (bin .add i11 (Value.int IntKind.i64 1)) fun v41 =>
            again0 v41 h11)) fun J0 =>
      Vb (ixs 2 l1 i11) fun v53 =>
      Vb (fa 0 v53) fun v54 =>
      Vb (ldc v54 h9) fun v55 =>
      Vb (bin .rem v55 (Value.int IntKind.u8 3)) fun v56 =>
      Vb (bin .lss v56 (Value.int IntKind.u8 2)) fun v57 =>
      Br v57 (
        Vb (lda 3 p7 h9) fun v59 =>
        Vb (ixs 2 l1 i11) fun v63 =>
        Vb (fa 1 v63) fun v64 =>
        Vb (ldc v64 h9) fun v65 =>
        S.C I.f_queue_Put [v35, v59, v50, v65] h9 fun v66 h15 =>
        Vb (ixa 2 1 m10 v47) fun v69 =>
        Vb (ldc v69 h15) fun v70 =>
        Vb (ixs 2 l1 i11) fun v73 =>
        Vb (fa 1 v73) fun v74 =>
        Vb (ldc v74 h15) fun v75 =>
        Vb (fa 2 p7) fun v76 =>
        Vb (ldc v76 h15) fun v77 =>
        Vb (ixa 2 1 m10 (Value.int IntKind.i64 0)) fun v78 =>
        Vb (ldc v78 h15) fun v79 =>
        Vb (lnS v79) fun v80 =>
        Vb (bin .sub v77 v80) fun v81 =>
        Vb (ixa 2 1 m10 (Value.int IntKind.i64 1)) fun v82 =>
        Vb (ldc v82 h15) fun v83 =>
        Vb (lnS v83) fun v84 =>
        Vb (bin .sub v81 v84) fun v85 =>
        S.C I.f_simulcastref34_Put [v70, v75, v85] h15 fun v86 h16 =>
        Vb (ext 0 v86) fun v87 =>
        Vb (ext 1 v86) fun v88 =>
        Vb (bin .neq v66 v88) fun v91 =>
        Br v91 (
          R (Value.bool false) h16) (
          Vb (ixa 2 1 m10 v47) fun v94 =>
          Sb (sto 1 v94 v87 h16) fun h17 =>
          J0 h17)) (
        Vb (lda 3 p7 h9) fun v97 =>
        S.C I.f_queue_Take [v35, v97, v50] h9 fun v99 h18 =>
        Vb (ext 0 v99) fun v100 =>
        Vb (ext 1 v99) fun v101 =>
        Vb (ixa 2 1 m10 v47) fun v104 =>
        Vb (ldc v104 h18) fun v105 =>
        S.C I.f_simulcastref34_Take [v105] h18 fun v106 h19 =>
        Vb (ext 0 v106) fun v107 =>
        Vb (ext 1 v106) fun v108 =>
        Vb (ext 2 v106) fun v109 =>
        Jn1 (fun v117 h20 =>
            Br v117 (
              R (Value.bool false) h20) (
              Vb (ixa 2 1 m10 v47) fun v120 =>
              Sb (sto 1 v120 v107 h20) fun h21 =>
              J0 h21)) fun J2 =>
        Vb (bin .neq v101 v109) fun v112 =>
        Br v112 (
          J2 (Value.bool true) h19) (
          Vb (bin .neq v100 v108) fun v116 =>
          J2 v116 h19))) (
      Jn1 (fun v6 h22 =>
          R v6 h22) fun J3 =>
      Vb (lda 3 p7 h9) fun v144 =>
      Vb (fa 2 p7) fun v147 =>
      Vb (ldc v147 h9) fun v148 =>
      Vb (ixa 2 1 m10 (Value.int IntKind.i64 0)) fun v149 =>
      Vb (ldc v149 h9) fun v150 =>
      Vb (lnS v150) fun v151 =>
      Vb (bin .sub v148 v151) fun v152 =>
      Vb (ixa 2 1 m10 (Value.int IntKind.i64 1)) fun v153 =>
      Vb (ldc v153 h9) fun v154 =>
      Vb (lnS v154) fun v155 =>
      Vb (bin .sub v152 v155) fun v156 =>
      S.C I.f_pool_Pool_Left [v144, v35] h9 fun v146 h23 =>
      ldc v153 h23 = some v154 ∧
      ldc v149 h23 = some v150 ∧
      ldc v147 h23 = some v148 ∧
      Vb (bin .eql v146 v156) fun v157 =>
      Br v157 (
        S.C I.f_simulcastlaw34_awake [] h23 fun v159 h24 =>
        J3 v159 h24) (
        J3 (Value.bool false) h23)))

def F_simulcastlaw30_SpaceAnew (S : Sys) (I : Ids) (vals0 acts1 : Value) (h : Hp) (R : Value → Hp → Prop) : Prop :=
  Eb (nw (Value.cells vals0) I.t_16_int8 h) fun vals2 h1 =>
  S.C I.f_simulcastlaw30_awake [] h1 fun v21 h2 =>
  Vb (uno .not v21) fun v22 =>
  Br v22 (
    R (Value.bool false) h2) (
    Vb (lnS acts1) fun v24 =>
    Vb (bin .gtr v24 (Value.int IntKind.i64 40)) fun v25 =>
    Br v25 (
      R (Value.bool true) h2) (
      Eb (mmk h2) fun v26 h3 =>
      Eb (mmk h3) fun v27 h4 =>
      Lp1 (Value.int IntKind.i64 0) h4 fun i7 h5 again0 =>
      Vb (bin .lss i7 (Value.int IntKind.i64 16)) fun v29 =>
      Br v29 (
        Vb (ixa 16 1 vals2 i7) fun v35 =>
        Vb (ldc v35 h5) fun v36 =>
        Vb (cvi .i64 v36) fun v37 =>
        Vb (bldS [(0, 1), (1, 1), (2, 1)] #[Value.int IntKind.i64 0, Value.int IntKind.u32 0, Value.int IntKind.u32 0] [(0, v37), (1, (Value.int IntKind.u32 1))]) fun v38 =>
        Sb (mup (.int .i64) v26 i7 v38 h5) fun h6 =>
        Vb (bin .add i7 (Value.int IntKind.i64 1)) fun v31 =>
        again0 v31 h6) (
        S.C I.f_space_New [v26] h5 fun v40 h7 =>
        S.C I.f_simulcastlaw30_program [v40, acts1] h7 fun v43 h8 =>
        Lp1 (Value.int IntKind.i64 0) h8 fun runs10 h9 again1 =>
        S.C I.f_space_Space_Reads [v40] h9 fun v46 h10 =>
        Vb (lnS v46) fun v47 =>
        Vb (bin .leq runs10 v47) fun v48 =>
        Br v48 (
          S.C I.f_space_New [v27] h10 fun v52 h11 =>
          S.C I.f_simulcastlaw30_program [v52, acts1] h11 fun v55 h12 =>
          S.C I.f_space_Space_Need [v52] h12 fun v58 h13 =>
          Vb (ext 0 v58) fun v59 =>
          Vb (ext 1 v58) fun v60 =>
          Vb (uno .not v60) fun v62 =>
          Br v62 (
            S.C I.f_space_Space_Entries [v52] h13 fun v65 h14 =>
            Vb (ext 0 v65) fun v66 =>
            Vb (ext 1 v65) fun v67 =>
            S.C I.f_space_Space_Entries [v40] h14 fun v70 h15 =>
            Vb (ext 0 v70) fun v71 =>
            Vb (ext 1 v70) fun v72 =>
            Jn1 (fun v4 h16 =>
                R v4 h16) fun J0 =>
            Vb (bin .eql v55 v43) fun v75 =>
            Br v75 (
              Vb (bin .eql v67 v72) fun v79 =>
              Br v79 (
                S.C I.f_simulcastref30_Alike [v66, v71] h15 fun v84 h17 =>
                J0 v84 h17) (
                J0 (Value.bool false) h15)) (
              J0 (Value.bool false) h15)) (
            Vb (lkm (.int .i64) (Value.agg #[Value.int IntKind.i64 0, Value.int IntKind.u32 0, Value.int IntKind.u32 0]) true v27 v59 h13) fun v89 =>
            Vb (ext 0 v89) fun v90 =>
            Vb (ext 1 v89) fun v91 =>
            Eb (nw #[Value.int IntKind.i64 0, Value.int IntKind.u32 0, Value.int IntKind.u32 0] I.t_api_Word h13) fun v19 h18 =>
            Sb (sto 3 v19 v90 h18) fun h19 =>
            Br v91 (
              R (Value.bool false) h19) (
              Vb (lkm (.int .i64) (Value.agg #[Value.int IntKind.i64 0, Value.int IntKind.u32 0, Value.int IntKind.u32 0]) false v26 v59 h19) fun v97 =>
              Sb (mup (.int .i64) v27 v59 v97 h19) fun h20 =>
              Vb (bin .add runs10 (Value.int IntKind.i64 1)) fun v50 =>
              again1 v50 h20))) (
          R (Value.bool false) h10))))

def F_simulcastlaw30_SpaceBack (S : Sys) (I : Ids) (vals0 ahead1 behind2 : Value) (h : Hp) (R : Value → Hp → Prop) : Prop :=
  Eb (nw (Value.cells vals0) I.t_8_int64 h) fun vals3 h1 =>
  S.C I.f_simulcastlaw30_awake [] h1 fun v21 h2 =>
  Vb (uno .not v21) fun v22 =>
  Br v22 (
    R (Value.bool false) h2) (
    Jn1 (fun v30 h3 =>
        Br v30 (
          R (Value.bool true) h3) (
          Eb (mmk h3) fun v31 h4 =>
          Lp1 (Value.int IntKind.i64 0) h4 fun i8 h5 again0 =>
          Vb (bin .lss i8 (Value.int IntKind.i64 8)) fun v33 =>
          Br v33 (
            Vb (ixa 8 1 vals3 i8) fun v39 =>
            Vb (ldc v39 h5) fun v40 =>
            Vb (bldS [(0, 1), (1, 1), (2, 1)] #[Value.int IntKind.i64 0, Value.int IntKind.u32 0, Value.int IntKind.u32 0] [(0, v40)]) fun v41 =>
            Sb (mup (.int .i64) v31 i8 v41 h5) fun h6 =>
            Vb (bin .add i8 (Value.int IntKind.i64 1)) fun v35 =>
            again0 v35 h6) (
            S.C I.f_space_New [v31] h5 fun v43 h7 =>
            S.C I.f_space_New [v31] h7 fun v45 h8 =>
            Lp1 (Value.int IntKind.i64 0) h8 fun i11 h9 again1 =>
            Vb (lnS ahead1) fun v48 =>
            Vb (bin .lss i11 v48) fun v49 =>
            Br v49 (
              Vb (ixs 3 ahead1 i11) fun v54 =>
              Vb (lda 3 v54 h9) fun v55 =>
              Eb (nw #[Value.int IntKind.u8 0, Value.int IntKind.i64 0, Value.int IntKind.i64 0] I.t_simulcastlaw30_Act h9) fun x12 h10 =>
              Sb (sto 3 x12 v55 h10) fun h11 =>
              Vb (fa 1 x12) fun v56 =>
              Vb (ldc v56 h11) fun v57 =>
              Vb (bin .rem v57 (Value.int IntKind.i64 8)) fun v58 =>
              Vb (bin .add v58 (Value.int IntKind.i64 8)) fun v59 =>
              Vb (bin .rem v59 (Value.int IntKind.i64 8)) fun v60 =>
              Vb (fa 1 x12) fun v61 =>
              Sb (sto 1 v61 v60 h11) fun h12 =>
              Vb (bldS [(0, 1), (1, 1), (2, 1), (3, 1), (4, 1)] #[Value.slice none 0 0, Value.slice none 0 0, Value.slice none 0 0, Value.bool false, Value.int IntKind.i64 0] []) fun v64 =>
              Vb (lda 3 x12 h12) fun v65 =>
              S.C I.f_simulcastlaw30_do [v43, v64, v65] h12 fun v66 h13 =>
              Vb (ext 0 v66) fun v67 =>
              Vb (ext 1 v66) fun v68 =>
              Vb (bldS [(0, 1), (1, 1), (2, 1), (3, 1), (4, 1)] #[Value.slice none 0 0, Value.slice none 0 0, Value.slice none 0 0, Value.bool false, Value.int IntKind.i64 0] []) fun v71 =>
              Vb (lda 3 x12 h13) fun v72 =>
              S.C I.f_simulcastlaw30_do [v45, v71, v72] h13 fun v73 h14 =>
              Vb (ext 0 v73) fun v74 =>
              Vb (ext 1 v73) fun v75 =>
              Vb (bin .add i11 (Value.int IntKind.i64 1)) fun v51 =>
              again1 v51 h14) (
              S.C I.f_space_Space_Mark [v43] h9 fun v77 h15 =>
              Lp1 (Value.int IntKind.i64 0) h15 fun i14 h16 again2 =>
              Vb (lnS behind2) fun v80 =>
              Vb (bin .lss i14 v80) fun v81 =>
              Br v81 (
                Jn0 (fun h17 =>
                    Vb (bin .add i14 (Value.int IntKind.i64 1)) fun v83 =>
                    again2 v83 h17) fun J1 =>
                Vb (ixs 3 behind2 i14) fun v86 =>
                Vb (lda 3 v86 h16) fun v87 =>
                Eb (nw #[Value.int IntKind.u8 0, Value.int IntKind.i64 0, Value.int IntKind.i64 0] I.t_simulcastlaw30_Act h16) fun x15 h18 =>
                Sb (sto 3 x15 v87 h18) fun h19 =>
                Vb (fa 1 x15) fun v88 =>
                Vb (ldc v88 h19) fun v89 =>
                Vb (bin .rem v89 (Value.int IntKind.i64 8)) fun v90 =>
                Vb (bin .add v90 (Value.int IntKind.i64 8)) fun v91 =>
                Vb (bin .rem v91 (Value.int IntKind.i64 8)) fun v92 =>
                Vb (fa 1 x15) fun v93 =>
                Sb (sto 1 v93 v92 h19) fun h20 =>
                Vb (fa 0 x15) fun v94 =>
                Vb (ldc v94 h20) fun v95 =>
                Vb (bin .rem v95 (Value.int IntKind.u8 4)) fun v96 =>
                Vb (bin .neq v96 (Value.int IntKind.u8 2)) fun v97 =>
                Br v97 (
                  Vb (bldS [(0, 1), (1, 1), (2, 1), (3, 1), (4, 1)] #[Value.slice none 0 0, Value.slice none 0 0, Value.slice none 0 0, Value.bool false, Value.int IntKind.i64 0] []) fun v100 =>
                  Vb (lda 3 x15 h20) fun v101 =>
                  S.C I.f_simulcastlaw30_do [v43, v100, v101] h20 fun v102 h21 =>
                  Vb (ext 0 v102) fun v103 =>
                  Vb (ext 1 v102) fun v104 =>
                  J1 h21) (
                  J1 h20)) (
                S.C I.f_space_Space_Back [v43, v77] h16 fun v107 h22 =>
                Jn1 (fun v123 h23 =>
                    Br v123 (
                      R (Value.bool false) h23) (
                      Lp1 (Value.int IntKind.i64 0) h23 fun i16 h24 again3 =>
                      Vb (bin .lss i16 (Value.int IntKind.i64 8)) fun v125 =>
                      Br v125 (
                        S.C I.f_space_Space_Get [v43, i16] h24 fun v130 h25 =>
                        S.C I.f_space_Space_Get [v45, i16] h25 fun v133 h26 =>
                        Vb (bin .neq v130 v133) fun v134 =>
                        Br v134 (
                          R (Value.bool false) h26) (
                          Vb (bin .add i16 (Value.int IntKind.i64 1)) fun v127 =>
                          again3 v127 h26)) (
                        S.C I.f_space_Space_Entries [v43] h24 fun v137 h27 =>
                        Vb (ext 0 v137) fun v138 =>
                        Vb (ext 1 v137) fun v139 =>
                        S.C I.f_space_Space_Entries [v45] h27 fun v142 h28 =>
                        Vb (ext 0 v142) fun v143 =>
                        Vb (ext 1 v142) fun v144 =>
                        Jn1 (fun v6 h29 =>
                            R v6 h29) fun J3 =>
                        Vb (bin .eql v139 v144) fun v147 =>
                        Br v147 (
                          S.C I.f_simulcastref30_Alike [v138, v143] h28 fun v151 h30 =>
                          J3 v151 h30) (
                          J3 (Value.bool false) h28)))) fun J2 =>
                S.C I.f_space_Space_Mark [v43] h22 fun v109 h31 =>
                Vb (bin .neq v109 v77) fun v111 =>
                Br v111 (
                  J2 (Value.bool true) h31) (
                  S.C I.f_space_Space_Ended [v43] h31 fun v114 h32 =>
                  Br v114 (
                    J2 (Value.bool true) h32) (
                    S.C I.f_space_Space_Writes [v43] h32 fun v118 h33 =>
                    S.C I.f_space_Space_Writes [v45] h33 fun v120 h34 =>
                    S.C I.f_simulcastref30_Same [v118, v120] h34 fun v121 h35 =>
                    Vb (uno .not v121) fun v122 =>
                    J2 v122 h35))))))) fun J0 =>
    Vb (lnS ahead1) fun v24 =>
    Vb (bin .gtr v24 (Value.int IntKind.i64 40)) fun v25 =>
    Br v25 (
      J0 (Value.bool true) h2) (
      Vb (lnS behind2) fun v28 =>
      Vb (bin .gtr v28 (Value.int IntKind.i64 40)) fun v29 =>
      J0 v29 h2))

def F_simulcastlaw30_SpaceOrders (S : Sys) (I : Ids) (vals0 reads1 puts2 : Value) (h : Hp) (R : Value → Hp → Prop) : Prop :=
  Eb (nw (Value.cells vals0) I.t_8_int64 h) fun vals3 h1 =>
  S.C I.f_simulcastlaw30_awake [] h1 fun v21 h2 =>
  Vb (uno .not v21) fun v22 =>
  Br v22 (
    R (Value.bool false) h2) (
    Jn1 (fun v30 h3 =>
        Br v30 (
          R (Value.bool true) h3) (
          Eb (mmk h3) fun v31 h4 =>
          Lp1 (Value.int IntKind.i64 0) h4 fun i8 h5 again0 =>
          Vb (bin .lss i8 (Value.int IntKind.i64 8)) fun v33 =>
          Br v33 (
            Vb (ixa 8 1 vals3 i8) fun v39 =>
            Vb (ldc v39 h5) fun v40 =>
            Vb (cvi .u32 i8) fun v42 =>
            Vb (bldS [(0, 1), (1, 1), (2, 1)] #[Value.int IntKind.i64 0, Value.int IntKind.u32 0, Value.int IntKind.u32 0] [(0, v40), (1, v42)]) fun v43 =>
            Sb (mup (.int .i64) v31 i8 v43 h5) fun h6 =>
            Vb (bin .add i8 (Value.int IntKind.i64 1)) fun v35 =>
            again0 v35 h6) (
            S.C I.f_space_New [v31] h5 fun v45 h7 =>
            S.C I.f_space_New [v31] h7 fun v47 h8 =>
            Lp1 (Value.int IntKind.i64 0) h8 fun i11 h9 again1 =>
            Vb (lnS reads1) fun v50 =>
            Vb (bin .lss i11 v50) fun v51 =>
            Br v51 (
              Vb (ixs 1 reads1 i11) fun v57 =>
              Vb (ldc v57 h9) fun v58 =>
              Vb (bin .rem v58 (Value.int IntKind.u8 8)) fun v59 =>
              Vb (cvi .i64 v59) fun v60 =>
              S.C I.f_space_Space_Get [v45, v60] h9 fun v61 h10 =>
              Vb (bin .add i11 (Value.int IntKind.i64 1)) fun v53 =>
              again1 v53 h10) (
              Lp1 (Value.int IntKind.i64 0) h9 fun i12 h11 again2 =>
              Vb (lnS puts2) fun v64 =>
              Vb (bin .lss i12 v64) fun v65 =>
              Br v65 (
                Jn0 (fun h12 =>
                    Vb (bin .add i12 (Value.int IntKind.i64 1)) fun v67 =>
                    again2 v67 h12) fun J1 =>
                Vb (ixs 3 puts2 i12) fun v70 =>
                Vb (fa 1 v70) fun v71 =>
                Vb (ldc v71 h11) fun v72 =>
                Vb (bin .rem v72 (Value.int IntKind.i64 8)) fun v73 =>
                Vb (bin .add v73 (Value.int IntKind.i64 8)) fun v74 =>
                Vb (bin .rem v74 (Value.int IntKind.i64 8)) fun v75 =>
                Vb (ixs 3 puts2 i12) fun v80 =>
                Vb (fa 2 v80) fun v81 =>
                Vb (ldc v81 h11) fun v82 =>
                S.C I.f_space_Space_Put [v45, v75, v82] h11 fun v83 h13 =>
                Vb (bin .add i12 (Value.int IntKind.i64 1)) fun v85 =>
                Lp2 (Value.bool true) v85 h13 fun last14 j15 h14 again3 =>
                Vb (lnS puts2) fun v88 =>
                Vb (bin .lss j15 v88) fun v89 =>
                Br v89 (
                  Jn1 (fun last14_1 h15 =>
                      Vb (bin .add j15 (Value.int IntKind.i64 1)) fun v91 =>
                      again3 last14_1 v91 h15) fun J2 =>
                  Br last14 (
                    Vb (ixs 3 puts2 j15) fun v96 =>
                    Vb (fa 1 v96) fun v97 =>
                    Vb (ldc v97 h14) fun v98 =>
                    Vb (bin .rem v98 (Value.int IntKind.i64 8)) fun v99 =>
                    Vb (bin .add v99 (Value.int IntKind.i64 8)) fun v100 =>
                    Vb (bin .rem v100 (Value.int IntKind.i64 8)) fun v101 =>
                    Vb (bin .neq v101 v75) fun v103 =>
                    J2 v103 h14) (
                    J2 (Value.bool false) h14)) (
                  Br last14 (
                    Vb (ixs 3 puts2 i12) fun v110 =>
                    Vb (fa 2 v110) fun v111 =>
                    Vb (ldc v111 h14) fun v112 =>
                    S.C I.f_space_Space_Put [v47, v75, v112] h14 fun v113 h16 =>
                    J1 h16) (
                    J1 h14))) (
                Vb (lnS reads1) fun v115 =>
                Vb (bin .sub v115 (Value.int IntKind.i64 1)) fun v116 =>
                Lp1 v116 h11 fun i16 h17 again4 =>
                Vb (bin .geq i16 (Value.int IntKind.i64 0)) fun v118 =>
                Br v118 (
                  Vb (ixs 1 reads1 i16) fun v124 =>
                  Vb (ldc v124 h17) fun v125 =>
                  Vb (bin .rem v125 (Value.int IntKind.u8 8)) fun v126 =>
                  Vb (cvi .i64 v126) fun v127 =>
                  S.C I.f_space_Space_Get [v47, v127] h17 fun v128 h18 =>
                  Vb (bin .sub i16 (Value.int IntKind.i64 1)) fun v120 =>
                  again4 v120 h18) (
                  S.C I.f_space_Space_Entries [v45] h17 fun v131 h19 =>
                  Vb (ext 0 v131) fun v132 =>
                  Vb (ext 1 v131) fun v133 =>
                  S.C I.f_space_Space_Entries [v47] h19 fun v136 h20 =>
                  Vb (ext 0 v136) fun v137 =>
                  Vb (ext 1 v136) fun v138 =>
                  Jn1 (fun v6 h21 =>
                      R v6 h21) fun J3 =>
                  Vb (bin .eql v133 v138) fun v141 =>
                  Br v141 (
                    S.C I.f_simulcastref30_Alike [v132, v137] h20 fun v145 h22 =>
                    Br v145 (
                      S.C I.f_space_Space_Writes [v45] h22 fun v149 h23 =>
                      S.C I.f_space_Space_Writes [v47] h23 fun v151 h24 =>
                      S.C I.f_simulcastref30_Same [v149, v151] h24 fun v152 h25 =>
                      Br v152 (
                        S.C I.f_space_Space_Reads [v45] h25 fun v156 h26 =>
                        S.C I.f_space_Space_Reads [v47] h26 fun v158 h27 =>
                        S.C I.f_simulcastref30_Same [v156, v158] h27 fun v159 h28 =>
                        J3 v159 h28) (
                        J3 (Value.bool false) h25)) (
                      J3 (Value.bool false) h22)) (
                    J3 (Value.bool false) h20))))))) fun J0 =>
    Vb (lnS reads1) fun v24 =>
    Vb (bin .gtr v24 (Value.int IntKind.i64 40)) fun v25 =>
    Br v25 (
      J0 (Value.bool true) h2) (
      Vb (lnS puts2) fun v28 =>
      Vb (bin .gtr v28 (Value.int IntKind.i64 40)) fun v29 =>
      J0 v29 h2))

def F_simulcastlaw31_PoolWild (S : Sys) (I : Ids) (p0 v1 at2 : Value) (h : Hp) (R : Value → Hp → Prop) : Prop :=
  Eb (nw (Value.cells p0) I.t_pool_Pool h) fun p3 h1 =>
  Vb (lnS v1) fun v25 =>
  Vb (bin .gtr v25 (Value.int IntKind.i64 200)) fun v26 =>
  Br v26 (
    S.C I.f_simulcastlaw31_awake [] h1 fun v27 h2 =>
    R v27 h2) (
    Vb (bldS [(0, 1)] #[Value.slice none 0 0] [(0, v1)]) fun v29 =>
    Eb (nw #[Value.slice none 0 0] I.t_simulcastlaw31_Words h1) fun w7 h3 =>
    Sb (sto 1 w7 v29 h3) fun h4 =>
    Vb (lda 1 w7 h4) fun v30 =>
    S.C I.f_simulcastlaw31_Words_Known [v30] h4 fun v31 h5 =>
    S.C I.f_space_New [v31] h5 fun v32 h6 =>
    Vb (lda 3 p3 h6) fun v34 =>
    S.C I.f_pool_Pool_Take [v34, v32] h6 fun v36 h7 =>
    Vb (ext 0 v36) fun v37 =>
    Vb (ext 1 v36) fun v38 =>
    S.C I.f_space_Space_Entries [v32] h7 fun v41 h8 =>
    Vb (ext 0 v41) fun v42 =>
    Vb (ext 1 v41) fun v43 =>
    Vb (lda 3 p3 h8) fun v44 =>
    S.C I.f_pool_Pool_Check [v44] h8 fun v45 h9 =>
    Vb (bin .neq v45 (Value.int IntKind.i64 0)) fun v46 =>
    Br v46 (
      Jn1 (fun v60 h10 =>
          Br v60 (
            R (Value.bool false) h10) (
            Vb (lda 3 p3 h10) fun v62 =>
            Vb (lda 1 w7 h10) fun v63 =>
            Vb (some (.func (.func I.f_simulcastlaw31_Words_Get) #[v63] #[])) fun v64 =>
            S.C I.f_pool_Pool_Free [v62, v64] h10 fun v65 h11 =>
            Vb (ext 0 v65) fun v66 =>
            Vb (ext 1 v65) fun v67 =>
            Jn1 (fun v6 h12 =>
                R v6 h12) fun J1 =>
            Vb (bin .eql v67 (Value.int IntKind.i64 1)) fun v69 =>
            Br v69 (
              S.C I.f_simulcastlaw31_awake [] h11 fun v71 h13 =>
              J1 v71 h13) (
              J1 (Value.bool false) h11))) fun J0 =>
      Vb (bin .neq v38 (Value.int IntKind.i64 1)) fun v48 =>
      Br v48 (
        J0 (Value.bool true) h9) (
        Vb (lda 3 p3 h9) fun v50 =>
        S.C I.f_pool_Pool_Give [v50, v32, at2] h9 fun v53 h14 =>
        Vb (bin .neq v53 (Value.int IntKind.i64 1)) fun v54 =>
        Br v54 (
          J0 (Value.bool true) h14) (
          Vb (lnS v42) fun v58 =>
          Vb (bin .neq v58 (Value.int IntKind.i64 0)) fun v59 =>
          J0 v59 h14))) (
      Vb (lda 3 p3 h9) fun v74 =>
      S.C I.f_pool_Pool_Node [v74, v37] h9 fun v76 h15 =>
      Vb (ext 0 v76) fun v77 =>
      Vb (ext 1 v76) fun v78 =>
      Jn1 (fun v97 h16 =>
          Br v97 (
            R (Value.bool false) h16) (
            Lp1 (Value.int IntKind.i64 0) h16 fun i17 h17 again0 =>
            Jn1 (fun v105 h18 =>
                Br v105 (
                  Vb (lda 3 p3 h18) fun v109 =>
                  Vb (ixs 6 v42 i17) fun v112 =>
                  Vb (fa 0 v112) fun v113 =>
                  Vb (ldc v113 h18) fun v114 =>
                  S.C I.f_pool_Pool_Node [v109, v114] h18 fun v115 h19 =>
                  Vb (ext 0 v115) fun v116 =>
                  Vb (ext 1 v115) fun v117 =>
                  Jn1 (fun v151 h20 =>
                      Br v151 (
                        R (Value.bool false) h20) (
                        Vb (bin .add i17 (Value.int IntKind.i64 1)) fun v107 =>
                        again0 v107 h20)) fun J4 =>
                  Vb (uno .not v117) fun v119 =>
                  Br v119 (
                    Vb (ixs 6 v42 i17) fun v123 =>
                    Vb (fa 0 v123) fun v124 =>
                    Vb (ldc v124 h19) fun v125 =>
                    Vb (fa 0 p3) fun v126 =>
                    Vb (ldc v126 h19) fun v127 =>
                    Vb (bin .lss v125 v127) fun v128 =>
                    Br v128 (
                      J4 (Value.bool true) h19) (
                      Vb (ixs 6 v42 i17) fun v132 =>
                      Vb (fa 0 v132) fun v133 =>
                      Vb (ldc v133 h19) fun v134 =>
                      Vb (fa 0 p3) fun v135 =>
                      Vb (ldc v135 h19) fun v136 =>
                      Vb (bin .add v136 (Value.int IntKind.i64 2)) fun v137 =>
                      Vb (bin .gtr v134 v137) fun v138 =>
                      Br v138 (
                        J4 (Value.bool true) h19) (
                        Vb (ixs 6 v42 i17) fun v144 =>
                        Vb (fa 5 v144) fun v145 =>
                        Vb (ldc v145 h19) fun v146 =>
                        Br v146 (
                          Vb (bin .neq v38 (Value.int IntKind.i64 0)) fun v149 =>
                          J4 v149 h19) (
                          J4 (Value.bool false) h19)))) (
                    Vb (ixs 6 v42 i17) fun v144_1 =>
                    Vb (fa 5 v144_1) fun v145_1 =>
                    Vb (ldc v145_1 h19) fun v146_1 =>
                    Br v146_1 (
                      Vb (bin .neq v38 (Value.int IntKind.i64 0)) fun v149_1 =>
                      J4 v149_1 h19) (
                      J4 (Value.bool false) h19))) (
                  Vb (lda 3 p3 h18) fun v153 =>
                  S.C I.f_pool_Pool_Node [v153, at2] h18 fun v155 h21 =>
                  Vb (ext 0 v155) fun v156 =>
                  Vb (ext 1 v155) fun v157 =>
                  Vb (lda 1 w7 h21) fun v158 =>
                  S.C I.f_simulcastlaw31_Words_Known [v158] h21 fun v159 h22 =>
                  S.C I.f_space_New [v159] h22 fun v160 h23 =>
                  Vb (lda 3 p3 h23) fun v161 =>
                  S.C I.f_pool_Pool_Give [v161, v160, at2] h23 fun v164 h24 =>
                  Jn1 (fun v6_1 h25 =>
                      R v6_1 h25) fun J5 =>
                  Vb (bin .eql v164 (Value.int IntKind.i64 0)) fun v166 =>
                  Vb (pos? (eqB v166 v157)) fun v168 =>
                  Br v168 (
                    Br v157 (
                      S.C I.f_simulcastlaw31_awake [] h24 fun v177 h26 =>
                      J5 v177 h26) (
                      Vb (bin .eql v164 (Value.int IntKind.i64 1)) fun v173 =>
                      Br v173 (
                        S.C I.f_simulcastlaw31_awake [] h24 fun v177_1 h27 =>
                        J5 v177_1 h27) (
                        J5 (Value.bool false) h24))) (
                    J5 (Value.bool false) h24))) fun J3 =>
            Vb (lnS v42) fun v100 =>
            Vb (bin .lss i17 v100) fun v101 =>
            Br v101 (
              Vb (bin .eql v43 (Value.int IntKind.i64 0)) fun v104 =>
              J3 v104 h17) (
              J3 (Value.bool false) h17))) fun J2 =>
      Vb (bin .eql v38 (Value.int IntKind.i64 0)) fun v80 =>
      Br v80 (
        Vb (uno .not v78) fun v83 =>
        Br v83 (
          S.C I.f_space_Space_Ended [v32] h15 fun v87 h28 =>
          Vb (uno .not v87) fun v88 =>
          Br v88 (
            J2 (Value.bool true) h28) (
            Vb (bin .neq v38 (Value.int IntKind.i64 0)) fun v92 =>
            Br v92 (
              Vb (bin .neq v37 (Value.int IntKind.i64 0)) fun v95 =>
              J2 v95 h28) (
              J2 (Value.bool false) h28))) (
          Vb (bin .neq v38 (Value.int IntKind.i64 0)) fun v92_1 =>
          Br v92_1 (
            Vb (bin .neq v37 (Value.int IntKind.i64 0)) fun v95_1 =>
            J2 v95_1 h15) (
            J2 (Value.bool false) h15))) (
        Vb (bin .neq v38 (Value.int IntKind.i64 0)) fun v92_2 =>
        Br v92_2 (
          Vb (bin .neq v37 (Value.int IntKind.i64 0)) fun v95_2 =>
          J2 v95_2 h15) (
          J2 (Value.bool false) h15))))

def F_simulcastlaw31_PoolPlays (S : Sys) (I : Ids) (nodes0 l1 : Value) (h : Hp) (R : Value → Hp → Prop) : Prop :=
  Vb (lnS l1) fun v21 =>
  Vb (bin .gtr v21 (Value.int IntKind.i64 60)) fun v22 =>
  Br v22 (
    S.C I.f_simulcastlaw31_awake [] h fun v23 h1 =>
    R v23 h1) (
    S.C I.f_simulcastlaw31_start [nodes0] h fun v26 h2 =>
    Vb (ext 0 v26) fun v27 =>
    Vb (ext 1 v26) fun v28 =>
    Eb (nw #[Value.int IntKind.i64 0, Value.int IntKind.i64 0, Value.int IntKind.i64 0] I.t_pool_Pool h2) fun p5 h3 =>
    Eb (nw #[Value.slice none 0 0] I.t_simulcastlaw31_Words h3) fun w6 h4 =>
    Sb (sto 3 p5 v27 h4) fun h5 =>
    Sb (sto 1 w6 v28 h5) fun h6 =>
    Eb (nw #[Value.slice none 0 0, Value.int IntKind.i64 0] I.t_simulcastref31_State h6) fun m7 h7 =>
    Lp2 (Value.slice none 0 0) (Value.int IntKind.i64 0) h7 fun has8 i9 h8 again0 =>
    Vb (lnS l1) fun v31 =>
    Vb (bin .lss i9 v31) fun v32 =>
    Br v32 (
      Vb (lda 1 w6 h8) fun v35 =>
      S.C I.f_simulcastlaw31_Words_Known [v35] h8 fun v36 h9 =>
      S.C I.f_space_New [v36] h9 fun v37 h10 =>
      Vb (lda 3 p5 h10) fun v38 =>
      Vb (fa 2 p5) fun v41 =>
      Vb (ldc v41 h10) fun v42 =>
      Vb (fa 1 m7) fun v43 =>
      Vb (ldc v43 h10) fun v44 =>
      Vb (bin .sub v42 v44) fun v45 =>
      Vb (fa 0 m7) fun v46 =>
      Vb (ldc v46 h10) fun v47 =>
      Vb (lnS v47) fun v48 =>
      Vb (bin .add v45 v48) fun v49 =>
      S.C I.f_pool_Pool_Left [v38, v37] h10 fun v40 h11 =>
      ldc v46 h11 = some v47 ∧
      ldc v43 h11 = some v44 ∧
      ldc v41 h11 = some v42 ∧
      Vb (bin .neq v40 v49) fun v50 =>
      Br v50 (
        R (Value.bool false) h11) (
        Jn1 (fun has8_1 h12 =>
            Vb (lda 1 w6 h12) fun v145 =>
            S.C I.f_simulcastlaw31_Words_Behind [v145, v37] h12 fun v147 h13 =>
            Vb (ext 0 v147) fun v148 =>
            Vb (ext 1 v147) fun v149 =>
            Eb (nw #[Value.slice none 0 0] I.t_simulcastlaw31_Words h13) fun x16 h14 =>
            Sb (sto 1 x16 v148 h14) fun h15 =>
            Vb (lda 3 p5 h15) fun v151 =>
            Vb (lda 1 x16 h15) fun v152 =>
            Vb (some (.func (.func I.f_simulcastlaw31_Words_Get) #[v152] #[])) fun v153 =>
            S.C I.f_pool_Pool_Free [v151, v153] h15 fun v154 h16 =>
            Vb (ext 0 v154) fun v155 =>
            Vb (ext 1 v154) fun v156 =>
            Jn1 (fun v195 h17 =>
                Br v195 (
                  R (Value.bool false) h17) (
                  Vb (lda 1 x16 h17) fun v196 =>
                  Sb (sto 1 w6 v196 h17) fun h18 =>
                  Vb (bin .add i9 (Value.int IntKind.i64 1)) fun v34 =>
                  again0 has8_1 v34 h18)) fun J1 =>
            Vb (uno .not v149) fun v158 =>
            Br v158 (
              J1 (Value.bool true) h16) (
              Vb (bin .neq v156 (Value.int IntKind.i64 0)) fun v161 =>
              Br v161 (
                J1 (Value.bool true) h16) (
                Vb (fa 0 m7) fun v165 =>
                Vb (ldc v165 h16) fun v166 =>
                S.C I.f_simulcastref31_Turned [v166] h16 fun v167 h19 =>
                S.C I.f_simulcastref31_Same [v155, v167] h19 fun v168 h20 =>
                Vb (uno .not v168) fun v169 =>
                Br v169 (
                  J1 (Value.bool true) h20) (
                  Vb (lda 1 x16 h20) fun v172 =>
                  Vb (fa 1 m7) fun v174 =>
                  Vb (ldc v174 h20) fun v175 =>
                  S.C I.f_simulcastlaw31_Words_Get [v172, (Value.int IntKind.i64 4)] h20 fun v173 h21 =>
                  ldc v174 h21 = some v175 ∧
                  Vb (bin .neq v173 v175) fun v176 =>
                  Br v176 (
                    J1 (Value.bool true) h21) (
                    Vb (lda 1 x16 h21) fun v179 =>
                    Vb (fa 0 m7) fun v181 =>
                    Vb (ldc v181 h21) fun v182 =>
                    Vb (lnS v182) fun v183 =>
                    S.C I.f_simulcastlaw31_Words_Get [v179, (Value.int IntKind.i64 5)] h21 fun v180 h22 =>
                    ldc v181 h22 = some v182 ∧
                    Vb (bin .neq v180 v183) fun v184 =>
                    Br v184 (
                      J1 (Value.bool true) h22) (
                      Vb (lnS v155) fun v188 =>
                      Vb (lnS has8_1) fun v190 =>
                      Vb (bin .add v188 v190) fun v191 =>
                      Vb (fa 1 m7) fun v192 =>
                      Vb (ldc v192 h22) fun v193 =>
                      Vb (bin .neq v191 v193) fun v194 =>
                      J1 v194 h22)))))) fun J0 =>
        Vb (ixs 2 l1 i9) fun v53 =>
        Vb (fa 0 v53) fun v54 =>
        Vb (ldc v54 h11) fun v55 =>
        Vb (bin .rem v55 (Value.int IntKind.u8 3)) fun v56 =>
        Vb (bin .lss v56 (Value.int IntKind.u8 2)) fun v57 =>
        Br v57 (
          Vb (lda 3 p5 h11) fun v59 =>
          S.C I.f_pool_Pool_Take [v59, v37] h11 fun v61 h23 =>
          Vb (ext 0 v61) fun v62 =>
          Vb (ext 1 v61) fun v63 =>
          Vb (lda 2 m7 h23) fun v65 =>
          Vb (fa 2 p5) fun v66 =>
          Vb (ldc v66 h23) fun v67 =>
          S.C I.f_simulcastref31_Take [v65, v67] h23 fun v68 h24 =>
          Vb (ext 0 v68) fun v69 =>
          Vb (ext 1 v68) fun v70 =>
          Eb (nw #[Value.slice none 0 0, Value.int IntKind.i64 0] I.t_simulcastref31_State h24) fun n13 h25 =>
          Sb (sto 2 n13 v69 h25) fun h26 =>
          Jn1 (fun v98 h27 =>
              Br v98 (
                R (Value.bool false) h27) (
                Jn1 (fun has8_2 h28 =>
                    Vb (lda 2 n13 h28) fun v105 =>
                    Sb (sto 2 m7 v105 h28) fun h29 =>
                    J0 has8_2 h29) fun J3 =>
                Vb (bin .eql v63 (Value.int IntKind.i64 0)) fun v100 =>
                Br v100 (
                  Eb (bsl #[Value.int IntKind.i64 0] 1 1 I.t_int [(0, v70)] h27) fun v103 h30 =>
                  Ap I.t_int #[Value.int IntKind.i64 0] 1 8 has8 v103 h30 fun v104 h31 =>
                  J3 v104 h31) (
                  J3 has8 h27))) fun J2 =>
          Vb (bin .eql v63 (Value.int IntKind.i64 0)) fun v72 =>
          Vb (bin .geq v70 (Value.int IntKind.i64 0)) fun v74 =>
          Vb (neg? (eqB v72 v74)) fun v75 =>
          Br v75 (
            J2 (Value.bool true) h26) (
            Vb (bin .eql v63 (Value.int IntKind.i64 0)) fun v78 =>
            Br v78 (
              Vb (bin .mul (Value.int IntKind.i64 8) v70) fun v82 =>
              Vb (bin .add (Value.int IntKind.i64 8) v82) fun v83 =>
              Vb (bin .neq v62 v83) fun v84 =>
              Br v84 (
                J2 (Value.bool true) h26) (
                Vb (bin .neq v63 (Value.int IntKind.i64 0)) fun v89 =>
                Br v89 (
                  Vb (bin .neq v63 (Value.int IntKind.i64 9)) fun v92 =>
                  Br v92 (
                    J2 (Value.bool true) h26) (
                    Vb (bin .neq v62 (Value.int IntKind.i64 0)) fun v95 =>
                    J2 v95 h26)) (
                  J2 (Value.bool false) h26))) (
              Vb (bin .neq v63 (Value.int IntKind.i64 0)) fun v89_1 =>
              Br v89_1 (
                Vb (bin .neq v63 (Value.int IntKind.i64 9)) fun v92_1 =>
                Br v92_1 (
                  J2 (Value.bool true) h26) (
                  Vb (bin .neq v62 (Value.int IntKind.i64 0)) fun v95_1 =>
                  J2 v95_1 h26)) (
                J2 (Value.bool false) h26)))) (
          Vb (lnS has8) fun v107 =>
          Vb (bin .gtr v107 (Value.int IntKind.i64 0)) fun v108 =>
          Br v108 (
            Vb (ixs 2 l1 i9) fun v111 =>
            Vb (fa 1 v111) fun v112 =>
            Vb (ldc v112 h11) fun v113 =>
            Vb (cvi .i64 v113) fun v114 =>
            Vb (lnS has8) fun v116 =>
            Vb (bin .rem v114 v116) fun v117 =>
            Vb (lda 3 p5 h11) fun v118 =>
            Vb (ixs 1 has8 v117) fun v122 =>
            Vb (ldc v122 h11) fun v123 =>
            Vb (bin .mul (Value.int IntKind.i64 8) v123) fun v124 =>
            Vb (bin .add (Value.int IntKind.i64 8) v124) fun v125 =>
            S.C I.f_pool_Pool_Give [v118, v37, v125] h11 fun v126 h32 =>
            Vb (bin .neq v126 (Value.int IntKind.i64 0)) fun v127 =>
            Br v127 (
              R (Value.bool false) h32) (
              Vb (lda 2 m7 h32) fun v128 =>
              Vb (ixs 1 has8 v117) fun v131 =>
              Vb (ldc v131 h32) fun v132 =>
              S.C I.f_simulcastref31_Give [v128, v132] h32 fun v133 h33 =>
              Sb (sto 2 m7 v133 h33) fun h34 =>
              Vb (slc 1 has8 none (some v117) none) fun v137 =>
              Vb (bin .add v117 (Value.int IntKind.i64 1)) fun v141 =>
              Vb (slc 1 has8 (some v141) none none) fun v142 =>
              Eb (bsl #[Value.int IntKind.i64 0] 1 0 I.t_int [] h34) fun v134 h35 =>
              Ap I.t_int #[Value.int IntKind.i64 0] 1 8 v134 v137 h35 fun v138 h36 =>
              Ap I.t_int #[Value.int IntKind.i64 0] 1 8 v138 v142 h36 fun v143 h37 =>
              J0 v143 h37)) (
            J0 has8 h11)))) (
      S.C I.f_simulcastlaw31_awake [] h8 fun v197 h38 =>
      R v197 h38))

def F_simulcastlaw30_SpaceEntries (S : Sys) (I : Ids) (vals0 vers1 acts2 : Value) (h : Hp) (R : Value → Hp → Prop) : Prop :=
  Eb (nw (Value.cells vals0) I.t_8_int64 h) fun vals3 h1 =>
  Eb (nw (Value.cells vers1) I.t_8_uint16 h1) fun vers4 h2 =>
  S.C I.f_simulcastlaw30_awake [] h2 fun v28 h3 =>
  Vb (uno .not v28) fun v29 =>
  Br v29 (
    R (Value.bool false) h3) (
    Vb (lnS acts2) fun v31 =>
    Vb (bin .gtr v31 (Value.int IntKind.i64 60)) fun v32 =>
    Br v32 (
      R (Value.bool true) h3) (
      Eb (mmk h3) fun v33 h4 =>
      Lp2 (Value.slice none 0 0) (Value.int IntKind.i64 0) h4 fun w7 i9 h5 again0 =>
      Vb (bin .lss i9 (Value.int IntKind.i64 8)) fun v35 =>
      Br v35 (
        Vb (ixa 8 1 vals3 i9) fun v39 =>
        Vb (ldc v39 h5) fun v40 =>
        Vb (ixa 8 1 vers4 i9) fun v42 =>
        Vb (ldc v42 h5) fun v43 =>
        Vb (cvi .u32 v43) fun v44 =>
        Vb (bldS [(0, 1), (1, 1), (2, 1)] #[Value.int IntKind.i64 0, Value.int IntKind.u32 0, Value.int IntKind.u32 0] [(0, v40), (1, v44)]) fun v45 =>
        Eb (nw #[Value.int IntKind.i64 0, Value.int IntKind.u32 0, Value.int IntKind.u32 0] I.t_api_Word h5) fun x10 h6 =>
        ldc v42 h6 = some v43 ∧
        ldc v39 h6 = some v40 ∧
        Sb (sto 3 x10 v45 h6) fun h7 =>
        Vb (lda 3 x10 h7) fun v47 =>
        Eb (bsl #[Value.int IntKind.i64 0, Value.int IntKind.u32 0, Value.int IntKind.u32 0] 3 1 I.t_api_Word [(0, v47)] h7) fun v48 h8 =>
        Ap I.t_api_Word #[Value.int IntKind.i64 0, Value.int IntKind.u32 0, Value.int IntKind.u32 0] 3 16 w7 v48 h8 fun v49 h9 =>
        Vb (lda 3 x10 h9) fun v52 =>
        Sb (mup (.int .i64) v33 i9 v52 h9) fun h10 =>
        Vb (bin .add i9 (Value.int IntKind.i64 1)) fun v37 =>
        again0 v49 v37 h10) (
        S.C I.f_space_New [v33] h5 fun v54 h11 =>
        Lp1 (Value.int IntKind.i64 0) h11 fun i12 h12 again1 =>
        Vb (lnS acts2) fun v57 =>
        Vb (bin .lss i12 v57) fun v58 =>
        Br v58 (
          Vb (ixs 3 acts2 i12) fun v63 =>
          Vb (lda 3 v63 h12) fun v64 =>
          Eb (nw #[Value.int IntKind.u8 0, Value.int IntKind.i64 0, Value.int IntKind.i64 0] I.t_simulcastlaw30_Act h12) fun a13 h13 =>
          Sb (sto 3 a13 v64 h13) fun h14 =>
          Vb (fa 1 a13) fun v65 =>
          Vb (ldc v65 h14) fun v66 =>
          Vb (bin .rem v66 (Value.int IntKind.i64 8)) fun v67 =>
          Vb (bin .add v67 (Value.int IntKind.i64 8)) fun v68 =>
          Vb (bin .rem v68 (Value.int IntKind.i64 8)) fun v69 =>
          Vb (fa 1 a13) fun v70 =>
          Sb (sto 1 v70 v69 h14) fun h15 =>
          Vb (bldS [(0, 1), (1, 1), (2, 1), (3, 1), (4, 1)] #[Value.slice none 0 0, Value.slice none 0 0, Value.slice none 0 0, Value.bool false, Value.int IntKind.i64 0] []) fun v73 =>
          Vb (lda 3 a13 h15) fun v74 =>
          S.C I.f_simulcastlaw30_do [v54, v73, v74] h15 fun v75 h16 =>
          Vb (ext 0 v75) fun v76 =>
          Vb (ext 1 v75) fun v77 =>
          Vb (bin .add i12 (Value.int IntKind.i64 1)) fun v60 =>
          again1 v60 h16) (
          S.C I.f_space_Space_Entries [v54] h12 fun v80 h17 =>
          Vb (ext 0 v80) fun v81 =>
          Vb (ext 1 v80) fun v82 =>
          Vb (bin .neq v82 (Value.int IntKind.i64 0)) fun v84 =>
          Br v84 (
            R (Value.bool false) h17) (
            Eb (nw #[Value.int IntKind.i64 0, Value.int IntKind.i64 0, Value.int IntKind.i64 0, Value.int IntKind.i64 0, Value.int IntKind.i64 0, Value.int IntKind.i64 0, Value.int IntKind.i64 0, Value.int IntKind.i64 0] I.t_8_int64 h17) fun has16 h18 =>
            S.C I.f_space_Space_Writes [v54] h18 fun v86 h19 =>
            Lp1 (Value.int IntKind.i64 0) h19 fun i18 h20 again2 =>
            Vb (bin .lss i18 (Value.int IntKind.i64 8)) fun v88 =>
            Br v88 (
              S.C I.f_space_Space_Get [v54, i18] h20 fun v94 h21 =>
              Vb (ixa 8 1 has16 i18) fun v95 =>
              Sb (sto 1 v95 v94 h21) fun h22 =>
              Vb (bin .add i18 (Value.int IntKind.i64 1)) fun v90 =>
              again2 v90 h22) (
              S.C I.f_model_New [w7] h20 fun v97 h23 =>
              Eb (nw #[Value.slice none 0 0] I.t_model_Model h23) fun m19 h24 =>
              Sb (sto 1 m19 v97 h24) fun h25 =>
              Vb (lda 1 m19 h25) fun v99 =>
              S.C I.f_model_Model_Swap [v99, v81] h25 fun v101 h26 =>
              Vb (ext 0 v101) fun v102 =>
              Vb (ext 1 v101) fun v103 =>
              Vb (ext 2 v101) fun v104 =>
              Eb (nw #[Value.slice none 0 0] I.t_model_Model h26) fun n20 h27 =>
              Sb (sto 1 n20 v102 h27) fun h28 =>
              Jn2 (fun done21 g22 h29 =>
                  Jn1 (fun v114 h30 =>
                      Br v114 (
                        R (Value.bool false) h30) (
                        Lp1 (Value.int IntKind.i64 0) h30 fun i23 h31 again3 =>
                        Vb (bin .lss i23 (Value.int IntKind.i64 8)) fun v116 =>
                        Br v116 (
                          Vb (lda 1 n20 h31) fun v120 =>
                          S.C I.f_model_Model_At [v120, i23] h31 fun v122 h32 =>
                          Vb (ext 0 v122) fun v123 =>
                          Vb (ext 1 v122) fun v124 =>
                          Eb (nw #[Value.int IntKind.i64 0, Value.int IntKind.u32 0, Value.int IntKind.u32 0] I.t_api_Word h32) fun x24 h33 =>
                          Sb (sto 3 x24 v123 h33) fun h34 =>
                          Vb (ixa 8 1 vers4 i23) fun v126 =>
                          Vb (ldc v126 h34) fun v127 =>
                          Vb (cvi .u32 v127) fun v128 =>
                          Lp2 v128 (Value.int IntKind.i64 0) h34 fun ver26 j27 h35 again4 =>
                          Vb (lnS v86) fun v131 =>
                          Vb (bin .lss j27 v131) fun v132 =>
                          Br v132 (
                            Jn1 (fun ver26_1 h36 =>
                                Vb (bin .add j27 (Value.int IntKind.i64 1)) fun v134 =>
                                again4 ver26_1 v134 h36) fun J2 =>
                            Vb (ixs 1 v86 j27) fun v137 =>
                            Vb (ldc v137 h35) fun v138 =>
                            Vb (bin .eql v138 i23) fun v140 =>
                            Br v140 (
                              Vb (bin .add ver26 (Value.int IntKind.u32 1)) fun v142 =>
                              J2 v142 h35) (
                              J2 ver26 h35)) (
                            Jn1 (fun v154 h37 =>
                                Br v154 (
                                  R (Value.bool false) h37) (
                                  Vb (bin .add i23 (Value.int IntKind.i64 1)) fun v118 =>
                                  again3 v118 h37)) fun J3 =>
                            Vb (fa 0 x24) fun v143 =>
                            Vb (ldc v143 h35) fun v144 =>
                            Vb (ixa 8 1 has16 i23) fun v146 =>
                            Vb (ldc v146 h35) fun v147 =>
                            Vb (bin .neq v144 v147) fun v148 =>
                            Br v148 (
                              J3 (Value.bool true) h35) (
                              Vb (fa 1 x24) fun v150 =>
                              Vb (ldc v150 h35) fun v151 =>
                              Vb (bin .neq v151 ver26) fun v153 =>
                              J3 v153 h35))) (
                          R (Value.bool true) h31))) fun J1 =>
                  Vb (bin .neq g22 (Value.int IntKind.i64 0)) fun v110 =>
                  Br v110 (
                    J1 (Value.bool true) h29) (
                    Vb (uno .not done21) fun v113 =>
                    J1 v113 h29)) fun J0 =>
              Vb (lnS v81) fun v106 =>
              Vb (bin .eql v106 (Value.int IntKind.i64 0)) fun v107 =>
              Br v107 (
                Vb (lda 1 m19 h28) fun v108 =>
                Sb (sto 1 n20 v108 h28) fun h38 =>
                J0 (Value.bool true) (Value.int IntKind.i64 0) h38) (
                J0 v103 v104 h28)))))))

def F_simulcastlaw34_QueueWild (S : Sys) (I : Ids) (nodes0 v1 a2 : Value) (h : Hp) (R : Value → Hp → Prop) : Prop :=
  Eb (nw (Value.cells a2) I.t_simulcastlaw34_Act h) fun a5 h1 =>
  Vb (lnS v1) fun v19 =>
  Vb (bin .gtr v19 (Value.int IntKind.i64 120)) fun v20 =>
  Br v20 (
    S.C I.f_simulcastlaw34_awake [] h1 fun v21 h2 =>
    R v21 h2) (
    S.C I.f_simulcastlaw34_start [nodes0] h1 fun v24 h3 =>
    Vb (ext 0 v24) fun v25 =>
    Vb (ext 1 v24) fun v26 =>
    Eb (nw #[Value.int IntKind.i64 0, Value.int IntKind.i64 0, Value.int IntKind.i64 0] I.t_pool_Pool h3) fun p7 h4 =>
    Eb (nw #[Value.slice none 0 0] I.t_simulcastlaw31_Words h4) fun v8 h5 =>
    Sb (sto 3 p7 v25 h5) fun h6 =>
    Sb (sto 1 v8 v26 h6) fun h7 =>
    Vb (bldS [(0, 1)] #[Value.slice none 0 0] [(0, v1)]) fun v28 =>
    Eb (nw #[Value.slice none 0 0] I.t_simulcastlaw31_Words h7) fun w9 h8 =>
    Sb (sto 1 w9 v28 h8) fun h9 =>
    Vb (lda 1 w9 h9) fun v29 =>
    S.C I.f_simulcastlaw34_space0 [v29] h9 fun v30 h10 =>
    Vb (lda 3 p7 h10) fun v33 =>
    S.C I.f_queue_Walk [v30, v33, (Value.int IntKind.i64 8)] h10 fun v34 h11 =>
    Vb (ext 0 v34) fun v35 =>
    Vb (ext 1 v34) fun v36 =>
    Jn1 (fun v54 h12 =>
        Br v54 (
          R (Value.bool false) h12) (
          Vb (lda 1 w9 h12) fun v55 =>
          S.C I.f_simulcastlaw34_space0 [v55] h12 fun v56 h13 =>
          Jn1 (fun f14 h14 =>
              S.C I.f_space_Space_Entries [v56] h14 fun v74 h15 =>
              Vb (ext 0 v74) fun v75 =>
              Vb (ext 1 v74) fun v76 =>
              Lp1 (Value.int IntKind.i64 0) h15 fun i17 h16 again0 =>
              Jn1 (fun v88 h17 =>
                  Br v88 (
                    Vb (ixs 6 v75 i17) fun v93 =>
                    Vb (fa 4 v93) fun v94 =>
                    Vb (ldc v94 h17) fun v95 =>
                    Vb (ixs 6 v75 i17) fun v98 =>
                    Vb (fa 1 v98) fun v99 =>
                    Vb (fa 0 v99) fun v100 =>
                    Vb (ldc v100 h17) fun v101 =>
                    Vb (bin .neq v95 v101) fun v102 =>
                    Br v102 (
                      R (Value.bool false) h17) (
                      Vb (bin .add i17 (Value.int IntKind.i64 1)) fun v90 =>
                      again0 v90 h17)) (
                    S.C I.f_simulcastlaw34_awake [] h17 fun v103 h18 =>
                    R v103 h18)) fun J2 =>
              Vb (lnS v75) fun v79 =>
              Vb (bin .lss i17 v79) fun v80 =>
              Br v80 (
                Vb (bin .eql v76 (Value.int IntKind.i64 0)) fun v83 =>
                Br v83 (
                  Vb (bin .neq f14 (Value.int IntKind.i64 0)) fun v87 =>
                  J2 v87 h16) (
                  J2 (Value.bool false) h16)) (
                J2 (Value.bool false) h16)) fun J1 =>
          Vb (fa 0 a5) fun v57 =>
          Vb (ldc v57 h13) fun v58 =>
          Vb (bin .rem v58 (Value.int IntKind.u8 3)) fun v59 =>
          Vb (bin .lss v59 (Value.int IntKind.u8 2)) fun v60 =>
          Br v60 (
            Vb (lda 3 p7 h13) fun v62 =>
            Vb (fa 1 a5) fun v63 =>
            Vb (ldc v63 h13) fun v64 =>
            S.C I.f_queue_Put [v56, v62, (Value.int IntKind.i64 8), v64] h13 fun v65 h19 =>
            J1 v65 h19) (
            Vb (lda 3 p7 h13) fun v68 =>
            S.C I.f_queue_Take [v56, v68, (Value.int IntKind.i64 8)] h13 fun v69 h20 =>
            Vb (ext 0 v69) fun v70 =>
            Vb (ext 1 v69) fun v71 =>
            J1 v71 h20))) fun J0 =>
    Vb (bin .neq v36 (Value.int IntKind.i64 0)) fun v38 =>
    Br v38 (
      Vb (bin .neq v36 (Value.int IntKind.i64 24)) fun v41 =>
      Br v41 (
        J0 (Value.bool true) h11) (
        Vb (lnS v35) fun v44 =>
        Vb (bin .neq v44 (Value.int IntKind.i64 0)) fun v45 =>
        Br v45 (
          J0 (Value.bool true) h11) (
          Vb (lnS v35) fun v50 =>
          Vb (fa 2 p7) fun v51 =>
          Vb (ldc v51 h11) fun v52 =>
          Vb (bin .gtr v50 v52) fun v53 =>
          J0 v53 h11))) (
      Vb (lnS v35) fun v50_1 =>
      Vb (fa 2 p7) fun v51_1 =>
      Vb (ldc v51_1 h11) fun v52_1 =>
      Vb (bin .gtr v50_1 v52_1) fun v53_1 =>
      J0 v53_1 h11))

def F_simulcastlaw31_start (S : Sys) (I : Ids) (nodes0 : Value) (h : Hp) (R : Value → Hp → Prop) : Prop :=
  Eb (nw #[Value.int IntKind.i64 0, Value.int IntKind.i64 0, Value.int IntKind.i64 0] I.t_pool_Pool h) fun v2 h1 =>
  Eb (nw #[Value.slice none 0 0] I.t_simulcastlaw31_Words h1) fun v3 h2 =>
  Vb (bin .rem nodes0 (Value.int IntKind.u8 9)) fun v6 =>
  Vb (cvi .i64 v6) fun v7 =>
  Vb (bldS [(0, 1), (1, 1), (2, 1)] #[Value.int IntKind.i64 0, Value.int IntKind.i64 0, Value.int IntKind.i64 0] [(0, (Value.int IntKind.i64 3)), (1, (Value.int IntKind.i64 8)), (2, v7)]) fun v8 =>
  Eb (nw #[Value.int IntKind.i64 0, Value.int IntKind.i64 0, Value.int IntKind.i64 0] I.t_pool_Pool h2) fun p4 h3 =>
  Sb (sto 3 p4 v8 h3) fun h4 =>
  Jn0 (fun h5 =>
      Vb (lda 3 v2 h5) fun r0 =>
      Vb (lda 1 v3 h5) fun r1 =>
      R (.tuple #[r0, r1]) h5) fun J0 =>
  Vb (lda 3 p4 h4) fun v9 =>
  Vb (fa 2 p4) fun v10 =>
  Vb (ldc v10 h4) fun v11 =>
  Vb (bin .mul (Value.int IntKind.i64 8) v11) fun v12 =>
  Vb (bin .add (Value.int IntKind.i64 8) v12) fun v13 =>
  And (
    Eb (msl #[Value.int IntKind.i64 0] 1 8 I.t_int64 v13 v13 h4) fun v14 h6 =>
    lda 3 p4 h6 = some v9 ∧
    Vb (bldS [(0, 1)] #[Value.slice none 0 0] [(0, v14)]) fun v15 =>
    Sb (sto 3 v2 v9 h6) fun h7 =>
    Sb (sto 1 v3 v15 h7) fun h8 =>
    J0 h8) (
    Sb (sto 3 v2 v9 h4) fun h9 =>
    ldc v10 h9 = some v11 ∧
    Eb (msl #[Value.int IntKind.i64 0] 1 8 I.t_int64 v13 v13 h9) fun v14_1 h10 =>
    Vb (bldS [(0, 1)] #[Value.slice none 0 0] [(0, v14_1)]) fun v15_1 =>
    Sb (sto 1 v3 v15_1 h10) fun h11 =>
    J0 h11)

def F_space_New (S : Sys) (I : Ids) (known0 : Value) (h : Hp) (R : Value → Hp → Prop) : Prop :=
  Eb (mmk h) fun v6 h1 =>
  Eb (mmk h1) fun v7 h2 =>
  Vb (bldS [(0, 1), (1, 1), (2, 1), (3, 1), (4, 1)] #[Value.map none, Value.map none, Value.slice none 0 0, Value.int IntKind.i64 0, Value.bool false] [(0, v6), (1, v7)]) fun v8 =>
  Eb (nw (Value.cells v8) I.t_space_Space h2) fun v9 h3 =>
  Eb (rng known0 h3) fun v11 h4 =>
  Lp0 h4 fun h5 again0 =>
  Nx v11 h5 fun v12 h6 =>
  Vb (ext 0 v12) fun v13 =>
  Br v13 (
    Vb (ent v11 h6) fun v14 =>
    Vb (ext 0 v14) fun v15 =>
    Vb (ext 1 v14) fun v16 =>
    Eb (nw #[Value.int IntKind.i64 0, Value.int IntKind.u32 0, Value.int IntKind.u32 0] I.t_api_Word h6) fun w5 h7 =>
    Sb (sto 3 w5 v16 h7) fun h8 =>
    Vb (fa 2 w5) fun v17 =>
    Vb (ldc v17 h8) fun v18 =>
    Vb (bin .eql v18 (Value.int IntKind.u32 0)) fun v19 =>
    Br v19 (
      Vb (nck v9) fun v21 =>
      Vb (fa 0 v21) fun v22 =>
      Vb (ldc v22 h8) fun v23 =>
      Vb (lda 3 w5 h8) fun v25 =>
      Sb (mup (.int .i64) v23 v15 v25 h8) fun h9 =>
      again0 h9) (
      again0 h8)) (
    R v9 h6)

def F_simulcastlaw31_Words_Known (S : Sys) (I : Ids) (w0 : Value) (h : Hp) (R : Value → Hp → Prop) : Prop :=
  Eb (nw (Value.cells w0) I.t_simulcastlaw31_Words h) fun w1 h1 =>
  Eb (mmk h1) fun v5 h2 =>
  Lp1 (Value.int IntKind.i64 0) h2 fun i4 h3 again0 =>
  Vb (fa 0 w1) fun v7 =>
  Vb (ldc v7 h3) fun v8 =>
  Vb (lnS v8) fun v9 =>
  Vb (bin .lss i4 v9) fun v10 =>
  Br v10 (
    Vb (fa 0 w1) fun v15 =>
    Vb (ldc v15 h3) fun v16 =>
    Vb (ixs 1 v16 i4) fun v18 =>
    Vb (ldc v18 h3) fun v19 =>
    Vb (bldS [(0, 1), (1, 1), (2, 1)] #[Value.int IntKind.i64 0, Value.int IntKind.u32 0, Value.int IntKind.u32 0] [(0, v19)]) fun v20 =>
    Sb (mup (.int .i64) v5 i4 v20 h3) fun h4 =>
    Vb (bin .add i4 (Value.int IntKind.i64 1)) fun v12 =>
    again0 v12 h4) (
    R v5 h3)

def F_pool_Pool_Take (S : Sys) (I : Ids) (p0 s1 : Value) (h : Hp) (R : Value → Hp → Prop) : Prop :=
  Eb (nw (Value.cells p0) I.t_pool_Pool h) fun p2 h1 =>
  Vb (lda 3 p2 h1) fun v12 =>
  S.C I.f_pool_Pool_Check [v12] h1 fun v13 h2 =>
  Vb (bin .neq v13 (Value.int IntKind.i64 0)) fun v15 =>
  Br v15 (
    R (.tuple #[(Value.int IntKind.i64 0), v13]) h2) (
    Vb (fa 0 p2) fun v18 =>
    Vb (ldc v18 h2) fun v19 =>
    S.C I.f_space_Space_Get [s1, v19] h2 fun v20 h3 =>
    Vb (bin .neq v20 (Value.int IntKind.i64 0)) fun v22 =>
    Br v22 (
      Vb (lda 3 p2 h3) fun v25 =>
      S.C I.f_pool_Pool_Node [v25, v20] h3 fun v27 h4 =>
      Vb (ext 0 v27) fun v28 =>
      Vb (ext 1 v27) fun v29 =>
      Vb (uno .not v29) fun v31 =>
      Br v31 (
        R (.tuple #[(Value.int IntKind.i64 0), (Value.int IntKind.i64 24)]) h4) (
        Vb (fa 0 p2) fun v33 =>
        Vb (ldc v33 h4) fun v34 =>
        S.C I.f_space_Space_Get [s1, v20] h4 fun v37 h5 =>
        ldc v33 h5 = some v34 ∧
        S.C I.f_space_Space_Put [s1, v34, v37] h5 fun v38 h6 =>
        Vb (lda 3 p2 h6) fun v39 =>
        S.C I.f_pool_Pool_add [v39, s1, (Value.int IntKind.i64 2), (Value.int IntKind.i64 (-1))] h6 fun v41 h7 =>
        R (.tuple #[v20, (Value.int IntKind.i64 0)]) h7)) (
      Vb (fa 0 p2) fun v44 =>
      Vb (ldc v44 h3) fun v45 =>
      Vb (bin .add v45 (Value.int IntKind.i64 1)) fun v46 =>
      S.C I.f_space_Space_Get [s1, v46] h3 fun v47 h8 =>
      Jn1 (fun v55 h9 =>
          Br v55 (
            R (.tuple #[(Value.int IntKind.i64 0), (Value.int IntKind.i64 9)]) h9) (
            Vb (fa 0 p2) fun v57 =>
            Vb (ldc v57 h9) fun v58 =>
            Vb (bin .add v58 (Value.int IntKind.i64 1)) fun v59 =>
            Vb (bin .add v47 (Value.int IntKind.i64 1)) fun v61 =>
            S.C I.f_space_Space_Put [s1, v59, v61] h9 fun v62 h10 =>
            Vb (fa 1 p2) fun v63 =>
            Vb (ldc v63 h10) fun v64 =>
            Vb (bin .mul (Value.int IntKind.i64 8) v47) fun v66 =>
            Vb (bin .add v64 v66) fun v67 =>
            R (.tuple #[v67, (Value.int IntKind.i64 0)]) h10)) fun J0 =>
      Vb (bin .lss v47 (Value.int IntKind.i64 0)) fun v49 =>
      Br v49 (
        J0 (Value.bool true) h8) (
        Vb (fa 2 p2) fun v52 =>
        Vb (ldc v52 h8) fun v53 =>
        Vb (bin .geq v47 v53) fun v54 =>
        J0 v54 h8)))

def F_pool_Pool_Give (S : Sys) (I : Ids) (p0 s1 at2 : Value) (h : Hp) (R : Value → Hp → Prop) : Prop :=
  Eb (nw (Value.cells p0) I.t_pool_Pool h) fun p3 h1 =>
  Vb (lda 3 p3 h1) fun v10 =>
  S.C I.f_pool_Pool_Node [v10, at2] h1 fun v12 h2 =>
  Vb (ext 0 v12) fun v13 =>
  Vb (ext 1 v12) fun v14 =>
  Vb (uno .not v14) fun v16 =>
  Br v16 (
    R (Value.int IntKind.i64 1) h2) (
    Vb (fa 0 p3) fun v20 =>
    Vb (ldc v20 h2) fun v21 =>
    S.C I.f_space_Space_Get [s1, v21] h2 fun v22 h3 =>
    S.C I.f_space_Space_Put [s1, at2, v22] h3 fun v23 h4 =>
    Vb (fa 0 p3) fun v25 =>
    Vb (ldc v25 h4) fun v26 =>
    S.C I.f_space_Space_Put [s1, v26, at2] h4 fun v28 h5 =>
    Vb (lda 3 p3 h5) fun v29 =>
    S.C I.f_pool_Pool_add [v29, s1, (Value.int IntKind.i64 2), (Value.int IntKind.i64 1)] h5 fun v31 h6 =>
    R (Value.int IntKind.i64 0) h6)

def F_pool_Pool_Left (S : Sys) (I : Ids) (p0 s1 : Value) (h : Hp) (R : Value → Hp → Prop) : Prop :=
  Eb (nw (Value.cells p0) I.t_pool_Pool h) fun p2 h1 =>
  Vb (lda 3 p2 h1) fun v5 =>
  S.C I.f_pool_Pool_Check [v5] h1 fun v6 h2 =>
  Vb (bin .neq v6 (Value.int IntKind.i64 0)) fun v7 =>
  Br v7 (
    R (Value.int IntKind.i64 0) h2) (
    Vb (fa 0 p2) fun v9 =>
    Vb (ldc v9 h2) fun v10 =>
    Vb (bin .add v10 (Value.int IntKind.i64 2)) fun v11 =>
    Vb (fa 2 p2) fun v13 =>
    Vb (ldc v13 h2) fun v14 =>
    Vb (fa 0 p2) fun v17 =>
    Vb (ldc v17 h2) fun v18 =>
    Vb (bin .add v18 (Value.int IntKind.i64 1)) fun v19 =>
    S.C I.f_space_Space_Get [s1, v11] h2 fun v12 h3 =>
    ldc v17 h3 = some v18 ∧
    ldc v13 h3 = some v14 ∧
    Vb (bin .add v12 v14) fun v15 =>
    S.C I.f_space_Space_Get [s1, v19] h3 fun v20 h4 =>
    ldc v13 h4 = some v14 ∧
    Vb (bin .sub v15 v20) fun v21 =>
    Vb (mx v21 (Value.int IntKind.i64 0)) fun v22 =>
    R v22 h4)

def F_simulcastlaw31_awake (S : Sys) (I : Ids) (h : Hp) (R : Value → Hp → Prop) : Prop :=
  Vb (bldS [(0, 1), (1, 1), (2, 1)] #[Value.int IntKind.i64 0, Value.int IntKind.i64 0, Value.int IntKind.i64 0] [(0, (Value.int IntKind.i64 1)), (1, (Value.int IntKind.i64 8)), (2, (Value.int IntKind.i64 2))]) fun v13 =>
  Eb (nw #[Value.int IntKind.i64 0, Value.int IntKind.i64 0, Value.int IntKind.i64 0] I.t_pool_Pool h) fun p1 h1 =>
  Sb (sto 3 p1 v13 h1) fun h2 =>
  Eb (msl #[Value.int IntKind.i64 0] 1 8 I.t_int64 (Value.int IntKind.i64 24) (Value.int IntKind.i64 24) h2) fun v14 h3 =>
  Vb (bldS [(0, 1)] #[Value.slice none 0 0] [(0, v14)]) fun v15 =>
  S.C I.f_simulcastlaw31_Words_Known [v15] h3 fun v16 h4 =>
  S.C I.f_space_New [v16] h4 fun v17 h5 =>
  Vb (lda 3 p1 h5) fun v19 =>
  S.C I.f_pool_Pool_Take [v19, v17] h5 fun v21 h6 =>
  Vb (ext 0 v21) fun v22 =>
  Vb (ext 1 v21) fun v23 =>
  Vb (lda 3 p1 h6) fun v25 =>
  S.C I.f_pool_Pool_Take [v25, v17] h6 fun v27 h7 =>
  Vb (ext 0 v27) fun v28 =>
  Vb (ext 1 v27) fun v29 =>
  Vb (lda 3 p1 h7) fun v31 =>
  S.C I.f_pool_Pool_Take [v31, v17] h7 fun v33 h8 =>
  Vb (ext 0 v33) fun v34 =>
  Vb (ext 1 v33) fun v35 =>
  Vb (lda 3 p1 h8) fun v36 =>
  Vb (lda 3 p1 h8) fun v39 =>
  S.C I.f_pool_Pool_Give [v36, v17, (Value.int IntKind.i64 8)] h8 fun v38 h9 =>
  lda 3 p1 h9 = some v39 ∧
  S.C I.f_pool_Pool_Give [v39, v17, (Value.int IntKind.i64 16)] h9 fun v41 h10 =>
  Vb (lda 3 p1 h10) fun v43 =>
  S.C I.f_pool_Pool_Take [v43, v17] h10 fun v45 h11 =>
  Vb (ext 0 v45) fun v46 =>
  Vb (ext 1 v45) fun v47 =>
  Jn1 (fun v0 h12 =>
      R v0 h12) fun J0 =>
  Vb (bin .eql v23 (Value.int IntKind.i64 0)) fun v49 =>
  Br v49 (
    Vb (bin .eql v29 (Value.int IntKind.i64 0)) fun v52 =>
    Br v52 (
      Vb (bin .eql v35 (Value.int IntKind.i64 9)) fun v56 =>
      Br v56 (
        Vb (bin .eql v38 (Value.int IntKind.i64 0)) fun v60 =>
        Br v60 (
          Vb (bin .eql v41 (Value.int IntKind.i64 0)) fun v64 =>
          Br v64 (
            Vb (bin .eql v47 (Value.int IntKind.i64 0)) fun v68 =>
            Br v68 (
              Vb (bin .eql v22 (Value.int IntKind.i64 8)) fun v72 =>
              Br v72 (
                Vb (bin .eql v28 (Value.int IntKind.i64 16)) fun v76 =>
                Br v76 (
                  Vb (bin .eql v46 (Value.int IntKind.i64 16)) fun v80 =>
                  J0 v80 h11) (
                  J0 (Value.bool false) h11)) (
                J0 (Value.bool false) h11)) (
              J0 (Value.bool false) h11)) (
            J0 (Value.bool false) h11)) (
          J0 (Value.bool false) h11)) (
        J0 (Value.bool false) h11)) (
      J0 (Value.bool false) h11)) (
    J0 (Value.bool false) h11)

def F_space_Space_Mark (S : Sys) (I : Ids) (s0 : Value) (h : Hp) (R : Value → Hp → Prop) : Prop :=
  Vb (pos? (eqP s0 (Value.pointer none))) fun v4 =>
  Br v4 (
    R (Value.int IntKind.i64 0) h) (
    Vb (nck s0) fun v6 =>
    Vb (fa 2 v6) fun v7 =>
    Vb (ldc v7 h) fun v8 =>
    Vb (lnS v8) fun v9 =>
    R v9 h)

def F_pool_Pool_Node (S : Sys) (I : Ids) (p0 at1 : Value) (h : Hp) (R : Value → Hp → Prop) : Prop :=
  Eb (nw (Value.cells p0) I.t_pool_Pool h) fun p2 h1 =>
  Jn1 (fun v23 h2 =>
      Br v23 (
        R (.tuple #[(Value.int IntKind.i64 0), (Value.bool false)]) h2) (
        Vb (fa 1 p2) fun v25 =>
        Vb (ldc v25 h2) fun v26 =>
        Vb (bin .sub at1 v26) fun v27 =>
        Vb (bin .quo v27 (Value.int IntKind.i64 8)) fun v28 =>
        Vb (fa 2 p2) fun v30 =>
        Vb (ldc v30 h2) fun v31 =>
        Vb (bin .geq v28 v31) fun v32 =>
        Br v32 (
          R (.tuple #[(Value.int IntKind.i64 0), (Value.bool false)]) h2) (
          R (.tuple #[v28, (Value.bool true)]) h2))) fun J0 =>
  Vb (lda 3 p2 h1) fun v7 =>
  S.C I.f_pool_Pool_Check [v7] h1 fun v8 h3 =>
  Vb (bin .neq v8 (Value.int IntKind.i64 0)) fun v9 =>
  Br v9 (
    J0 (Value.bool true) h3) (
    Vb (fa 1 p2) fun v12 =>
    Vb (ldc v12 h3) fun v13 =>
    Vb (bin .lss at1 v13) fun v14 =>
    Br v14 (
      J0 (Value.bool true) h3) (
      Vb (fa 1 p2) fun v18 =>
      Vb (ldc v18 h3) fun v19 =>
      Vb (bin .sub at1 v19) fun v20 =>
      Vb (bin .rem v20 (Value.int IntKind.i64 8)) fun v21 =>
      Vb (bin .neq v21 (Value.int IntKind.i64 0)) fun v22 =>
      J0 v22 h3))

def F_space_Space_Back (S : Sys) (I : Ids) (s0 mark1 : Value) (h : Hp) (R : Value → Hp → Prop) : Prop :=
  Jn1 (fun v19 h1 =>
      Br v19 (
        Vb (nck s0) fun v22 =>
        Vb (fa 2 v22) fun v23 =>
        Vb (ldc v23 h1) fun v24 =>
        Vb (slc 2 v24 none (some mark1) (some mark1)) fun v27 =>
        Vb (nck s0) fun v28 =>
        Vb (fa 2 v28) fun v29 =>
        Sb (sto 1 v29 v27 h1) fun h2 =>
        R (.tuple #[]) h2) (
        R (.tuple #[]) h1)) fun J0 =>
  S.C I.f_space_Space_Ended [s0] h fun v5 h3 =>
  Vb (uno .not v5) fun v6 =>
  Br v6 (
    Vb (bin .geq mark1 (Value.int IntKind.i64 0)) fun v9 =>
    Br v9 (
      Vb (nck s0) fun v14 =>
      Vb (fa 2 v14) fun v15 =>
      Vb (ldc v15 h3) fun v16 =>
      Vb (lnS v16) fun v17 =>
      Vb (bin .leq mark1 v17) fun v18 =>
      J0 v18 h3) (
      J0 (Value.bool false) h3)) (
    J0 (Value.bool false) h3)

def F_simulcastlaw34_awake (S : Sys) (I : Ids) (h : Hp) (R : Value → Hp → Prop) : Prop :=
  S.C I.f_simulcastlaw34_start [(Value.int IntKind.u8 4)] h fun v17 h1 =>
  Vb (ext 0 v17) fun v18 =>
  Vb (ext 1 v17) fun v19 =>
  Eb (nw #[Value.int IntKind.i64 0, Value.int IntKind.i64 0, Value.int IntKind.i64 0] I.t_pool_Pool h1) fun p1 h2 =>
  Eb (nw #[Value.slice none 0 0] I.t_simulcastlaw31_Words h2) fun w2 h3 =>
  Sb (sto 3 p1 v18 h3) fun h4 =>
  Sb (sto 1 w2 v19 h4) fun h5 =>
  Vb (lda 1 w2 h5) fun v20 =>
  S.C I.f_simulcastlaw34_space0 [v20] h5 fun v21 h6 =>
  Eb (bsl #[Value.int IntKind.i64 0] 1 3 I.t_int64 [(0, (Value.int IntKind.i64 5)), (1, (Value.int IntKind.i64 6)), (2, (Value.int IntKind.i64 7))] h6) fun v22 h7 =>
  Vb (lnS v22) fun v23 =>
  Lp1 (Value.int IntKind.i64 0) h7 fun v24 h8 again0 =>
  Vb (bin .lss v24 v23) fun v25 =>
  Br v25 (
    Vb (ixs 1 v22 v24) fun v26 =>
    Vb (ldc v26 h8) fun v27 =>
    Vb (lda 3 p1 h8) fun v29 =>
    S.C I.f_queue_Put [v21, v29, (Value.int IntKind.i64 8), v27] h8 fun v31 h9 =>
    Vb (bin .neq v31 (Value.int IntKind.i64 0)) fun v32 =>
    Br v32 (
      R (Value.bool false) h9) (
      Vb (bin .add v24 (Value.int IntKind.i64 1)) fun v33 =>
      again0 v33 h9)) (
    S.C I.f_queue_Len [v21, (Value.int IntKind.i64 8)] h8 fun v35 h10 =>
    S.C I.f_queue_First [v21, (Value.int IntKind.i64 8)] h10 fun v38 h11 =>
    Vb (ext 0 v38) fun v39 =>
    Vb (ext 1 v38) fun v40 =>
    Vb (lda 3 p1 h11) fun v43 =>
    S.C I.f_queue_Take [v21, v43, (Value.int IntKind.i64 8)] h11 fun v44 h12 =>
    Vb (ext 0 v44) fun v45 =>
    Vb (ext 1 v44) fun v46 =>
    Vb (lda 3 p1 h12) fun v49 =>
    S.C I.f_queue_Take [v21, v49, (Value.int IntKind.i64 8)] h12 fun v50 h13 =>
    Vb (ext 0 v50) fun v51 =>
    Vb (ext 1 v50) fun v52 =>
    Vb (lda 3 p1 h13) fun v54 =>
    S.C I.f_queue_Put [v21, v54, (Value.int IntKind.i64 8), (Value.int IntKind.i64 8)] h13 fun v55 h14 =>
    Vb (lda 3 p1 h14) fun v58 =>
    S.C I.f_queue_Walk [v21, v58, (Value.int IntKind.i64 8)] h14 fun v59 h15 =>
    Vb (ext 0 v59) fun v60 =>
    Vb (ext 1 v59) fun v61 =>
    Jn1 (fun v0 h16 =>
        R v0 h16) fun J0 =>
    Vb (bin .eql v40 (Value.int IntKind.i64 0)) fun v63 =>
    Br v63 (
      Vb (bin .eql v46 (Value.int IntKind.i64 0)) fun v66 =>
      Br v66 (
        Vb (bin .eql v52 (Value.int IntKind.i64 0)) fun v70 =>
        Br v70 (
          Vb (bin .eql v55 (Value.int IntKind.i64 0)) fun v74 =>
          Br v74 (
            Vb (bin .eql v61 (Value.int IntKind.i64 0)) fun v78 =>
            Br v78 (
              Vb (bin .eql v35 (Value.int IntKind.i64 3)) fun v82 =>
              Br v82 (
                Vb (bin .eql v39 (Value.int IntKind.i64 5)) fun v86 =>
                Br v86 (
                  Vb (bin .eql v45 (Value.int IntKind.i64 5)) fun v90 =>
                  Br v90 (
                    Vb (bin .eql v51 (Value.int IntKind.i64 6)) fun v94 =>
                    Br v94 (
                      Eb (bsl #[Value.int IntKind.i64 0] 1 2 I.t_int64 [(0, (Value.int IntKind.i64 7)), (1, (Value.int IntKind.i64 8))] h15) fun v98 h17 =>
                      S.C I.f_simulcastref34_Same [v60, v98] h17 fun v99 h18 =>
                      J0 v99 h18) (
                      J0 (Value.bool false) h15)) (
                    J0 (Value.bool false) h15)) (
                  J0 (Value.bool false) h15)) (
                J0 (Value.bool false) h15)) (
              J0 (Value.bool false) h15)) (
            J0 (Value.bool false) h15)) (
          J0 (Value.bool false) h15)) (
        J0 (Value.bool false) h15)) (
      J0 (Value.bool false) h15))

def F_simulcastlaw34_start (S : Sys) (I : Ids) (nodes0 : Value) (h : Hp) (R : Value → Hp → Prop) : Prop :=
  Eb (nw #[Value.int IntKind.i64 0, Value.int IntKind.i64 0, Value.int IntKind.i64 0] I.t_pool_Pool h) fun v2 h1 =>
  Eb (nw #[Value.slice none 0 0] I.t_simulcastlaw31_Words h1) fun v3 h2 =>
  Vb (bin .rem nodes0 (Value.int IntKind.u8 9)) fun v6 =>
  Vb (cvi .i64 v6) fun v7 =>
  Vb (bldS [(0, 1), (1, 1), (2, 1)] #[Value.int IntKind.i64 0, Value.int IntKind.i64 0, Value.int IntKind.i64 0] [(0, (Value.int IntKind.i64 3)), (1, (Value.int IntKind.i64 24)), (2, v7)]) fun v8 =>
  Eb (nw #[Value.int IntKind.i64 0, Value.int IntKind.i64 0, Value.int IntKind.i64 0] I.t_pool_Pool h2) fun p4 h3 =>
  Sb (sto 3 p4 v8 h3) fun h4 =>
  Jn0 (fun h5 =>
      Vb (lda 3 v2 h5) fun r0 =>
      Vb (lda 1 v3 h5) fun r1 =>
      R (.tuple #[r0, r1]) h5) fun J0 =>
  Vb (lda 3 p4 h4) fun v9 =>
  Vb (fa 2 p4) fun v10 =>
  Vb (ldc v10 h4) fun v11 =>
  Vb (bin .mul (Value.int IntKind.i64 8) v11) fun v12 =>
  Vb (bin .add (Value.int IntKind.i64 24) v12) fun v13 =>
  And (
    Eb (msl #[Value.int IntKind.i64 0] 1 8 I.t_int64 v13 v13 h4) fun v14 h6 =>
    lda 3 p4 h6 = some v9 ∧
    Vb (bldS [(0, 1)] #[Value.slice none 0 0] [(0, v14)]) fun v15 =>
    Sb (sto 3 v2 v9 h6) fun h7 =>
    Sb (sto 1 v3 v15 h7) fun h8 =>
    J0 h8) (
    Sb (sto 3 v2 v9 h4) fun h9 =>
    ldc v10 h9 = some v11 ∧
    Eb (msl #[Value.int IntKind.i64 0] 1 8 I.t_int64 v13 v13 h9) fun v14_1 h10 =>
    Vb (bldS [(0, 1)] #[Value.slice none 0 0] [(0, v14_1)]) fun v15_1 =>
    Sb (sto 1 v3 v15_1 h10) fun h11 =>
    J0 h11)

def F_simulcastlaw34_space0 (S : Sys) (I : Ids) (w0 : Value) (h : Hp) (R : Value → Hp → Prop) : Prop :=
  Eb (nw (Value.cells w0) I.t_simulcastlaw31_Words h) fun w1 h1 =>
  Vb (lda 1 w1 h1) fun v3 =>
  S.C I.f_simulcastlaw31_Words_Known [v3] h1 fun v4 h2 =>
  S.C I.f_space_New [v4] h2 fun v5 h3 =>
  R v5 h3

def F_simulcastlaw34_done (S : Sys) (I : Ids) (s0 p1 l2 a3 : Value) (h : Hp) (R : Value → Hp → Prop) : Prop :=
  Eb (nw (Value.cells p1) I.t_pool_Pool h) fun p5 h1 =>
  Eb (nw (Value.cells a3) I.t_simulcastlaw34_Act h1) fun a7 h2 =>
  Vb (fa 0 a7) fun v18 =>
  Vb (ldc v18 h2) fun v19 =>
  Vb (bin .rem v19 (Value.int IntKind.u8 3)) fun v20 =>
  Vb (bin .lss v20 (Value.int IntKind.u8 2)) fun v21 =>
  Br v21 (
    Vb (lda 3 p5 h2) fun v23 =>
    Vb (fa 1 a7) fun v24 =>
    Vb (ldc v24 h2) fun v25 =>
    S.C I.f_queue_Put [s0, v23, (Value.int IntKind.i64 8), v25] h2 fun v26 h3 =>
    Vb (fa 1 a7) fun v29 =>
    Vb (ldc v29 h3) fun v30 =>
    Vb (fa 2 p5) fun v31 =>
    Vb (ldc v31 h3) fun v32 =>
    Vb (lnS l2) fun v34 =>
    Vb (bin .sub v32 v34) fun v35 =>
    S.C I.f_simulcastref34_Put [l2, v30, v35] h3 fun v36 h4 =>
    Vb (ext 0 v36) fun v37 =>
    Vb (ext 1 v36) fun v38 =>
    Vb (bin .eql v26 v38) fun v42 =>
    R (.tuple #[v37, v42]) h4) (
    Vb (lda 3 p5 h2) fun v45 =>
    S.C I.f_queue_Take [s0, v45, (Value.int IntKind.i64 8)] h2 fun v46 h5 =>
    Vb (ext 0 v46) fun v47 =>
    Vb (ext 1 v46) fun v48 =>
    S.C I.f_simulcastref34_Take [l2] h5 fun v51 h6 =>
    Vb (ext 0 v51) fun v52 =>
    Vb (ext 1 v51) fun v53 =>
    Vb (ext 2 v51) fun v54 =>
    Jn2 (fun v8 v9 h7 =>
        R (.tuple #[v8, v9]) h7) fun J0 =>
    Vb (bin .eql v48 v54) fun v58 =>
    Br v58 (
      Vb (bin .eql v47 v53) fun v62 =>
      J0 v52 v62 h6) (
      J0 v52 (Value.bool false) h6))

def F_simulcastlaw34_tells (S : Sys) (I : Ids) (s0 p1 l2 : Value) (h : Hp) (R : Value → Hp → Prop) : Prop :=
  Eb (nw (Value.cells p1) I.t_pool_Pool h) fun p4 h1 =>
  Vb (lda 3 p4 h1) fun v13 =>
  S.C I.f_queue_Walk [s0, v13, (Value.int IntKind.i64 8)] h1 fun v14 h2 =>
  Vb (ext 0 v14) fun v15 =>
  Vb (ext 1 v14) fun v16 =>
  S.C I.f_queue_First [s0, (Value.int IntKind.i64 8)] h2 fun v19 h3 =>
  Vb (ext 0 v19) fun v20 =>
  Vb (ext 1 v19) fun v21 =>
  Jn1 (fun v47 h4 =>
      Br v47 (
        R (Value.bool false) h4) (
        Vb (lnS l2) fun v49 =>
        Vb (bin .eql v49 (Value.int IntKind.i64 0)) fun v50 =>
        Br v50 (
          Jn1 (fun v6 h5 =>
              R v6 h5) fun J1 =>
          Vb (bin .eql v21 (Value.int IntKind.i64 8)) fun v52 =>
          Br v52 (
            Vb (bin .eql v20 (Value.int IntKind.i64 0)) fun v55 =>
            J1 v55 h4) (
            J1 (Value.bool false) h4)) (
          Jn1 (fun v6_1 h6 =>
              R v6_1 h6) fun J2 =>
          Vb (bin .eql v21 (Value.int IntKind.i64 0)) fun v58 =>
          Br v58 (
            Vb (ixs 1 l2 (Value.int IntKind.i64 0)) fun v62 =>
            Vb (ldc v62 h4) fun v63 =>
            Vb (bin .eql v20 v63) fun v64 =>
            J2 v64 h4) (
            J2 (Value.bool false) h4)))) fun J0 =>
  Vb (bin .neq v16 (Value.int IntKind.i64 0)) fun v23 =>
  Br v23 (
    J0 (Value.bool true) h3) (
    S.C I.f_simulcastref34_Same [v15, l2] h3 fun v27 h7 =>
    Vb (uno .not v27) fun v28 =>
    Br v28 (
      J0 (Value.bool true) h7) (
      Vb (lnS l2) fun v34 =>
      S.C I.f_queue_Len [s0, (Value.int IntKind.i64 8)] h7 fun v32 h8 =>
      Vb (bin .neq v32 v34) fun v35 =>
      Br v35 (
        J0 (Value.bool true) h8) (
        Vb (lda 3 p4 h8) fun v38 =>
        Vb (fa 2 p4) fun v41 =>
        Vb (ldc v41 h8) fun v42 =>
        Vb (lnS l2) fun v44 =>
        Vb (bin .sub v42 v44) fun v45 =>
        S.C I.f_pool_Pool_Left [v38, s0] h8 fun v40 h9 =>
        ldc v41 h9 = some v42 ∧
        Vb (bin .neq v40 v45) fun v46 =>
        J0 v46 h9)))

def F_queue_Put (S : Sys) (I : Ids) (s0 p1 root2 v3 : Value) (h : Hp) (R : Value → Hp → Prop) : Prop :=
  Eb (nw (Value.cells p1) I.t_pool_Pool h) fun p5 h1 =>
  Eb (nw #[Value.int IntKind.i64 0] I.t_api_Errno h1) fun e9 h2 =>
  S.C I.f_space_Space_Mark [s0] h2 fun v14 h3 =>
  Vb (lda 3 p5 h3) fun v16 =>
  S.C I.f_pool_Pool_Take [v16, s0] h3 fun v18 h4 =>
  Vb (ext 0 v18) fun v19 =>
  Vb (ext 1 v18) fun v20 =>
  Sb (sto 1 e9 v20 h4) fun h5 =>
  Vb (ldc e9 h5) fun v21 =>
  Vb (bin .neq v21 (Value.int IntKind.i64 0)) fun v22 =>
  Br v22 (
    Vb (ldc e9 h5) fun v23 =>
    S.D I.f_queue_undo [s0, v14, e9] h5 fun h6 =>
    R v23 h6) (
    Vb (bin .add root2 (Value.int IntKind.i64 1)) fun v26 =>
    S.C I.f_space_Space_Get [s0, v26] h5 fun v27 h7 =>
    Jn0 (fun h8 =>
        Vb (bin .add v19 (Value.int IntKind.i64 0)) fun v49 =>
        S.C I.f_space_Space_Put [s0, v49, v3] h8 fun v51 h9 =>
        Vb (bin .add v19 (Value.int IntKind.i64 1)) fun v54 =>
        S.C I.f_space_Space_Put [s0, v54, (Value.int IntKind.i64 0)] h9 fun v55 h10 =>
        Vb (bin .add root2 (Value.int IntKind.i64 1)) fun v58 =>
        S.C I.f_space_Space_Put [s0, v58, v19] h10 fun v60 h11 =>
        Vb (bin .add root2 (Value.int IntKind.i64 7)) fun v63 =>
        Vb (bin .add root2 (Value.int IntKind.i64 7)) fun v66 =>
        S.C I.f_space_Space_Get [s0, v66] h11 fun v67 h12 =>
        Vb (bin .add v67 (Value.int IntKind.i64 1)) fun v68 =>
        S.C I.f_space_Space_Put [s0, v63, v68] h12 fun v69 h13 =>
        Vb (ldc e9 h13) fun v70 =>
        S.D I.f_queue_undo [s0, v14, e9] h13 fun h14 =>
        R v70 h14) fun J0 =>
    Vb (bin .eql v27 (Value.int IntKind.i64 0)) fun v35 =>
    Br v35 (
      Vb (bin .add root2 (Value.int IntKind.i64 0)) fun v38 =>
      S.C I.f_space_Space_Put [s0, v38, v19] h7 fun v40 h15 =>
      J0 h15) (
      Vb (lda 3 p5 h7) fun v42 =>
      S.C I.f_queue_isNode [v42, v27] h7 fun v44 h16 =>
      Vb (uno .not v44) fun v45 =>
      Br v45 (
        Sb (sto 1 e9 (Value.int IntKind.i64 24) h16) fun h17 =>
        Vb (ldc e9 h17) fun v46 =>
        S.D I.f_queue_undo [s0, v14, e9] h17 fun h18 =>
        R v46 h18) (
        Vb (bin .add v27 (Value.int IntKind.i64 1)) fun v30 =>
        S.C I.f_space_Space_Put [s0, v30, v19] h16 fun v32 h19 =>
        J0 h19)))

def F_queue_Take (S : Sys) (I : Ids) (s0 p1 root2 : Value) (h : Hp) (R : Value → Hp → Prop) : Prop :=
  Eb (nw (Value.cells p1) I.t_pool_Pool h) fun p4 h1 =>
  Eb (nw #[Value.int IntKind.i64 0] I.t_api_Errno h1) fun e8 h2 =>
  S.C I.f_space_Space_Mark [s0] h2 fun v14 h3 =>
  Vb (bin .add root2 (Value.int IntKind.i64 0)) fun v17 =>
  S.C I.f_space_Space_Get [s0, v17] h3 fun v18 h4 =>
  Vb (bin .eql v18 (Value.int IntKind.i64 0)) fun v21 =>
  Br v21 (
    Sb (sto 1 e8 (Value.int IntKind.i64 8) h4) fun h5 =>
    Vb (ldc e8 h5) fun v22 =>
    S.D I.f_queue_undo [s0, v14, e8] h5 fun h6 =>
    R (.tuple #[(Value.int IntKind.i64 0), v22]) h6) (
    Vb (lda 3 p4 h4) fun v24 =>
    S.C I.f_queue_isNode [v24, v18] h4 fun v26 h7 =>
    Vb (uno .not v26) fun v27 =>
    Br v27 (
      Sb (sto 1 e8 (Value.int IntKind.i64 24) h7) fun h8 =>
      Vb (ldc e8 h8) fun v28 =>
      S.D I.f_queue_undo [s0, v14, e8] h8 fun h9 =>
      R (.tuple #[(Value.int IntKind.i64 0), v28]) h9) (
      Vb (bin .add v18 (Value.int IntKind.i64 0)) fun v31 =>
      S.C I.f_space_Space_Get [s0, v31] h7 fun v32 h10 =>
      Vb (bin .add v18 (Value.int IntKind.i64 1)) fun v35 =>
      S.C I.f_space_Space_Get [s0, v35] h10 fun v36 h11 =>
      Vb (lda 3 p4 h11) fun v37 =>
      S.C I.f_pool_Pool_Give [v37, s0, v18] h11 fun v40 h12 =>
      Sb (sto 1 e8 v40 h12) fun h13 =>
      Vb (ldc e8 h13) fun v41 =>
      Vb (bin .neq v41 (Value.int IntKind.i64 0)) fun v42 =>
      Br v42 (
        Vb (ldc e8 h13) fun v43 =>
        S.D I.f_queue_undo [s0, v14, e8] h13 fun h14 =>
        R (.tuple #[(Value.int IntKind.i64 0), v43]) h14) (
        Vb (bin .add root2 (Value.int IntKind.i64 0)) fun v46 =>
        S.C I.f_space_Space_Put [s0, v46, v36] h13 fun v48 h15 =>
        Jn0 (fun h16 =>
            Vb (bin .add root2 (Value.int IntKind.i64 7)) fun v57 =>
            Vb (bin .add root2 (Value.int IntKind.i64 7)) fun v60 =>
            S.C I.f_space_Space_Get [s0, v60] h16 fun v61 h17 =>
            Vb (bin .sub v61 (Value.int IntKind.i64 1)) fun v62 =>
            S.C I.f_space_Space_Put [s0, v57, v62] h17 fun v63 h18 =>
            Vb (ldc e8 h18) fun v65 =>
            S.D I.f_queue_undo [s0, v14, e8] h18 fun h19 =>
            R (.tuple #[v32, v65]) h19) fun J0 =>
        Vb (bin .eql v36 (Value.int IntKind.i64 0)) fun v50 =>
        Br v50 (
          Vb (bin .add root2 (Value.int IntKind.i64 1)) fun v53 =>
          S.C I.f_space_Space_Put [s0, v53, (Value.int IntKind.i64 0)] h15 fun v54 h20 =>
          J0 h20) (
          J0 h15))))

def F_simulcastref34_Same (S : Sys) (I : Ids) (a0 b1 : Value) (h : Hp) (R : Value → Hp → Prop) : Prop :=
  Vb (lnS a0) fun v7 =>
  Vb (lnS b1) fun v9 =>
  Vb (bin .neq v7 v9) fun v10 =>
  Br v10 (
    R (Value.bool false) h) (
    Lp1 (Value.int IntKind.i64 0) h fun i5 h1 again0 =>
    Vb (lnS a0) fun v13 =>
    Vb (bin .lss i5 v13) fun v14 =>
    Br v14 (
      Vb (ixs 1 a0 i5) fun v19 =>
      Vb (ldc v19 h1) fun v20 =>
      Vb (ixs 1 b1 i5) fun v23 =>
      Vb (ldc v23 h1) fun v24 =>
      Vb (bin .neq v20 v24) fun v25 =>
      Br v25 (
        R (Value.bool false) h1) (
        Vb (bin .add i5 (Value.int IntKind.i64 1)) fun v16 =>
        again0 v16 h1)) (
      R (Value.bool true) h1))

def F_queue_Len (S : Sys) (I : Ids) (s0 root1 : Value) (h : Hp) (R : Value → Hp → Prop) : Prop :=
  Vb (bin .add root1 (Value.int IntKind.i64 7)) fun v7 =>
  S.C I.f_space_Space_Get [s0, v7] h fun v8 h1 =>
  R v8 h1

def F_simulcastref34_Put (S : Sys) (I : Ids) (l0 v1 left2 : Value) (h : Hp) (R : Value → Hp → Prop) : Prop :=
  Vb (bin .leq left2 (Value.int IntKind.i64 0)) fun v9 =>
  Br v9 (
    R (.tuple #[l0, (Value.int IntKind.i64 9)]) h) (
    Eb (bsl #[Value.int IntKind.i64 0] 1 0 I.t_int64 [] h) fun v11 h1 =>
    Ap I.t_int64 #[Value.int IntKind.i64 0] 1 8 v11 l0 h1 fun v13 h2 =>
    Eb (bsl #[Value.int IntKind.i64 0] 1 1 I.t_int64 [(0, v1)] h2) fun v15 h3 =>
    Ap I.t_int64 #[Value.int IntKind.i64 0] 1 8 v13 v15 h3 fun v16 h4 =>
    R (.tuple #[v16, (Value.int IntKind.i64 0)]) h4)

def F_simulcastref34_Take (S : Sys) (I : Ids) (l0 : Value) (h : Hp) (R : Value → Hp → Prop) : Prop :=
  Vb (lnS l0) fun v6 =>
  Vb (bin .eql v6 (Value.int IntKind.i64 0)) fun v7 =>
  Br v7 (
    R (.tuple #[l0, (Value.int IntKind.i64 0), (Value.int IntKind.i64 8)]) h) (
    Vb (slc 1 l0 (some (Value.int IntKind.i64 1)) none none) fun v11 =>
    Vb (ixs 1 l0 (Value.int IntKind.i64 0)) fun v14 =>
    Vb (ldc v14 h) fun v15 =>
    Eb (bsl #[Value.int IntKind.i64 0] 1 0 I.t_int64 [] h) fun v9 h1 =>
    ldc v14 h1 = some v15 ∧
    Ap I.t_int64 #[Value.int IntKind.i64 0] 1 8 v9 v11 h1 fun v12 h2 =>
    ldc v14 h2 = some v15 ∧
    R (.tuple #[v12, v15, (Value.int IntKind.i64 0)]) h2)

def F_queue_Walk (S : Sys) (I : Ids) (s0 p1 root2 : Value) (h : Hp) (R : Value → Hp → Prop) : Prop :=
  Eb (nw (Value.cells s0) I.t_p_space_Space h) fun s3 h1 =>
  Eb (nw (Value.cells p1) I.t_pool_Pool h1) fun p4 h2 =>
  Eb (nw #[Value.slice none 0 0] I.t_s_int64 h2) fun v6 h3 =>
  Eb (nw #[Value.int IntKind.i64 0] I.t_api_Errno h3) fun v7 h4 =>
  Eb (nw #[Value.slice none 0 0] I.t_s_int64 h4) fun out8 h5 =>
  Vb (ldc s3 h5) fun v10 =>
  S.C I.f_queue_nodes [v10, root2] h5 fun v12 h6 =>
  Rg S.C S.Y v12 h6 (fun l0 as0 h7 R0 =>
      A1 as0 fun v13 =>
      Sb (bgn l0 h7) fun h8 =>
      Jn1 (fun v24 h9 =>
          Br v24 (
            Sb (sto 1 v6 (Value.slice none 0 0) h9) fun h10 =>
            Sb (sto 1 v7 (Value.int IntKind.i64 24) h10) fun h11 =>
            Sb (fin l0 (some .ret) h11) fun h12 =>
            R0 (.bool false) h12) (
            Vb (ldc out8 h9) fun v25 =>
            Vb (ldc s3 h9) fun v26 =>
            Vb (bin .add v13 (Value.int IntKind.i64 0)) fun v28 =>
            S.C I.f_space_Space_Get [v26, v28] h9 fun v29 h13 =>
            ldc out8 h13 = some v25 ∧
            Eb (bsl #[Value.int IntKind.i64 0] 1 1 I.t_int64 [(0, v29)] h13) fun v30 h14 =>
            ldc out8 h14 = some v25 ∧
            Ap I.t_int64 #[Value.int IntKind.i64 0] 1 8 v25 v30 h14 fun v31 h15 =>
            Sb (sto 1 out8 v31 h15) fun h16 =>
            Sb (fin l0 none h16) fun h17 =>
            R0 (.bool true) h17)) fun J0 =>
      Vb (lda 3 p4 h8) fun v14 =>
      S.C I.f_queue_isNode [v14, v13] h8 fun v16 h18 =>
      Vb (uno .not v16) fun v17 =>
      Br v17 (
        J0 (Value.bool true) h18) (
        Vb (ldc out8 h18) fun v19 =>
        Vb (lnS v19) fun v20 =>
        Vb (fa 2 p4) fun v21 =>
        Vb (ldc v21 h18) fun v22 =>
        Vb (bin .geq v20 v22) fun v23 =>
        J0 v23 h18)) fun j0 h19 =>
  Jp j0 (
    Vb (ldc out8 h19) fun v32 =>
    Sb (sto 1 v6 v32 h19) fun h20 =>
    Sb (sto 1 v7 (Value.int IntKind.i64 0) h20) fun h21 =>
    Sb (tkd h6.size h21) fun h22 =>
    Vb (ldc v6 h22) fun r0 =>
    Vb (ldc v7 h22) fun r1 =>
    R (.tuple #[r0, r1]) h22) (
    Sb (tkd h6.size h19) fun h23 =>
    Vb (ldc v6 h23) fun r0 =>
    Vb (ldc v7 h23) fun r1 =>
    R (.tuple #[r0, r1]) h23) fun id0 =>
    Xb id0 0 (
    Vb (ldc out8 h19) fun v32_1 =>
    Sb (sto 1 v6 v32_1 h19) fun h24 =>
    Sb (sto 1 v7 (Value.int IntKind.i64 0) h24) fun h25 =>
    Sb (tkd h6.size h25) fun h26 =>
    Vb (ldc v6 h26) fun r0 =>
    Vb (ldc v7 h26) fun r1 =>
    R (.tuple #[r0, r1]) h26) (
    False)

def F_simulcastlaw30_awake (S : Sys) (I : Ids) (h : Hp) (R : Value → Hp → Prop) : Prop :=
  Eb (mmk h) fun v10 h1 =>
  Vb (bldS [(0, 1), (1, 1), (2, 1)] #[Value.int IntKind.i64 0, Value.int IntKind.u32 0, Value.int IntKind.u32 0] [(0, (Value.int IntKind.i64 5)), (1, (Value.int IntKind.u32 2))]) fun v11 =>
  Sb (mup (.int .i64) v10 (Value.int IntKind.i64 3) v11 h1) fun h2 =>
  S.C I.f_space_New [v10] h2 fun v13 h3 =>
  S.C I.f_space_Space_Get [v13, (Value.int IntKind.i64 3)] h3 fun v15 h4 =>
  S.C I.f_space_Space_Put [v13, (Value.int IntKind.i64 3), (Value.int IntKind.i64 7)] h4 fun v17 h5 =>
  S.C I.f_space_Space_Get [v13, (Value.int IntKind.i64 3)] h5 fun v19 h6 =>
  S.C I.f_space_Space_Mark [v13] h6 fun v21 h7 =>
  S.C I.f_space_Space_Put [v13, (Value.int IntKind.i64 3), (Value.int IntKind.i64 9)] h7 fun v23 h8 =>
  S.C I.f_space_Space_Back [v13, (Value.int IntKind.i64 1)] h8 fun v25 h9 =>
  S.C I.f_space_Space_Entries [v13] h9 fun v28 h10 =>
  Vb (ext 0 v28) fun v29 =>
  Vb (ext 1 v28) fun v30 =>
  S.C I.f_space_Space_Get [v13, (Value.int IntKind.i64 4)] h10 fun v32 h11 =>
  S.C I.f_space_Space_Need [v13] h11 fun v35 h12 =>
  Vb (ext 0 v35) fun v36 =>
  Vb (ext 1 v35) fun v37 =>
  Jn1 (fun v0 h13 =>
      R v0 h13) fun J0 =>
  Vb (bin .eql v15 (Value.int IntKind.i64 5)) fun v39 =>
  Br v39 (
    Vb (bin .eql v19 (Value.int IntKind.i64 7)) fun v42 =>
    Br v42 (
      Vb (bin .eql v21 (Value.int IntKind.i64 1)) fun v46 =>
      Br v46 (
        Vb (bin .eql v30 (Value.int IntKind.i64 0)) fun v50 =>
        Br v50 (
          Vb (lnS v29) fun v54 =>
          Vb (bin .eql v54 (Value.int IntKind.i64 1)) fun v55 =>
          Br v55 (
            Vb (ixs 6 v29 (Value.int IntKind.i64 0)) fun v59 =>
            Vb (lda 6 v59 h12) fun v60 =>
            Vb (bldS [(0, 1), (1, 1), (2, 1)] #[Value.int IntKind.i64 0, Value.int IntKind.u32 0, Value.int IntKind.u32 0] [(0, (Value.int IntKind.i64 5)), (1, (Value.int IntKind.u32 2))]) fun v61 =>
            Vb (bldS [(0, 1), (1, 3), (4, 1), (5, 1)] #[Value.int IntKind.i64 0, Value.int IntKind.i64 0, Value.int IntKind.u32 0, Value.int IntKind.u32 0, Value.int IntKind.i64 0, Value.bool false] [(0, (Value.int IntKind.i64 3)), (1, v61), (2, (Value.int IntKind.i64 7)), (3, (Value.bool true))]) fun v62 =>
            Vb (pos? (eqA [true, true, true, true, true, false] v60 v62)) fun v63 =>
            Br v63 (
              Vb (bin .eql v32 (Value.int IntKind.i64 0)) fun v67 =>
              Br v67 (
                Vb (bin .eql v36 (Value.int IntKind.i64 4)) fun v71 =>
                Br v71 (
                  Br v37 (
                    S.C I.f_space_Space_Ended [v13] h12 fun v78 h14 =>
                    J0 v78 h14) (
                    J0 (Value.bool false) h12)) (
                  J0 (Value.bool false) h12)) (
                J0 (Value.bool false) h12)) (
              J0 (Value.bool false) h12)) (
            J0 (Value.bool false) h12)) (
          J0 (Value.bool false) h12)) (
        J0 (Value.bool false) h12)) (
      J0 (Value.bool false) h12)) (
    J0 (Value.bool false) h12)

def F_simulcastlaw30_program (S : Sys) (I : Ids) (s0 acts1 : Value) (h : Hp) (R : Value → Hp → Prop) : Prop :=
  Lp2 (Value.int IntKind.i64 0) (Value.int IntKind.i64 0) h fun sum5 i6 h1 again0 =>
  Jn1 (fun v16 h2 =>
      Br v16 (
        Jn1 (fun sum5_1 h3 =>
            Vb (bin .add i6 (Value.int IntKind.i64 1)) fun v18 =>
            again0 sum5_1 v18 h3) fun J1 =>
        Vb (ixs 3 acts1 i6) fun v22 =>
        Vb (fa 1 v22) fun v23 =>
        Vb (ldc v23 h2) fun v24 =>
        Vb (bin .add sum5 v24) fun v25 =>
        Vb (cvi .u64 v25) fun v26 =>
        Vb (bin .rem v26 (Value.int IntKind.u64 16)) fun v27 =>
        Vb (cvi .i64 v27) fun v28 =>
        Vb (ixs 3 acts1 i6) fun v31 =>
        Vb (fa 0 v31) fun v32 =>
        Vb (ldc v32 h2) fun v33 =>
        Vb (bin .rem v33 (Value.int IntKind.u8 2)) fun v34 =>
        Vb (bin .eql v34 (Value.int IntKind.u8 0)) fun v35 =>
        Br v35 (
          S.C I.f_space_Space_Get [s0, v28] h2 fun v39 h4 =>
          Vb (bin .add sum5 v39) fun v40 =>
          J1 v40 h4) (
          Vb (ixs 3 acts1 i6) fun v46 =>
          Vb (fa 2 v46) fun v47 =>
          Vb (ldc v47 h2) fun v48 =>
          Vb (bin .add sum5 v48) fun v49 =>
          S.C I.f_space_Space_Put [s0, v28, v49] h2 fun v50 h5 =>
          J1 sum5 h5)) (
        R sum5 h2)) fun J0 =>
  Vb (lnS acts1) fun v10 =>
  Vb (bin .lss i6 v10) fun v11 =>
  Br v11 (
    S.C I.f_space_Space_Ended [s0] h1 fun v14 h6 =>
    Vb (uno .not v14) fun v15 =>
    J0 v15 h6) (
    J0 (Value.bool false) h1)

def F_space_Space_Reads (S : Sys) (I : Ids) (s0 : Value) (h : Hp) (R : Value → Hp → Prop) : Prop :=
  Vb (pos? (eqP s0 (Value.pointer none))) fun v6 =>
  Br v6 (
    R (Value.slice none 0 0) h) (
    Vb (nck s0) fun v9 =>
    Vb (fa 1 v9) fun v10 =>
    Vb (ldc v10 h) fun v11 =>
    Eb (rng v11 h) fun v12 h1 =>
    Lp1 (Value.slice none 0 0) h1 fun out3 h2 again0 =>
    Nx v12 h2 fun v13 h3 =>
    Vb (ext 0 v13) fun v14 =>
    Br v14 (
      Vb (ent v12 h3) fun v15 =>
      Vb (ext 0 v15) fun v16 =>
      Eb (bsl #[Value.int IntKind.i64 0] 1 1 I.t_api_Loc [(0, v16)] h3) fun v19 h4 =>
      Ap I.t_api_Loc #[Value.int IntKind.i64 0] 1 8 out3 v19 h4 fun v20 h5 =>
      again0 v20 h5) (
      S.C I.f_slices_Sort_api_Loc_api_Loc [out3] h3 fun v22 h6 =>
      R out3 h6))

def F_space_Space_Need (S : Sys) (I : Ids) (s0 : Value) (h : Hp) (R : Value → Hp → Prop) : Prop :=
  Jn1 (fun v12 h1 =>
      Br v12 (
        R (.tuple #[(Value.int IntKind.i64 0), (Value.bool false)]) h1) (
        Vb (nck s0) fun v14 =>
        Vb (fa 3 v14) fun v15 =>
        Vb (ldc v15 h1) fun v16 =>
        R (.tuple #[v16, (Value.bool true)]) h1)) fun J0 =>
  Vb (pos? (eqP s0 (Value.pointer none))) fun v5 =>
  Br v5 (
    J0 (Value.bool true) h) (
    Vb (nck s0) fun v8 =>
    Vb (fa 4 v8) fun v9 =>
    Vb (ldc v9 h) fun v10 =>
    Vb (uno .not v10) fun v11 =>
    J0 v11 h)

def F_space_Space_Entries (S : Sys) (I : Ids) (s0 : Value) (h : Hp) (R : Value → Hp → Prop) : Prop :=
  S.C I.f_space_Space_Ended [s0] h fun v11 h1 =>
  Br v11 (
    R (.tuple #[(Value.slice none 0 0), (Value.int IntKind.i64 13)]) h1) (
    S.C I.f_space_Space_Reads [s0] h1 fun v13 h2 =>
    Vb (lnS v13) fun v14 =>
    Lp2 (Value.slice none 0 0) (Value.int IntKind.i64 0) h2 fun out4 v15 h3 again0 =>
    Vb (bin .lss v15 v14) fun v16 =>
    Br v16 (
      Vb (ixs 1 v13 v15) fun v17 =>
      Vb (ldc v17 h3) fun v18 =>
      S.C I.f_space_Space_value [s0, v18] h3 fun v22 h4 =>
      Vb (ext 0 v22) fun v23 =>
      Vb (ext 1 v22) fun v24 =>
      Vb (nck s0) fun v28 =>
      Vb (fa 0 v28) fun v29 =>
      Vb (ldc v29 h4) fun v30 =>
      Vb (lkm (.int .i64) (Value.agg #[Value.int IntKind.i64 0, Value.int IntKind.u32 0, Value.int IntKind.u32 0]) false v30 v18 h4) fun v32 =>
      Vb (bldS [(0, 1), (1, 3), (4, 1), (5, 1)] #[Value.int IntKind.i64 0, Value.int IntKind.i64 0, Value.int IntKind.u32 0, Value.int IntKind.u32 0, Value.int IntKind.i64 0, Value.bool false] [(0, v18), (1, v32), (2, v23), (3, v24)]) fun v35 =>
      Eb (bsl #[Value.int IntKind.i64 0, Value.int IntKind.i64 0, Value.int IntKind.u32 0, Value.int IntKind.u32 0, Value.int IntKind.i64 0, Value.bool false] 6 1 I.t_api_Entry [(0, v35)] h4) fun v36 h5 =>
      Ap I.t_api_Entry #[Value.int IntKind.i64 0, Value.int IntKind.i64 0, Value.int IntKind.u32 0, Value.int IntKind.u32 0, Value.int IntKind.i64 0, Value.bool false] 6 40 out4 v36 h5 fun v37 h6 =>
      Vb (bin .add v15 (Value.int IntKind.i64 1)) fun v38 =>
      again0 v37 v38 h6) (
      Vb (lnS out4) fun v40 =>
      Vb (bin .eql v40 (Value.int IntKind.i64 0)) fun v41 =>
      Br v41 (
        R (.tuple #[(Value.slice none 0 0), (Value.int IntKind.i64 0)]) h3) (
        S.C I.f_entry_Check [out4] h3 fun v43 h7 =>
        Vb (bin .neq v43 (Value.int IntKind.i64 0)) fun v45 =>
        Br v45 (
          R (.tuple #[(Value.slice none 0 0), v43]) h7) (
          R (.tuple #[out4, (Value.int IntKind.i64 0)]) h7))))

def F_simulcastref30_Alike (S : Sys) (I : Ids) (a0 b1 : Value) (h : Hp) (R : Value → Hp → Prop) : Prop :=
  Vb (lnS a0) fun v7 =>
  Vb (lnS b1) fun v9 =>
  Vb (bin .neq v7 v9) fun v10 =>
  Br v10 (
    R (Value.bool false) h) (
    Lp1 (Value.int IntKind.i64 0) h fun i5 h1 again0 =>
    Vb (lnS a0) fun v13 =>
    Vb (bin .lss i5 v13) fun v14 =>
    Br v14 (
      Vb (ixs 6 a0 i5) fun v19 =>
      Vb (lda 6 v19 h1) fun v20 =>
      Vb (ixs 6 b1 i5) fun v23 =>
      Vb (lda 6 v23 h1) fun v24 =>
      Vb (neg? (eqA [true, true, true, true, true, false] v20 v24)) fun v25 =>
      Br v25 (
        R (Value.bool false) h1) (
        Vb (bin .add i5 (Value.int IntKind.i64 1)) fun v16 =>
        again0 v16 h1)) (
      R (Value.bool true) h1))

def F_simulcastlaw30_do (S : Sys) (I : Ids) (s0 x1 a2 : Value) (h : Hp) (R : Value → Hp → Prop) : Prop :=
  Eb (nw (Value.cells x1) I.t_simulcastref30_Space h) fun x4 h1 =>
  Eb (nw (Value.cells a2) I.t_simulcastlaw30_Act h1) fun a5 h2 =>
  Eb (nw #[Value.slice none 0 0, Value.slice none 0 0, Value.slice none 0 0, Value.bool false, Value.int IntKind.i64 0] I.t_simulcastref30_Space h2) fun v6 h3 =>
  Vb (fa 0 a5) fun v11 =>
  Vb (ldc v11 h3) fun v12 =>
  Vb (bin .rem v12 (Value.int IntKind.u8 4)) fun v13 =>
  Jn1 (fun v14 h4 =>
      Br v14 (
        Vb (fa 1 a5) fun v18 =>
        Vb (ldc v18 h4) fun v19 =>
        S.C I.f_space_Space_Get [s0, v19] h4 fun v20 h5 =>
        Vb (lda 5 x4 h5) fun v22 =>
        Vb (fa 1 a5) fun v23 =>
        Vb (ldc v23 h5) fun v24 =>
        S.C I.f_simulcastref30_Get [v22, v24] h5 fun v25 h6 =>
        Vb (ext 0 v25) fun v26 =>
        Vb (ext 1 v25) fun v27 =>
        Eb (nw #[Value.slice none 0 0, Value.slice none 0 0, Value.slice none 0 0, Value.bool false, Value.int IntKind.i64 0] I.t_simulcastref30_Space h6) fun y9 h7 =>
        Sb (sto 5 y9 v26 h7) fun h8 =>
        Vb (fa 0 a5) fun v28 =>
        Vb (ldc v28 h8) fun v29 =>
        Vb (bin .rem v29 (Value.int IntKind.u8 4)) fun v30 =>
        Vb (bin .eql v30 (Value.int IntKind.u8 0)) fun v31 =>
        Br v31 (
          Vb (lda 5 y9 h8) fun v32 =>
          Vb (bin .eql v20 v27) fun v35 =>
          Sb (sto 5 v6 v32 h8) fun h9 =>
          Vb (lda 5 v6 h9) fun r0 =>
          R (.tuple #[r0, v35]) h9) (
          Vb (fa 1 a5) fun v37 =>
          Vb (ldc v37 h8) fun v38 =>
          Vb (fa 2 a5) fun v40 =>
          Vb (ldc v40 h8) fun v41 =>
          Vb (bin .add v20 v41) fun v42 =>
          S.C I.f_space_Space_Put [s0, v38, v42] h8 fun v43 h10 =>
          Vb (lda 5 y9 h10) fun v44 =>
          Vb (fa 1 a5) fun v45 =>
          Vb (ldc v45 h10) fun v46 =>
          Vb (fa 2 a5) fun v48 =>
          Vb (ldc v48 h10) fun v49 =>
          Vb (bin .add v20 v49) fun v50 =>
          S.C I.f_simulcastref30_Set [v44, v46, v50] h10 fun v51 h11 =>
          Vb (bin .eql v20 v27) fun v54 =>
          Sb (sto 5 v6 v51 h11) fun h12 =>
          Vb (lda 5 v6 h12) fun r0 =>
          R (.tuple #[r0, v54]) h12)) (
        Vb (bin .eql v13 (Value.int IntKind.u8 1)) fun v56 =>
        Br v56 (
          Vb (fa 1 a5) fun v58 =>
          Vb (ldc v58 h4) fun v59 =>
          Vb (fa 2 a5) fun v60 =>
          Vb (ldc v60 h4) fun v61 =>
          S.C I.f_space_Space_Put [s0, v59, v61] h4 fun v62 h13 =>
          Vb (lda 5 x4 h13) fun v63 =>
          Vb (fa 1 a5) fun v64 =>
          Vb (ldc v64 h13) fun v65 =>
          Vb (fa 2 a5) fun v66 =>
          Vb (ldc v66 h13) fun v67 =>
          S.C I.f_simulcastref30_Set [v63, v65, v67] h13 fun v68 h14 =>
          Sb (sto 5 v6 v68 h14) fun h15 =>
          Vb (lda 5 v6 h15) fun r0 =>
          R (.tuple #[r0, (Value.bool true)]) h15) (
          Vb (fa 2 a5) fun v70 =>
          Vb (ldc v70 h4) fun v71 =>
          Vb (bin .rem v71 (Value.int IntKind.i64 64)) fun v72 =>
          S.C I.f_space_Space_Back [s0, v72] h4 fun v73 h16 =>
          Vb (lda 5 x4 h16) fun v74 =>
          Vb (fa 2 a5) fun v75 =>
          Vb (ldc v75 h16) fun v76 =>
          Vb (bin .rem v76 (Value.int IntKind.i64 64)) fun v77 =>
          S.C I.f_simulcastref30_Back [v74, v77] h16 fun v78 h17 =>
          Sb (sto 5 v6 v78 h17) fun h18 =>
          Vb (lda 5 v6 h18) fun r0 =>
          R (.tuple #[r0, (Value.bool true)]) h18))) fun J0 =>
  Vb (bin .eql v13 (Value.int IntKind.u8 0)) fun v15 =>
  Br v15 (
    J0 v15 h3) (
    Vb (bin .eql v13 (Value.int IntKind.u8 3)) fun v16 =>
    J0 v16 h3)

def F_space_Space_Ended (S : Sys) (I : Ids) (s0 : Value) (h : Hp) (R : Value → Hp → Prop) : Prop :=
  Jn1 (fun v2 h1 =>
      R v2 h1) fun J0 =>
  Vb (pos? (eqP s0 (Value.pointer none))) fun v4 =>
  Br v4 (
    J0 (Value.bool true) h) (
    Vb (nck s0) fun v7 =>
    Vb (fa 4 v7) fun v8 =>
    Vb (ldc v8 h) fun v9 =>
    J0 v9 h)

def F_simulcastref30_Same (S : Sys) (I : Ids) (a0 b1 : Value) (h : Hp) (R : Value → Hp → Prop) : Prop :=
  Vb (lnS a0) fun v7 =>
  Vb (lnS b1) fun v9 =>
  Vb (bin .neq v7 v9) fun v10 =>
  Br v10 (
    R (Value.bool false) h) (
    Lp1 (Value.int IntKind.i64 0) h fun i5 h1 again0 =>
    Vb (lnS a0) fun v13 =>
    Vb (bin .lss i5 v13) fun v14 =>
    Br v14 (
      Vb (ixs 1 a0 i5) fun v19 =>
      Vb (ldc v19 h1) fun v20 =>
      Vb (ixs 1 b1 i5) fun v23 =>
      Vb (ldc v23 h1) fun v24 =>
      Vb (bin .neq v20 v24) fun v25 =>
      Br v25 (
        R (Value.bool false) h1) (
        Vb (bin .add i5 (Value.int IntKind.i64 1)) fun v16 =>
        again0 v16 h1)) (
      R (Value.bool true) h1))

def F_space_Space_Writes (S : Sys) (I : Ids) (s0 : Value) (h : Hp) (R : Value → Hp → Prop) : Prop :=
  Vb (pos? (eqP s0 (Value.pointer none))) fun v7 =>
  Br v7 (
    R (Value.slice none 0 0) h) (
    Vb (nck s0) fun v10 =>
    Vb (fa 2 v10) fun v11 =>
    Vb (ldc v11 h) fun v12 =>
    Vb (lnS v12) fun v13 =>
    Lp2 (Value.slice none 0 0) (Value.int IntKind.i64 0) h fun out3 v14 h1 again0 =>
    Vb (bin .lss v14 v13) fun v15 =>
    Br v15 (
      Vb (ixs 2 v12 v14) fun v16 =>
      Vb (lda 2 v16 h1) fun v17 =>
      Eb (nw #[Value.int IntKind.i64 0, Value.int IntKind.i64 0] I.t_space_put h1) fun p5 h2 =>
      Sb (sto 2 p5 v17 h2) fun h3 =>
      Vb (fa 0 p5) fun v19 =>
      Vb (ldc v19 h3) fun v20 =>
      Eb (bsl #[Value.int IntKind.i64 0] 1 1 I.t_api_Loc [(0, v20)] h3) fun v21 h4 =>
      Ap I.t_api_Loc #[Value.int IntKind.i64 0] 1 8 out3 v21 h4 fun v22 h5 =>
      Vb (bin .add v14 (Value.int IntKind.i64 1)) fun v23 =>
      again0 v22 v23 h5) (
      S.C I.f_slices_Sort_api_Loc_api_Loc [out3] h1 fun v25 h6 =>
      S.C I.f_slices_Compact_api_Loc_api_Loc [out3] h6 fun v27 h7 =>
      R v27 h7))

def F_space_Space_Get (S : Sys) (I : Ids) (s0 at1 : Value) (h : Hp) (R : Value → Hp → Prop) : Prop :=
  S.C I.f_space_Space_reads [s0, at1] h fun v9 h1 =>
  Vb (uno .not v9) fun v10 =>
  Br v10 (
    R (Value.int IntKind.i64 0) h1) (
    S.C I.f_space_Space_value [s0, at1] h1 fun v14 h2 =>
    Vb (ext 0 v14) fun v15 =>
    Vb (ext 1 v14) fun v16 =>
    R v15 h2)

def F_space_Space_Put (S : Sys) (I : Ids) (s0 at1 v2 : Value) (h : Hp) (R : Value → Hp → Prop) : Prop :=
  S.C I.f_space_Space_reads [s0, at1] h fun v8 h1 =>
  Br v8 (
    Vb (nck s0) fun v11 =>
    Vb (fa 2 v11) fun v12 =>
    Vb (ldc v12 h1) fun v13 =>
    Vb (bldS [(0, 1), (1, 1)] #[Value.int IntKind.i64 0, Value.int IntKind.i64 0] [(0, at1), (1, v2)]) fun v16 =>
    Eb (bsl #[Value.int IntKind.i64 0, Value.int IntKind.i64 0] 2 1 I.t_space_put [(0, v16)] h1) fun v17 h2 =>
    Ap I.t_space_put #[Value.int IntKind.i64 0, Value.int IntKind.i64 0] 2 16 v13 v17 h2 fun v18 h3 =>
    Vb (nck s0) fun v19 =>
    Vb (fa 2 v19) fun v20 =>
    Sb (sto 1 v20 v18 h3) fun h4 =>
    R (.tuple #[]) h4) (
    R (.tuple #[]) h1)

def F_pool_Pool_Check (S : Sys) (I : Ids) (p0 : Value) (h : Hp) (R : Value → Hp → Prop) : Prop :=
  Eb (nw (Value.cells p0) I.t_pool_Pool h) fun p1 h1 =>
  Jn1 (fun v3 h2 =>
      Br v3 (
        R (Value.int IntKind.i64 1) h2) (
        Jn1 (fun v22 h3 =>
            Br v22 (
              R (Value.int IntKind.i64 1) h3) (
              Jn1 (fun v35 h4 =>
                  Br v35 (
                    R (Value.int IntKind.i64 1) h4) (
                    R (Value.int IntKind.i64 0) h4)) fun J2 =>
              Vb (fa 2 p1) fun v36 =>
              Vb (ldc v36 h3) fun v37 =>
              Vb (bin .gtr v37 (Value.int IntKind.i64 0)) fun v38 =>
              Br v38 (
                Vb (fa 0 p1) fun v40 =>
                Vb (ldc v40 h3) fun v41 =>
                Vb (bin .add v41 (Value.int IntKind.i64 3)) fun v42 =>
                Vb (fa 1 p1) fun v43 =>
                Vb (ldc v43 h3) fun v44 =>
                Vb (bin .gtr v42 v44) fun v45 =>
                Br v45 (
                  Vb (fa 0 p1) fun v48 =>
                  Vb (ldc v48 h3) fun v49 =>
                  Vb (fa 1 p1) fun v50 =>
                  Vb (ldc v50 h3) fun v51 =>
                  Vb (fa 2 p1) fun v52 =>
                  Vb (ldc v52 h3) fun v53 =>
                  Vb (bin .mul (Value.int IntKind.i64 8) v53) fun v54 =>
                  Vb (bin .add v51 v54) fun v55 =>
                  Vb (bin .lss v49 v55) fun v56 =>
                  J2 v56 h3) (
                  J2 (Value.bool false) h3)) (
                J2 (Value.bool false) h3))) fun J1 =>
        Vb (fa 0 p1) fun v23 =>
        Vb (ldc v23 h2) fun v24 =>
        Vb (bin .gtr v24 (Value.int IntKind.i64 4093)) fun v25 =>
        Br v25 (
          J1 (Value.bool true) h2) (
          Vb (fa 1 p1) fun v27 =>
          Vb (ldc v27 h2) fun v28 =>
          Vb (fa 2 p1) fun v29 =>
          Vb (ldc v29 h2) fun v30 =>
          Vb (bin .mul (Value.int IntKind.i64 8) v30) fun v31 =>
          Vb (bin .sub (Value.int IntKind.i64 4096) v31) fun v32 =>
          Vb (bin .gtr v28 v32) fun v33 =>
          J1 v33 h2))) fun J0 =>
  Vb (fa 0 p1) fun v4 =>
  Vb (ldc v4 h1) fun v5 =>
  Vb (bin .lss v5 (Value.int IntKind.i64 0)) fun v6 =>
  Br v6 (
    J0 (Value.bool true) h1) (
    Vb (fa 1 p1) fun v8 =>
    Vb (ldc v8 h1) fun v9 =>
    Vb (bin .lss v9 (Value.int IntKind.i64 1)) fun v10 =>
    Br v10 (
      J0 (Value.bool true) h1) (
      Vb (fa 2 p1) fun v13 =>
      Vb (ldc v13 h1) fun v14 =>
      Vb (bin .lss v14 (Value.int IntKind.i64 0)) fun v15 =>
      Br v15 (
        J0 (Value.bool true) h1) (
        Vb (fa 2 p1) fun v18 =>
        Vb (ldc v18 h1) fun v19 =>
        Vb (bin .gtr v19 (Value.int IntKind.i64 128)) fun v20 =>
        J0 v20 h1)))

def F_pool_Pool_Free (S : Sys) (I : Ids) (p0 w1 : Value) (h : Hp) (R : Value → Hp → Prop) : Prop :=
  Eb (nw (Value.cells p0) I.t_pool_Pool h) fun p2 h1 =>
  Vb (lda 3 p2 h1) fun v11 =>
  S.C I.f_pool_Pool_Check [v11] h1 fun v12 h2 =>
  Vb (bin .neq v12 (Value.int IntKind.i64 0)) fun v14 =>
  Br v14 (
    R (.tuple #[(Value.slice none 0 0), v12]) h2) (
    Vb (fa 0 p2) fun v17 =>
    Vb (ldc v17 h2) fun v18 =>
    Cv S.C S.Y w1 [v18] h2 fun v19 h3 =>
    Lp2 (Value.slice none 0 0) v19 h3 fun out7 at8 h4 again0 =>
    Vb (lda 3 p2 h4) fun v21 =>
    S.C I.f_pool_Pool_Node [v21, at8] h4 fun v23 h5 =>
    Vb (ext 0 v23) fun v24 =>
    Vb (ext 1 v23) fun v25 =>
    Vb (bin .eql at8 (Value.int IntKind.i64 0)) fun v28 =>
    Br v28 (
      R (.tuple #[out7, (Value.int IntKind.i64 0)]) h5) (
      Jn1 (fun v29 h6 =>
          Br v29 (
            R (.tuple #[(Value.slice none 0 0), (Value.int IntKind.i64 24)]) h6) (
            Eb (bsl #[Value.int IntKind.i64 0] 1 1 I.t_int [(0, v24)] h6) fun v41 h7 =>
            Ap I.t_int #[Value.int IntKind.i64 0] 1 8 out7 v41 h7 fun v42 h8 =>
            Cv S.C S.Y w1 [at8] h8 fun v45 h9 =>
            again0 v42 v45 h9)) fun J0 =>
      Vb (uno .not v25) fun v31 =>
      Br v31 (
        J0 (Value.bool true) h5) (
        Vb (lnS out7) fun v34 =>
        Vb (fa 2 p2) fun v35 =>
        Vb (ldc v35 h5) fun v36 =>
        Vb (bin .geq v34 v36) fun v37 =>
        J0 v37 h5)))

def F_simulcastlaw31_Words_Get (S : Sys) (I : Ids) (w0 at1 : Value) (h : Hp) (R : Value → Hp → Prop) : Prop :=
  Eb (nw (Value.cells w0) I.t_simulcastlaw31_Words h) fun w2 h1 =>
  Jn1 (fun v13 h2 =>
      Br v13 (
        R (Value.int IntKind.i64 0) h2) (
        Vb (fa 0 w2) fun v14 =>
        Vb (ldc v14 h2) fun v15 =>
        Vb (ixs 1 v15 at1) fun v17 =>
        Vb (ldc v17 h2) fun v18 =>
        R v18 h2)) fun J0 =>
  Vb (bin .lss at1 (Value.int IntKind.i64 0)) fun v6 =>
  Br v6 (
    J0 (Value.bool true) h1) (
    Vb (fa 0 w2) fun v9 =>
    Vb (ldc v9 h1) fun v10 =>
    Vb (lnS v10) fun v11 =>
    Vb (bin .geq at1 v11) fun v12 =>
    J0 v12 h1)

def F_simulcastref31_Take (S : Sys) (I : Ids) (s0 nodes1 : Value) (h : Hp) (R : Value → Hp → Prop) : Prop :=
  Eb (nw (Value.cells s0) I.t_simulcastref31_State h) fun s2 h1 =>
  Eb (nw #[Value.slice none 0 0, Value.int IntKind.i64 0] I.t_simulcastref31_State h1) fun v4 h2 =>
  Vb (fa 0 s2) fun v7 =>
  Vb (ldc v7 h2) fun v8 =>
  Vb (lnS v8) fun v9 =>
  Vb (bin .gtr v9 (Value.int IntKind.i64 0)) fun v10 =>
  Br v10 (
    Vb (fa 0 s2) fun v11 =>
    Vb (ldc v11 h2) fun v12 =>
    Vb (fa 0 s2) fun v13 =>
    Vb (ldc v13 h2) fun v14 =>
    Vb (lnS v14) fun v15 =>
    Vb (bin .sub v15 (Value.int IntKind.i64 1)) fun v16 =>
    Vb (ixs 1 v12 v16) fun v17 =>
    Vb (ldc v17 h2) fun v18 =>
    Vb (fa 0 s2) fun v20 =>
    Vb (ldc v20 h2) fun v21 =>
    Vb (fa 0 s2) fun v22 =>
    Vb (ldc v22 h2) fun v23 =>
    Vb (lnS v23) fun v24 =>
    Vb (bin .sub v24 (Value.int IntKind.i64 1)) fun v25 =>
    Vb (slc 1 v21 none (some v25) none) fun v26 =>
    Vb (fa 1 s2) fun v28 =>
    Vb (ldc v28 h2) fun v29 =>
    Eb (bsl #[Value.int IntKind.i64 0] 1 0 I.t_int [] h2) fun v19 h3 =>
    ldc v28 h3 = some v29 ∧
    ldc v22 h3 = some v23 ∧
    ldc v20 h3 = some v21 ∧
    Ap I.t_int #[Value.int IntKind.i64 0] 1 8 v19 v26 h3 fun v27 h4 =>
    ldc v28 h4 = some v29 ∧
    Vb (bldS [(0, 1), (1, 1)] #[Value.slice none 0 0, Value.int IntKind.i64 0] [(0, v27), (1, v29)]) fun v30 =>
    Sb (sto 2 v4 v30 h4) fun h5 =>
    Vb (lda 2 v4 h5) fun r0 =>
    R (.tuple #[r0, v18]) h5) (
    Vb (fa 1 s2) fun v32 =>
    Vb (ldc v32 h2) fun v33 =>
    Vb (bin .geq v33 nodes1) fun v35 =>
    Br v35 (
      Vb (lda 2 s2 h2) fun v36 =>
      Sb (sto 2 v4 v36 h2) fun h6 =>
      Vb (lda 2 v4 h6) fun r0 =>
      R (.tuple #[r0, (Value.int IntKind.i64 (-1))]) h6) (
      Vb (fa 0 s2) fun v37 =>
      Vb (ldc v37 h2) fun v38 =>
      Vb (fa 1 s2) fun v39 =>
      Vb (ldc v39 h2) fun v40 =>
      Vb (bin .add v40 (Value.int IntKind.i64 1)) fun v41 =>
      Vb (bldS [(0, 1), (1, 1)] #[Value.slice none 0 0, Value.int IntKind.i64 0] [(0, v38), (1, v41)]) fun v42 =>
      Vb (fa 1 s2) fun v43 =>
      Vb (ldc v43 h2) fun v44 =>
      Sb (sto 2 v4 v42 h2) fun h7 =>
      ldc v43 h7 = some v44 ∧
      Vb (lda 2 v4 h7) fun r0 =>
      R (.tuple #[r0, v44]) h7))

def F_simulcastref31_Give (S : Sys) (I : Ids) (s0 n1 : Value) (h : Hp) (R : Value → Hp → Prop) : Prop :=
  Eb (nw (Value.cells s0) I.t_simulcastref31_State h) fun s2 h1 =>
  Eb (nw #[Value.slice none 0 0, Value.int IntKind.i64 0] I.t_simulcastref31_State h1) fun v4 h2 =>
  Jn0 (fun h3 =>
      Vb (lda 2 v4 h3) fun r0 =>
      R r0 h3) fun J0 =>
  Vb (fa 0 s2) fun v6 =>
  Vb (ldc v6 h2) fun v7 =>
  Vb (fa 1 s2) fun v12 =>
  Vb (ldc v12 h2) fun v13 =>
  And (
    Eb (bsl #[Value.int IntKind.i64 0] 1 0 I.t_int [] h2) fun v5 h4 =>
    ldc v12 h4 = some v13 ∧
    ldc v6 h4 = some v7 ∧
    And (
      Ap I.t_int #[Value.int IntKind.i64 0] 1 8 v5 v7 h4 fun v8 h5 =>
      ldc v12 h5 = some v13 ∧
      Eb (bsl #[Value.int IntKind.i64 0] 1 1 I.t_int [(0, n1)] h5) fun v10 h6 =>
      ldc v12 h6 = some v13 ∧
      Ap I.t_int #[Value.int IntKind.i64 0] 1 8 v8 v10 h6 fun v11 h7 =>
      ldc v12 h7 = some v13 ∧
      Vb (bldS [(0, 1), (1, 1)] #[Value.slice none 0 0, Value.int IntKind.i64 0] [(0, v11), (1, v13)]) fun v14 =>
      Sb (sto 2 v4 v14 h7) fun h8 =>
      J0 h8) (
      Eb (bsl #[Value.int IntKind.i64 0] 1 1 I.t_int [(0, n1)] h4) fun v10_1 h9 =>
      ldc v12 h9 = some v13 ∧
      ldc v6 h9 = some v7 ∧
      Ap I.t_int #[Value.int IntKind.i64 0] 1 8 v5 v7 h9 fun v8_1 h10 =>
      ldc v12 h10 = some v13 ∧
      Ap I.t_int #[Value.int IntKind.i64 0] 1 8 v8_1 v10_1 h10 fun v11_1 h11 =>
      ldc v12 h11 = some v13 ∧
      Vb (bldS [(0, 1), (1, 1)] #[Value.slice none 0 0, Value.int IntKind.i64 0] [(0, v11_1), (1, v13)]) fun v14_1 =>
      Sb (sto 2 v4 v14_1 h11) fun h12 =>
      J0 h12)) (
    Eb (bsl #[Value.int IntKind.i64 0] 1 1 I.t_int [(0, n1)] h2) fun v10_2 h13 =>
    ldc v12 h13 = some v13 ∧
    ldc v6 h13 = some v7 ∧
    Eb (bsl #[Value.int IntKind.i64 0] 1 0 I.t_int [] h13) fun v5_1 h14 =>
    ldc v12 h14 = some v13 ∧
    ldc v6 h14 = some v7 ∧
    Ap I.t_int #[Value.int IntKind.i64 0] 1 8 v5_1 v7 h14 fun v8_2 h15 =>
    ldc v12 h15 = some v13 ∧
    Ap I.t_int #[Value.int IntKind.i64 0] 1 8 v8_2 v10_2 h15 fun v11_2 h16 =>
    ldc v12 h16 = some v13 ∧
    Vb (bldS [(0, 1), (1, 1)] #[Value.slice none 0 0, Value.int IntKind.i64 0] [(0, v11_2), (1, v13)]) fun v14_2 =>
    Sb (sto 2 v4 v14_2 h16) fun h17 =>
    J0 h17)

def F_simulcastlaw31_Words_Behind (S : Sys) (I : Ids) (w0 s1 : Value) (h : Hp) (R : Value → Hp → Prop) : Prop :=
  Eb (nw (Value.cells w0) I.t_simulcastlaw31_Words h) fun w2 h1 =>
  Eb (nw #[Value.slice none 0 0] I.t_simulcastlaw31_Words h1) fun v4 h2 =>
  S.C I.f_space_Space_Entries [s1] h2 fun v12 h3 =>
  Vb (ext 0 v12) fun v13 =>
  Vb (ext 1 v12) fun v14 =>
  Jn1 (fun v20 h4 =>
      Br v20 (
        Vb (lda 1 w2 h4) fun v21 =>
        Sb (sto 1 v4 v21 h4) fun h5 =>
        Vb (lda 1 v4 h5) fun r0 =>
        R (.tuple #[r0, (Value.bool false)]) h5) (
        Eb (bsl #[Value.int IntKind.i64 0] 1 0 I.t_int64 [] h4) fun v22 h6 =>
        Vb (fa 0 w2) fun v23 =>
        Vb (ldc v23 h6) fun v24 =>
        Ap I.t_int64 #[Value.int IntKind.i64 0] 1 8 v22 v24 h6 fun v25 h7 =>
        Vb (bldS [(0, 1)] #[Value.slice none 0 0] [(0, v25)]) fun v26 =>
        Eb (nw #[Value.slice none 0 0] I.t_simulcastlaw31_Words h7) fun out8 h8 =>
        Sb (sto 1 out8 v26 h8) fun h9 =>
        Lp1 (Value.int IntKind.i64 0) h9 fun i9 h10 again0 =>
        Vb (lnS v13) fun v29 =>
        Vb (bin .lss i9 v29) fun v30 =>
        Br v30 (
          Jn1 (fun v49 h11 =>
              Br v49 (
                Vb (lda 1 w2 h11) fun v50 =>
                Sb (sto 1 v4 v50 h11) fun h12 =>
                Vb (lda 1 v4 h12) fun r0 =>
                R (.tuple #[r0, (Value.bool false)]) h12) (
                Vb (fa 0 out8) fun v51 =>
                Vb (ldc v51 h11) fun v52 =>
                Vb (ixs 6 v13 i9) fun v55 =>
                Vb (fa 0 v55) fun v56 =>
                Vb (ldc v56 h11) fun v57 =>
                Vb (ixs 6 v13 i9) fun v60 =>
                Vb (fa 4 v60) fun v61 =>
                Vb (ldc v61 h11) fun v62 =>
                Vb (ixs 1 v52 v57) fun v63 =>
                Sb (sto 1 v63 v62 h11) fun h13 =>
                Vb (bin .add i9 (Value.int IntKind.i64 1)) fun v32 =>
                again0 v32 h13)) fun J1 =>
          Vb (ixs 6 v13 i9) fun v35 =>
          Vb (fa 0 v35) fun v36 =>
          Vb (ldc v36 h10) fun v37 =>
          Vb (fa 0 out8) fun v38 =>
          Vb (ldc v38 h10) fun v39 =>
          Vb (lnS v39) fun v40 =>
          Vb (bin .geq v37 v40) fun v41 =>
          Br v41 (
            J1 (Value.bool true) h10) (
            Vb (ixs 6 v13 i9) fun v45 =>
            Vb (fa 0 v45) fun v46 =>
            Vb (ldc v46 h10) fun v47 =>
            Vb (bin .lss v47 (Value.int IntKind.i64 0)) fun v48 =>
            J1 v48 h10)) (
          Vb (lda 1 out8 h10) fun v64 =>
          Sb (sto 1 v4 v64 h10) fun h14 =>
          Vb (lda 1 v4 h14) fun r0 =>
          R (.tuple #[r0, (Value.bool true)]) h14))) fun J0 =>
  Vb (bin .neq v14 (Value.int IntKind.i64 0)) fun v16 =>
  Br v16 (
    J0 (Value.bool true) h3) (
    S.C I.f_space_Space_Ended [s1] h3 fun v19 h15 =>
    J0 v19 h15)

def F_simulcastref31_Same (S : Sys) (I : Ids) (a0 b1 : Value) (h : Hp) (R : Value → Hp → Prop) : Prop :=
  Vb (lnS a0) fun v7 =>
  Vb (lnS b1) fun v9 =>
  Vb (bin .neq v7 v9) fun v10 =>
  Br v10 (
    R (Value.bool false) h) (
    Lp1 (Value.int IntKind.i64 0) h fun i5 h1 again0 =>
    Vb (lnS a0) fun v13 =>
    Vb (bin .lss i5 v13) fun v14 =>
    Br v14 (
      Vb (ixs 1 a0 i5) fun v19 =>
      Vb (ldc v19 h1) fun v20 =>
      Vb (ixs 1 b1 i5) fun v23 =>
      Vb (ldc v23 h1) fun v24 =>
      Vb (bin .neq v20 v24) fun v25 =>
      Br v25 (
        R (Value.bool false) h1) (
        Vb (bin .add i5 (Value.int IntKind.i64 1)) fun v16 =>
        again0 v16 h1)) (
      R (Value.bool true) h1))

def F_simulcastref31_Turned (S : Sys) (I : Ids) (l0 : Value) (h : Hp) (R : Value → Hp → Prop) : Prop :=
  Vb (lnS l0) fun v6 =>
  Vb (bin .sub v6 (Value.int IntKind.i64 1)) fun v7 =>
  Lp2 (Value.slice none 0 0) v7 h fun out3 i4 h1 again0 =>
  Vb (bin .geq i4 (Value.int IntKind.i64 0)) fun v9 =>
  Br v9 (
    Vb (ixs 1 l0 i4) fun v15 =>
    Vb (ldc v15 h1) fun v16 =>
    Eb (bsl #[Value.int IntKind.i64 0] 1 1 I.t_int [(0, v16)] h1) fun v17 h2 =>
    Ap I.t_int #[Value.int IntKind.i64 0] 1 8 out3 v17 h2 fun v18 h3 =>
    Vb (bin .sub i4 (Value.int IntKind.i64 1)) fun v11 =>
    again0 v18 v11 h3) (
    R out3 h1)

def F_model_New (S : Sys) (I : Ids) (w0 : Value) (h : Hp) (R : Value → Hp → Prop) : Prop :=
  Eb (nw #[Value.slice none 0 0] I.t_model_Model h) fun v2 h1 =>
  S.C I.f_slices_Clone_api_Word_api_Word [w0] h1 fun v6 h2 =>
  Vb (lnS v6) fun v8 =>
  Lp1 (Value.int IntKind.i64 0) h2 fun v9 h3 again0 =>
  Vb (bin .lss v9 v8) fun v10 =>
  Br v10 (
    Vb (ixs 3 v6 v9) fun v14 =>
    Vb (fa 2 v14) fun v15 =>
    Sb (sto 1 v15 (Value.int IntKind.u32 0) h3) fun h4 =>
    Vb (bin .add v9 (Value.int IntKind.i64 1)) fun v16 =>
    again0 v16 h4) (
    Vb (bldS [(0, 1)] #[Value.slice none 0 0] [(0, v6)]) fun v18 =>
    Sb (sto 1 v2 v18 h3) fun h5 =>
    Vb (lda 1 v2 h5) fun r0 =>
    R r0 h5)

def F_model_Model_Swap (S : Sys) (I : Ids) (m0 l1 : Value) (h : Hp) (R : Value → Hp → Prop) : Prop :=
  Eb (nw (Value.cells m0) I.t_model_Model h) fun m2 h1 =>
  Eb (nw #[Value.slice none 0 0] I.t_model_Model h1) fun v4 h2 =>
  S.C I.f_entry_Check [l1] h2 fun v16 h3 =>
  Vb (bin .neq v16 (Value.int IntKind.i64 0)) fun v18 =>
  Br v18 (
    Vb (lda 1 m2 h3) fun v19 =>
    Sb (sto 1 v4 v19 h3) fun h4 =>
    Vb (lda 1 v4 h4) fun r0 =>
    R (.tuple #[r0, (Value.bool false), v16]) h4) (
    Vb (lnS l1) fun v22 =>
    Lp1 (Value.int IntKind.i64 0) h3 fun v23 h5 again0 =>
    Vb (bin .lss v23 v22) fun v24 =>
    Br v24 (
      Vb (ixs 6 l1 v23) fun v25 =>
      Vb (lda 6 v25 h5) fun v26 =>
      Eb (nw #[Value.int IntKind.i64 0, Value.int IntKind.i64 0, Value.int IntKind.u32 0, Value.int IntKind.u32 0, Value.int IntKind.i64 0, Value.bool false] I.t_api_Entry h5) fun e9 h6 =>
      Sb (sto 6 e9 v26 h6) fun h7 =>
      Vb (lda 1 m2 h7) fun v28 =>
      Vb (fa 0 e9) fun v29 =>
      Vb (ldc v29 h7) fun v30 =>
      S.C I.f_model_Model_At [v28, v30] h7 fun v31 h8 =>
      Vb (ext 0 v31) fun v32 =>
      Vb (ext 1 v31) fun v33 =>
      Eb (nw #[Value.int IntKind.i64 0, Value.int IntKind.u32 0, Value.int IntKind.u32 0] I.t_api_Word h8) fun v10 h9 =>
      Sb (sto 3 v10 v32 h9) fun h10 =>
      Vb (uno .not v33) fun v35 =>
      Br v35 (
        Vb (lda 1 m2 h10) fun v36 =>
        Sb (sto 1 v4 v36 h10) fun h11 =>
        Vb (lda 1 v4 h11) fun r0 =>
        R (.tuple #[r0, (Value.bool false), (Value.int IntKind.i64 1)]) h11) (
        Vb (bin .add v23 (Value.int IntKind.i64 1)) fun v37 =>
        again0 v37 h10)) (
      Vb (lda 1 m2 h5) fun v38 =>
      S.C I.f_model_Model_Holds [v38, l1] h5 fun v40 h12 =>
      Vb (uno .not v40) fun v41 =>
      Br v41 (
        Vb (lda 1 m2 h12) fun v42 =>
        Sb (sto 1 v4 v42 h12) fun h13 =>
        Vb (lda 1 v4 h13) fun r0 =>
        R (.tuple #[r0, (Value.bool false), (Value.int IntKind.i64 0)]) h13) (
        Vb (lda 1 m2 h12) fun v43 =>
        S.C I.f_model_Model_Words [v43] h12 fun v44 h14 =>
        Vb (lnS l1) fun v46 =>
        Lp1 (Value.int IntKind.i64 0) h14 fun v47 h15 again1 =>
        Vb (bin .lss v47 v46) fun v48 =>
        Br v48 (
          Jn0 (fun h16 =>
              Vb (bin .add v47 (Value.int IntKind.i64 1)) fun v64 =>
              again1 v64 h16) fun J0 =>
          Vb (ixs 6 l1 v47) fun v49 =>
          Vb (lda 6 v49 h15) fun v50 =>
          Eb (nw #[Value.int IntKind.i64 0, Value.int IntKind.i64 0, Value.int IntKind.u32 0, Value.int IntKind.u32 0, Value.int IntKind.i64 0, Value.bool false] I.t_api_Entry h15) fun e14 h17 =>
          Sb (sto 6 e14 v50 h17) fun h18 =>
          Vb (fa 5 e14) fun v51 =>
          Vb (ldc v51 h18) fun v52 =>
          Br v52 (
            Vb (fa 0 e14) fun v54 =>
            Vb (ldc v54 h18) fun v55 =>
            Vb (fa 4 e14) fun v56 =>
            Vb (ldc v56 h18) fun v57 =>
            Vb (fa 1 e14) fun v58 =>
            Vb (fa 1 v58) fun v59 =>
            Vb (ldc v59 h18) fun v60 =>
            Vb (bin .add v60 (Value.int IntKind.u32 1)) fun v61 =>
            Vb (bldS [(0, 1), (1, 1), (2, 1)] #[Value.int IntKind.i64 0, Value.int IntKind.u32 0, Value.int IntKind.u32 0] [(0, v57), (1, v61)]) fun v62 =>
            Vb (ixs 3 v44 v55) fun v63 =>
            Sb (sto 3 v63 v62 h18) fun h19 =>
            J0 h19) (
            J0 h18)) (
          Vb (bldS [(0, 1)] #[Value.slice none 0 0] [(0, v44)]) fun v66 =>
          Sb (sto 1 v4 v66 h15) fun h20 =>
          Vb (lda 1 v4 h20) fun r0 =>
          R (.tuple #[r0, (Value.bool true), (Value.int IntKind.i64 0)]) h20))))

def F_model_Model_At (S : Sys) (I : Ids) (m0 at1 : Value) (h : Hp) (R : Value → Hp → Prop) : Prop :=
  Eb (nw (Value.cells m0) I.t_model_Model h) fun m2 h1 =>
  Eb (nw #[Value.int IntKind.i64 0, Value.int IntKind.u32 0, Value.int IntKind.u32 0] I.t_api_Word h1) fun v4 h2 =>
  Jn1 (fun v14 h3 =>
      Br v14 (
        Vb (bldS [(0, 1), (1, 1), (2, 1)] #[Value.int IntKind.i64 0, Value.int IntKind.u32 0, Value.int IntKind.u32 0] []) fun v15 =>
        Sb (sto 3 v4 v15 h3) fun h4 =>
        Vb (lda 3 v4 h4) fun r0 =>
        R (.tuple #[r0, (Value.bool false)]) h4) (
        Vb (fa 0 m2) fun v16 =>
        Vb (ldc v16 h3) fun v17 =>
        Vb (ixs 3 v17 at1) fun v19 =>
        Vb (lda 3 v19 h3) fun v20 =>
        Sb (sto 3 v4 v20 h3) fun h5 =>
        Vb (lda 3 v4 h5) fun r0 =>
        R (.tuple #[r0, (Value.bool true)]) h5)) fun J0 =>
  Vb (bin .lss at1 (Value.int IntKind.i64 0)) fun v7 =>
  Br v7 (
    J0 (Value.bool true) h2) (
    Vb (fa 0 m2) fun v10 =>
    Vb (ldc v10 h2) fun v11 =>
    Vb (lnS v11) fun v12 =>
    Vb (bin .geq at1 v12) fun v13 =>
    J0 v13 h2)

def F_pool_Pool_add (S : Sys) (I : Ids) (p0 s1 count2 n3 : Value) (h : Hp) (R : Value → Hp → Prop) : Prop :=
  Eb (nw (Value.cells p0) I.t_pool_Pool h) fun p4 h1 =>
  Vb (fa 0 p4) fun v9 =>
  Vb (ldc v9 h1) fun v10 =>
  Vb (bin .add v10 count2) fun v12 =>
  Vb (fa 0 p4) fun v14 =>
  Vb (ldc v14 h1) fun v15 =>
  Vb (bin .add v15 count2) fun v17 =>
  S.C I.f_space_Space_Get [s1, v17] h1 fun v18 h2 =>
  ldc v9 h2 = some v10 ∧
  Vb (bin .add v18 n3) fun v20 =>
  S.C I.f_space_Space_Put [s1, v12, v20] h2 fun v21 h3 =>
  R (.tuple #[]) h3

def F_queue_First (S : Sys) (I : Ids) (s0 root1 : Value) (h : Hp) (R : Value → Hp → Prop) : Prop :=
  Vb (bin .add root1 (Value.int IntKind.i64 0)) fun v9 =>
  S.C I.f_space_Space_Get [s0, v9] h fun v10 h1 =>
  Vb (bin .eql v10 (Value.int IntKind.i64 0)) fun v12 =>
  Br v12 (
    R (.tuple #[(Value.int IntKind.i64 0), (Value.int IntKind.i64 8)]) h1) (
    Vb (bin .add v10 (Value.int IntKind.i64 0)) fun v15 =>
    S.C I.f_space_Space_Get [s0, v15] h1 fun v16 h2 =>
    R (.tuple #[v16, (Value.int IntKind.i64 0)]) h2)

def F_queue_undo (S : Sys) (I : Ids) (s0 mark1 e2 : Value) (h : Hp) (R : Value → Hp → Prop) : Prop :=
  Vb (nck e2) fun v7 =>
  Vb (ldc v7 h) fun v8 =>
  Vb (bin .neq v8 (Value.int IntKind.i64 0)) fun v9 =>
  Br v9 (
    S.C I.f_space_Space_Back [s0, mark1] h fun v12 h1 =>
    R (.tuple #[]) h1) (
    R (.tuple #[]) h)

def F_queue_isNode (S : Sys) (I : Ids) (p0 n1 : Value) (h : Hp) (R : Value → Hp → Prop) : Prop :=
  Eb (nw (Value.cells p0) I.t_pool_Pool h) fun p2 h1 =>
  Vb (lda 3 p2 h1) fun v8 =>
  S.C I.f_pool_Pool_Node [v8, n1] h1 fun v10 h2 =>
  Vb (ext 0 v10) fun v11 =>
  Vb (ext 1 v10) fun v12 =>
  R v12 h2

def F_queue_nodes (S : Sys) (I : Ids) (s0 root1 : Value) (h : Hp) (R : Value → Hp → Prop) : Prop :=
  Eb (nw (Value.cells s0) I.t_p_space_Space h) fun s2 h1 =>
  Eb (nw (Value.cells root1) I.t_api_Loc h1) fun root3 h2 =>
  Vb (some (.func (.func I.f_queue_nodes_1) #[] #[s2, root3])) fun v5 =>
  R v5 h2

def F_slices_Sort_api_Loc_api_Loc (S : Sys) (I : Ids) (x0 : Value) (h : Hp) (R : Value → Hp → Prop) : Prop :=
  Vb (lnS x0) fun v4 =>
  Vb (cvi .u64 v4) fun v8 =>
  S.C I.f_math_bits_Len [v8] h fun v9 h1 =>
  S.C I.f_slices_pdqsortOrdered_api_Loc [x0, (Value.int IntKind.i64 0), v4, v9] h1 fun v10 h2 =>
  R (.tuple #[]) h2

def F_space_Space_value (S : Sys) (I : Ids) (s0 at1 : Value) (h : Hp) (R : Value → Hp → Prop) : Prop :=
  S.C I.f_space_Space_last [s0, at1] h fun v9 h1 =>
  Vb (bin .geq v9 (Value.int IntKind.i64 0)) fun v11 =>
  Br v11 (
    Vb (nck s0) fun v13 =>
    Vb (fa 2 v13) fun v14 =>
    Vb (ldc v14 h1) fun v15 =>
    Vb (ixs 2 v15 v9) fun v17 =>
    Vb (fa 1 v17) fun v18 =>
    Vb (ldc v18 h1) fun v19 =>
    R (.tuple #[v19, (Value.bool true)]) h1) (
    Vb (nck s0) fun v21 =>
    Vb (fa 0 v21) fun v22 =>
    Vb (ldc v22 h1) fun v23 =>
    Vb (lkm (.int .i64) (Value.agg #[Value.int IntKind.i64 0, Value.int IntKind.u32 0, Value.int IntKind.u32 0]) false v23 at1 h1) fun v25 =>
    Vb (fdc 0 v25) fun v26 =>
    R (.tuple #[v26, (Value.bool false)]) h1)

def F_entry_Check (S : Sys) (I : Ids) (l0 : Value) (h : Hp) (R : Value → Hp → Prop) : Prop :=
  Vb (lnS l0) fun v8 =>
  Vb (bin .eql v8 (Value.int IntKind.i64 0)) fun v9 =>
  Br v9 (
    R (Value.int IntKind.i64 8) h) (
    Vb (lnS l0) fun v12 =>
    Vb (bin .gtr v12 (Value.int IntKind.i64 32)) fun v13 =>
    Br v13 (
      R (Value.int IntKind.i64 15) h) (
      Vb (lnS l0) fun v15 =>
      Lp1 (Value.int IntKind.i64 0) h fun v16 h1 again0 =>
      Vb (bin .lss v16 v15) fun v17 =>
      Br v17 (
        Vb (ixs 6 l0 v16) fun v19 =>
        Vb (lda 6 v19 h1) fun v20 =>
        Eb (nw #[Value.int IntKind.i64 0, Value.int IntKind.i64 0, Value.int IntKind.u32 0, Value.int IntKind.u32 0, Value.int IntKind.i64 0, Value.bool false] I.t_api_Entry h1) fun x4 h2 =>
        Sb (sto 6 x4 v20 h2) fun h3 =>
        Vb (lda 6 x4 h3) fun v21 =>
        S.C I.f_entry_wrong [v21] h3 fun v22 h4 =>
        Vb (bin .neq v22 (Value.int IntKind.i64 0)) fun v24 =>
        Br v24 (
          R v22 h4) (
          Vb (slc 6 l0 none (some v16) none) fun v28 =>
          Vb (some (.func (.func I.f_entry_Check_1) #[] #[x4])) fun v29 =>
          S.C I.f_slices_ContainsFunc_api_Entry_api_Entry [v28, v29] h4 fun v30 h5 =>
          Br v30 (
            R (Value.int IntKind.i64 11) h5) (
            Vb (bin .add v16 (Value.int IntKind.i64 1)) fun v31 =>
            again0 v31 h5))) (
        R (Value.int IntKind.i64 0) h1)))

def F_simulcastref30_Get (S : Sys) (I : Ids) (s0 at1 : Value) (h : Hp) (R : Value → Hp → Prop) : Prop :=
  Eb (nw (Value.cells s0) I.t_simulcastref30_Space h) fun s2 h1 =>
  Eb (nw #[Value.slice none 0 0, Value.slice none 0 0, Value.slice none 0 0, Value.bool false, Value.int IntKind.i64 0] I.t_simulcastref30_Space h1) fun v4 h2 =>
  Vb (lda 5 s2 h2) fun v6 =>
  S.C I.f_simulcastref30_touch [v6, at1] h2 fun v8 h3 =>
  Sb (sto 5 s2 v8 h3) fun h4 =>
  Vb (fa 3 s2) fun v9 =>
  Vb (ldc v9 h4) fun v10 =>
  Br v10 (
    Vb (lda 5 s2 h4) fun v11 =>
    Sb (sto 5 v4 v11 h4) fun h5 =>
    Vb (lda 5 v4 h5) fun r0 =>
    R (.tuple #[r0, (Value.int IntKind.i64 0)]) h5) (
    Vb (lda 5 s2 h4) fun v12 =>
    Vb (lda 5 s2 h4) fun v13 =>
    S.C I.f_simulcastref30_has [v13, at1] h4 fun v15 h6 =>
    lda 5 s2 h6 = some v12 ∧
    Sb (sto 5 v4 v12 h6) fun h7 =>
    Vb (lda 5 v4 h7) fun r0 =>
    R (.tuple #[r0, v15]) h7)

def F_simulcastref30_Set (S : Sys) (I : Ids) (s0 at1 v2 : Value) (h : Hp) (R : Value → Hp → Prop) : Prop :=
  Eb (nw (Value.cells s0) I.t_simulcastref30_Space h) fun s3 h1 =>
  Eb (nw #[Value.slice none 0 0, Value.slice none 0 0, Value.slice none 0 0, Value.bool false, Value.int IntKind.i64 0] I.t_simulcastref30_Space h1) fun v6 h2 =>
  Vb (lda 5 s3 h2) fun v7 =>
  S.C I.f_simulcastref30_touch [v7, at1] h2 fun v9 h3 =>
  Sb (sto 5 s3 v9 h3) fun h4 =>
  Vb (fa 3 s3) fun v10 =>
  Vb (ldc v10 h4) fun v11 =>
  Br v11 (
    Vb (lda 5 s3 h4) fun v12 =>
    Sb (sto 5 v6 v12 h4) fun h5 =>
    Vb (lda 5 v6 h5) fun r0 =>
    R r0 h5) (
    Eb (bsl #[Value.int IntKind.i64 0, Value.int IntKind.i64 0] 2 0 I.t_simulcastref30_Put [] h4) fun v13 h6 =>
    Vb (fa 2 s3) fun v14 =>
    Vb (ldc v14 h6) fun v15 =>
    Ap I.t_simulcastref30_Put #[Value.int IntKind.i64 0, Value.int IntKind.i64 0] 2 16 v13 v15 h6 fun v16 h7 =>
    Vb (bldS [(0, 1), (1, 1)] #[Value.int IntKind.i64 0, Value.int IntKind.i64 0] [(0, at1), (1, v2)]) fun v19 =>
    Eb (bsl #[Value.int IntKind.i64 0, Value.int IntKind.i64 0] 2 1 I.t_simulcastref30_Put [(0, v19)] h7) fun v20 h8 =>
    Ap I.t_simulcastref30_Put #[Value.int IntKind.i64 0, Value.int IntKind.i64 0] 2 16 v16 v20 h8 fun v21 h9 =>
    Vb (fa 2 s3) fun v22 =>
    Sb (sto 1 v22 v21 h9) fun h10 =>
    Vb (lda 5 s3 h10) fun v23 =>
    Sb (sto 5 v6 v23 h10) fun h11 =>
    Vb (lda 5 v6 h11) fun r0 =>
    R r0 h11)

def F_simulcastref30_Back (S : Sys) (I : Ids) (s0 mark1 : Value) (h : Hp) (R : Value → Hp → Prop) : Prop :=
  Eb (nw (Value.cells s0) I.t_simulcastref30_Space h) fun s2 h1 =>
  Eb (nw #[Value.slice none 0 0, Value.slice none 0 0, Value.slice none 0 0, Value.bool false, Value.int IntKind.i64 0] I.t_simulcastref30_Space h1) fun v4 h2 =>
  Jn1 (fun v17 h3 =>
      Br v17 (
        Vb (lda 5 s2 h3) fun v18 =>
        Sb (sto 5 v4 v18 h3) fun h4 =>
        Vb (lda 5 v4 h4) fun r0 =>
        R r0 h4) (
        Eb (bsl #[Value.int IntKind.i64 0, Value.int IntKind.i64 0] 2 0 I.t_simulcastref30_Put [] h3) fun v19 h5 =>
        Vb (fa 2 s2) fun v20 =>
        Vb (ldc v20 h5) fun v21 =>
        Vb (slc 2 v21 none (some mark1) none) fun v23 =>
        Ap I.t_simulcastref30_Put #[Value.int IntKind.i64 0, Value.int IntKind.i64 0] 2 16 v19 v23 h5 fun v24 h6 =>
        Vb (fa 2 s2) fun v25 =>
        Sb (sto 1 v25 v24 h6) fun h7 =>
        Vb (lda 5 s2 h7) fun v26 =>
        Sb (sto 5 v4 v26 h7) fun h8 =>
        Vb (lda 5 v4 h8) fun r0 =>
        R r0 h8)) fun J0 =>
  Vb (fa 3 s2) fun v5 =>
  Vb (ldc v5 h2) fun v6 =>
  Br v6 (
    J0 (Value.bool true) h2) (
    Vb (bin .lss mark1 (Value.int IntKind.i64 0)) fun v9 =>
    Br v9 (
      J0 (Value.bool true) h2) (
      Vb (fa 2 s2) fun v13 =>
      Vb (ldc v13 h2) fun v14 =>
      Vb (lnS v14) fun v15 =>
      Vb (bin .gtr mark1 v15) fun v16 =>
      J0 v16 h2))

def F_slices_Compact_api_Loc_api_Loc (S : Sys) (I : Ids) (s0 : Value) (h : Hp) (R : Value → Hp → Prop) : Prop :=
  Vb (lnS s0) fun v7 =>
  Vb (bin .lss v7 (Value.int IntKind.i64 2)) fun v8 =>
  Br v8 (
    R s0 h) (
    Lp1 (Value.int IntKind.i64 1) h fun k3 h1 again0 =>
    Vb (lnS s0) fun v12 =>
    Vb (bin .lss k3 v12) fun v13 =>
    Br v13 (
      Vb (ixs 1 s0 k3) fun v18 =>
      Vb (ldc v18 h1) fun v19 =>
      Vb (bin .sub k3 (Value.int IntKind.i64 1)) fun v22 =>
      Vb (ixs 1 s0 v22) fun v23 =>
      Vb (ldc v23 h1) fun v24 =>
      Vb (bin .eql v19 v24) fun v25 =>
      Br v25 (
        Vb (slc 1 s0 (some k3) none none) fun v28 =>
        Lp2 k3 (Value.int IntKind.i64 1) h1 fun k3_1 k25 h2 again1 =>
        Vb (lnS v28) fun v31 =>
        Vb (bin .lss k25 v31) fun v32 =>
        Br v32 (
          Jn1 (fun k3_2 h3 =>
              Vb (bin .add k25 (Value.int IntKind.i64 1)) fun v34 =>
              again1 k3_2 v34 h3) fun J0 =>
          Vb (ixs 1 v28 k25) fun v37 =>
          Vb (ldc v37 h2) fun v38 =>
          Vb (bin .sub k25 (Value.int IntKind.i64 1)) fun v41 =>
          Vb (ixs 1 v28 v41) fun v42 =>
          Vb (ldc v42 h2) fun v43 =>
          Vb (bin .neq v38 v43) fun v44 =>
          Br v44 (
            Vb (ixs 1 v28 k25) fun v49 =>
            Vb (ldc v49 h2) fun v50 =>
            Vb (ixs 1 s0 k3_1) fun v51 =>
            Sb (sto 1 v51 v50 h2) fun h4 =>
            Vb (bin .add k3_1 (Value.int IntKind.i64 1)) fun v53 =>
            J0 v53 h4) (
            J0 k3_1 h2)) (
          Vb (slc 1 s0 (some k3_1) none none) fun v56 =>
          Eb (clrS #[Value.int IntKind.i64 0] v56 h2) fun _ h5 =>
          Vb (slc 1 s0 none (some k3_1) none) fun v59 =>
          R v59 h5)) (
        Vb (bin .add k3 (Value.int IntKind.i64 1)) fun v15 =>
        again0 v15 h1)) (
      R s0 h1))

def F_space_Space_reads (S : Sys) (I : Ids) (s0 at1 : Value) (h : Hp) (R : Value → Hp → Prop) : Prop :=
  S.C I.f_space_Space_Ended [s0] h fun v8 h1 =>
  Br v8 (
    R (Value.bool false) h1) (
    Vb (nck s0) fun v11 =>
    Vb (fa 0 v11) fun v12 =>
    Vb (ldc v12 h1) fun v13 =>
    Vb (lkm (.int .i64) (Value.agg #[Value.int IntKind.i64 0, Value.int IntKind.u32 0, Value.int IntKind.u32 0]) true v13 at1 h1) fun v15 =>
    Vb (ext 0 v15) fun v16 =>
    Vb (ext 1 v15) fun v17 =>
    Eb (nw #[Value.int IntKind.i64 0, Value.int IntKind.u32 0, Value.int IntKind.u32 0] I.t_api_Word h1) fun v5 h2 =>
    Sb (sto 3 v5 v16 h2) fun h3 =>
    Vb (uno .not v17) fun v19 =>
    Br v19 (
      Vb (nck s0) fun v23 =>
      Vb (fa 4 v23) fun v24 =>
      Sb (sto 1 v24 (Value.bool true) h3) fun h4 =>
      Vb (nck s0) fun v25 =>
      Vb (fa 3 v25) fun v26 =>
      Sb (sto 1 v26 at1 h4) fun h5 =>
      R (Value.bool false) h5) (
      Vb (nck s0) fun v28 =>
      Vb (fa 1 v28) fun v29 =>
      Vb (ldc v29 h3) fun v30 =>
      Sb (mup (.int .i64) v30 at1 (Value.bool true) h3) fun h6 =>
      R (Value.bool true) h6))

def F_slices_Clone_api_Word_api_Word (S : Sys) (I : Ids) (s0 : Value) (h : Hp) (R : Value → Hp → Prop) : Prop :=
  Vb (pos? (eqS s0 (Value.slice none 0 0))) fun v4 =>
  Br v4 (
    R (Value.slice none 0 0) h) (
    Eb (bsl #[Value.int IntKind.i64 0, Value.int IntKind.u32 0, Value.int IntKind.u32 0] 3 0 I.t_api_Word [] h) fun v5 h1 =>
    Ap I.t_api_Word #[Value.int IntKind.i64 0, Value.int IntKind.u32 0, Value.int IntKind.u32 0] 3 16 v5 s0 h1 fun v7 h2 =>
    R v7 h2)

def F_model_Model_Holds (S : Sys) (I : Ids) (m0 l1 : Value) (h : Hp) (R : Value → Hp → Prop) : Prop :=
  Eb (nw (Value.cells m0) I.t_model_Model h) fun m2 h1 =>
  Vb (lnS l1) fun v10 =>
  Lp1 (Value.int IntKind.i64 0) h1 fun v11 h2 again0 =>
  Vb (bin .lss v11 v10) fun v12 =>
  Br v12 (
    Vb (ixs 6 l1 v11) fun v13 =>
    Vb (lda 6 v13 h2) fun v14 =>
    Eb (nw #[Value.int IntKind.i64 0, Value.int IntKind.i64 0, Value.int IntKind.u32 0, Value.int IntKind.u32 0, Value.int IntKind.i64 0, Value.bool false] I.t_api_Entry h2) fun e6 h3 =>
    Sb (sto 6 e6 v14 h3) fun h4 =>
    Vb (fa 1 e6) fun v15 =>
    Vb (fa 2 v15) fun v16 =>
    Sb (sto 1 v16 (Value.int IntKind.u32 0) h4) fun h5 =>
    Vb (lda 1 m2 h5) fun v18 =>
    Vb (fa 0 e6) fun v19 =>
    Vb (ldc v19 h5) fun v20 =>
    S.C I.f_model_Model_At [v18, v20] h5 fun v21 h6 =>
    Vb (ext 0 v21) fun v22 =>
    Vb (ext 1 v21) fun v23 =>
    Eb (nw #[Value.int IntKind.i64 0, Value.int IntKind.u32 0, Value.int IntKind.u32 0] I.t_api_Word h6) fun w7 h7 =>
    Sb (sto 3 w7 v22 h7) fun h8 =>
    Jn1 (fun v31 h9 =>
        Br v31 (
          R (Value.bool false) h9) (
          Vb (bin .add v11 (Value.int IntKind.i64 1)) fun v32 =>
          again0 v32 h9)) fun J0 =>
    Vb (uno .not v23) fun v25 =>
    Br v25 (
      J0 (Value.bool true) h8) (
      Vb (lda 3 w7 h8) fun v27 =>
      Vb (fa 1 e6) fun v28 =>
      Vb (lda 3 v28 h8) fun v29 =>
      Vb (neg? (eqA [true, true, true] v27 v29)) fun v30 =>
      J0 v30 h8)) (
    R (Value.bool true) h2)

def F_model_Model_Words (S : Sys) (I : Ids) (m0 : Value) (h : Hp) (R : Value → Hp → Prop) : Prop :=
  Eb (nw (Value.cells m0) I.t_model_Model h) fun m1 h1 =>
  Vb (fa 0 m1) fun v3 =>
  Vb (ldc v3 h1) fun v4 =>
  S.C I.f_slices_Clone_api_Word_api_Word [v4] h1 fun v5 h2 =>
  R v5 h2

def F_queue_nodes_1 (S : Sys) (I : Ids) (yield0 v1 v2 : Value) (h : Hp) (R : Value → Hp → Prop) : Prop :=
  Vb (ldc v1 h) fun v5 =>
  Vb (ldc v2 h) fun v6 =>
  Vb (bin .add v6 (Value.int IntKind.i64 0)) fun v7 =>
  S.C I.f_space_Space_Get [v5, v7] h fun v8 h1 =>
  Lp1 v8 h1 fun at4 h2 again0 =>
  Jn1 (fun v15 h3 =>
      Br v15 (
        Vb (ldc v1 h3) fun v16 =>
        Vb (bin .add at4 (Value.int IntKind.i64 1)) fun v18 =>
        S.C I.f_space_Space_Get [v16, v18] h3 fun v19 h4 =>
        again0 v19 h4) (
        R (.tuple #[]) h3)) fun J0 =>
  Vb (bin .neq at4 (Value.int IntKind.i64 0)) fun v10 =>
  Br v10 (
    Cv S.C S.Y yield0 [at4] h2 fun v14 h5 =>
    J0 v14 h5) (
    J0 (Value.bool false) h2)

def F_slices_pdqsortOrdered_api_Loc (S : Sys) (I : Ids) (data0 a1 b2 limit3 : Value) (h : Hp) (R : Value → Hp → Prop) : Prop :=
  Lp5 a1 b2 limit3 (Value.bool true) (Value.bool true) h fun a1_1 b2_1 limit3_1 wasBalanced8 wasPartitioned9 h1 again0 =>
  Vb (bin .sub b2_1 a1_1) fun v21 =>
  Vb (bin .leq v21 (Value.int IntKind.i64 12)) fun v23 =>
  Br v23 (
    S.C I.f_slices_insertionSortOrdered_api_Loc [data0, a1_1, b2_1] h1 fun v27 h2 =>
    R (.tuple #[]) h2) (
    Vb (bin .eql limit3_1 (Value.int IntKind.i64 0)) fun v29 =>
    Br v29 (
      S.C I.f_slices_heapSortOrdered_api_Loc [data0, a1_1, b2_1] h1 fun v33 h3 =>
      R (.tuple #[]) h3) (
      Jn1 (fun limit3_2 h4 =>
          S.C I.f_slices_choosePivotOrdered_api_Loc [data0, a1_1, b2_1] h4 fun v46 h5 =>
          Vb (ext 0 v46) fun v47 =>
          Vb (ext 1 v46) fun v48 =>
          Jn2 (fun pivot11 hint12 h6 =>
              Jn0 (fun h7 =>
                  Jn1 (fun v87 h8 =>
                      Br v87 (
                        S.C I.f_slices_partitionEqualOrdered_api_Loc [data0, a1_1, b2_1, pivot11] h8 fun v92 h9 =>
                        again0 v92 b2_1 limit3_2 wasBalanced8 wasPartitioned9 h9) (
                        S.C I.f_slices_partitionOrdered_api_Loc [data0, a1_1, b2_1, pivot11] h8 fun v99 h10 =>
                        Vb (ext 0 v99) fun v100 =>
                        Vb (ext 1 v99) fun v101 =>
                        Vb (bin .sub v100 a1_1) fun v105 =>
                        Vb (bin .sub b2_1 v100) fun v108 =>
                        Vb (bin .quo v21 (Value.int IntKind.i64 8)) fun v110 =>
                        Vb (bin .lss v105 v108) fun v113 =>
                        Br v113 (
                          Vb (bin .geq v105 v110) fun v116 =>
                          S.C I.f_slices_pdqsortOrdered_api_Loc [data0, a1_1, v100, limit3_2] h10 fun v121 h11 =>
                          Vb (bin .add v100 (Value.int IntKind.i64 1)) fun v123 =>
                          again0 v123 b2_1 limit3_2 v116 v101 h11) (
                          Vb (bin .geq v108 v110) fun v126 =>
                          Vb (bin .add v100 (Value.int IntKind.i64 1)) fun v129 =>
                          S.C I.f_slices_pdqsortOrdered_api_Loc [data0, v129, b2_1, limit3_2] h10 fun v132 h12 =>
                          again0 a1_1 v100 limit3_2 v126 v101 h12))) fun J3 =>
                  Vb (bin .gtr a1_1 (Value.int IntKind.i64 0)) fun v74 =>
                  Br v74 (
                    Vb (bin .sub a1_1 (Value.int IntKind.i64 1)) fun v78 =>
                    Vb (ixs 1 data0 v78) fun v79 =>
                    Vb (ldc v79 h7) fun v80 =>
                    Vb (ixs 1 data0 pivot11) fun v83 =>
                    Vb (ldc v83 h7) fun v84 =>
                    S.C I.f_cmp_Less_api_Loc [v80, v84] h7 fun v85 h13 =>
                    Vb (uno .not v85) fun v86 =>
                    J3 v86 h13) (
                    J3 (Value.bool false) h7)) fun J2 =>
              Jn1 (fun v68 h14 =>
                  Br v68 (
                    S.C I.f_slices_partialInsertionSortOrdered_api_Loc [data0, a1_1, b2_1] h14 fun v72 h15 =>
                    Br v72 (
                      R (.tuple #[]) h15) (
                      J2 h15)) (
                    J2 h14)) fun J4 =>
              Br wasBalanced8 (
                Br wasPartitioned9 (
                  Vb (bin .eql hint12 (Value.int IntKind.i64 1)) fun v67 =>
                  J4 v67 h6) (
                  J4 (Value.bool false) h6)) (
                J4 (Value.bool false) h6)) fun J1 =>
          Vb (bin .eql v48 (Value.int IntKind.i64 2)) fun v50 =>
          Br v50 (
            S.C I.f_slices_reverseRangeOrdered_api_Loc [data0, a1_1, b2_1] h5 fun v54 h16 =>
            Vb (bin .sub b2_1 (Value.int IntKind.i64 1)) fun v56 =>
            Vb (bin .sub v47 a1_1) fun v59 =>
            Vb (bin .sub v56 v59) fun v60 =>
            J1 v60 (Value.int IntKind.i64 1) h16) (
            J1 v47 v48 h5)) fun J0 =>
      Vb (uno .not wasBalanced8) fun v35 =>
      Br v35 (
        S.C I.f_slices_breakPatternsOrdered_api_Loc [data0, a1_1, b2_1] h1 fun v39 h17 =>
        Vb (bin .sub limit3_1 (Value.int IntKind.i64 1)) fun v41 =>
        J0 v41 h17) (
        J0 limit3_1 h1)))

def F_math_bits_Len (S : Sys) (I : Ids) (x0 : Value) (h : Hp) (R : Value → Hp → Prop) : Prop :=
  S.C I.f_math_bits_Len64 [x0] h fun v7 h1 =>
  R v7 h1

def F_space_Space_last (S : Sys) (I : Ids) (s0 at1 : Value) (h : Hp) (R : Value → Hp → Prop) : Prop :=
  Vb (nck s0) fun v7 =>
  Vb (fa 2 v7) fun v8 =>
  Vb (ldc v8 h) fun v9 =>
  Vb (lnS v9) fun v10 =>
  Vb (bin .sub v10 (Value.int IntKind.i64 1)) fun v11 =>
  Lp1 v11 h fun i5 h1 again0 =>
  Vb (bin .geq i5 (Value.int IntKind.i64 0)) fun v13 =>
  Br v13 (
    Vb (nck s0) fun v17 =>
    Vb (fa 2 v17) fun v18 =>
    Vb (ldc v18 h1) fun v19 =>
    Vb (ixs 2 v19 i5) fun v21 =>
    Vb (fa 0 v21) fun v22 =>
    Vb (ldc v22 h1) fun v23 =>
    Vb (bin .eql v23 at1) fun v25 =>
    Br v25 (
      R i5 h1) (
      Vb (bin .sub i5 (Value.int IntKind.i64 1)) fun v15 =>
      again0 v15 h1)) (
    R (Value.int IntKind.i64 (-1)) h1)

def F_entry_wrong (S : Sys) (I : Ids) (x0 : Value) (h : Hp) (R : Value → Hp → Prop) : Prop :=
  Eb (nw (Value.cells x0) I.t_api_Entry h) fun x1 h1 =>
  Jn1 (fun v3 h2 =>
      Br v3 (
        R (Value.int IntKind.i64 3) h2) (
        Vb (fa 1 x1) fun v13 =>
        Vb (lda 3 v13 h2) fun v14 =>
        S.C I.f_word_Plain [v14] h2 fun v15 h3 =>
        Vb (uno .not v15) fun v16 =>
        Br v16 (
          R (Value.int IntKind.i64 13) h3) (
          Jn1 (fun v17 h4 =>
              Br v17 (
                R (Value.int IntKind.i64 9) h4) (
                Jn1 (fun v26 h5 =>
                    Br v26 (
                      R (Value.int IntKind.i64 4) h5) (
                      R (Value.int IntKind.i64 0) h5)) fun J2 =>
                Vb (fa 5 x1) fun v27 =>
                Vb (ldc v27 h4) fun v28 =>
                Vb (uno .not v28) fun v29 =>
                Br v29 (
                  Vb (fa 4 x1) fun v31 =>
                  Vb (ldc v31 h4) fun v32 =>
                  Vb (fa 1 x1) fun v33 =>
                  Vb (fa 0 v33) fun v34 =>
                  Vb (ldc v34 h4) fun v35 =>
                  Vb (bin .neq v32 v35) fun v36 =>
                  J2 v36 h4) (
                  J2 (Value.bool false) h4))) fun J1 =>
          Vb (fa 5 x1) fun v18 =>
          Vb (ldc v18 h3) fun v19 =>
          Br v19 (
            Vb (fa 1 x1) fun v21 =>
            Vb (fa 1 v21) fun v22 =>
            Vb (ldc v22 h3) fun v23 =>
            Vb (bin .eql v23 (Value.int IntKind.u32 4294967295)) fun v24 =>
            J1 v24 h3) (
            J1 (Value.bool false) h3)))) fun J0 =>
  Vb (fa 0 x1) fun v4 =>
  Vb (ldc v4 h1) fun v5 =>
  Vb (bin .lss v5 (Value.int IntKind.i64 0)) fun v6 =>
  Br v6 (
    J0 (Value.bool true) h1) (
    Vb (fa 0 x1) fun v8 =>
    Vb (ldc v8 h1) fun v9 =>
    Vb (bin .geq v9 (Value.int IntKind.i64 4096)) fun v10 =>
    J0 v10 h1)

def F_slices_ContainsFunc_api_Entry_api_Entry (S : Sys) (I : Ids) (s0 f1 : Value) (h : Hp) (R : Value → Hp → Prop) : Prop :=
  S.C I.f_slices_IndexFunc_api_Entry_api_Entry [s0, f1] h fun v7 h1 =>
  Vb (bin .geq v7 (Value.int IntKind.i64 0)) fun v8 =>
  R v8 h1

def F_entry_Check_1 (S : Sys) (I : Ids) (y0 v1 : Value) (h : Hp) (R : Value → Hp → Prop) : Prop :=
  Eb (nw (Value.cells y0) I.t_api_Entry h) fun y2 h1 =>
  Vb (fa 0 y2) fun v4 =>
  Vb (ldc v4 h1) fun v5 =>
  Vb (fa 0 v1) fun v6 =>
  Vb (ldc v6 h1) fun v7 =>
  Vb (bin .eql v5 v7) fun v8 =>
  R v8 h1

def F_simulcastref30_touch (S : Sys) (I : Ids) (s0 at1 : Value) (h : Hp) (R : Value → Hp → Prop) : Prop :=
  Eb (nw (Value.cells s0) I.t_simulcastref30_Space h) fun s2 h1 =>
  Eb (nw #[Value.slice none 0 0, Value.slice none 0 0, Value.slice none 0 0, Value.bool false, Value.int IntKind.i64 0] I.t_simulcastref30_Space h1) fun v4 h2 =>
  Vb (fa 3 s2) fun v10 =>
  Vb (ldc v10 h2) fun v11 =>
  Br v11 (
    Vb (lda 5 s2 h2) fun v12 =>
    Sb (sto 5 v4 v12 h2) fun h3 =>
    Vb (lda 5 v4 h3) fun r0 =>
    R r0 h3) (
    Vb (lda 5 s2 h2) fun v14 =>
    S.C I.f_simulcastref30_find [v14, at1] h2 fun v16 h4 =>
    Vb (ext 0 v16) fun v17 =>
    Vb (ext 1 v16) fun v18 =>
    Eb (nw #[Value.int IntKind.i64 0, Value.int IntKind.u32 0, Value.int IntKind.u32 0] I.t_api_Word h4) fun v5 h5 =>
    Sb (sto 3 v5 v17 h5) fun h6 =>
    Vb (uno .not v18) fun v20 =>
    Br v20 (
      Vb (fa 3 s2) fun v22 =>
      Sb (sto 1 v22 (Value.bool true) h6) fun h7 =>
      Vb (fa 4 s2) fun v23 =>
      Sb (sto 1 v23 at1 h7) fun h8 =>
      Vb (lda 5 s2 h8) fun v24 =>
      Sb (sto 5 v4 v24 h8) fun h9 =>
      Vb (lda 5 v4 h9) fun r0 =>
      R r0 h9) (
      Lp3 (Value.slice none 0 0) (Value.bool false) (Value.int IntKind.i64 0) h6 fun out7 put8 i9 h10 again0 =>
      Vb (fa 1 s2) fun v26 =>
      Vb (ldc v26 h10) fun v27 =>
      Vb (lnS v27) fun v28 =>
      Vb (bin .lss i9 v28) fun v29 =>
      Br v29 (
        Vb (fa 1 s2) fun v32 =>
        Vb (ldc v32 h10) fun v33 =>
        Vb (ixs 1 v33 i9) fun v35 =>
        Vb (ldc v35 h10) fun v36 =>
        Vb (bin .eql v36 at1) fun v38 =>
        Br v38 (
          Vb (lda 5 s2 h10) fun v39 =>
          Sb (sto 5 v4 v39 h10) fun h11 =>
          Vb (lda 5 v4 h11) fun r0 =>
          R r0 h11) (
          Jn2 (fun out7_1 put8_1 h12 =>
              Vb (fa 1 s2) fun v56 =>
              Vb (ldc v56 h12) fun v57 =>
              Vb (ixs 1 v57 i9) fun v59 =>
              Vb (ldc v59 h12) fun v60 =>
              Eb (bsl #[Value.int IntKind.i64 0] 1 1 I.t_api_Loc [(0, v60)] h12) fun v61 h13 =>
              Ap I.t_api_Loc #[Value.int IntKind.i64 0] 1 8 out7_1 v61 h13 fun v62 h14 =>
              Vb (bin .add i9 (Value.int IntKind.i64 1)) fun v31 =>
              again0 v62 put8_1 v31 h14) fun J0 =>
          Jn1 (fun v50 h15 =>
              Br v50 (
                Eb (bsl #[Value.int IntKind.i64 0] 1 1 I.t_api_Loc [(0, at1)] h15) fun v53 h16 =>
                Ap I.t_api_Loc #[Value.int IntKind.i64 0] 1 8 out7 v53 h16 fun v54 h17 =>
                J0 v54 (Value.bool true) h17) (
                J0 out7 put8 h15)) fun J1 =>
          Vb (fa 1 s2) fun v40 =>
          Vb (ldc v40 h10) fun v41 =>
          Vb (ixs 1 v41 i9) fun v43 =>
          Vb (ldc v43 h10) fun v44 =>
          Vb (bin .gtr v44 at1) fun v46 =>
          Br v46 (
            Vb (uno .not put8) fun v49 =>
            J1 v49 h10) (
            J1 (Value.bool false) h10))) (
        Jn1 (fun out7_2 h18 =>
            Vb (fa 1 s2) fun v70 =>
            Sb (sto 1 v70 out7_2 h18) fun h19 =>
            Vb (lda 5 s2 h19) fun v71 =>
            Sb (sto 5 v4 v71 h19) fun h20 =>
            Vb (lda 5 v4 h20) fun r0 =>
            R r0 h20) fun J2 =>
        Vb (uno .not put8) fun v64 =>
        Br v64 (
          Eb (bsl #[Value.int IntKind.i64 0] 1 1 I.t_api_Loc [(0, at1)] h10) fun v67 h21 =>
          Ap I.t_api_Loc #[Value.int IntKind.i64 0] 1 8 out7 v67 h21 fun v68 h22 =>
          J2 v68 h22) (
          J2 out7 h10))))

def F_simulcastref30_has (S : Sys) (I : Ids) (s0 at1 : Value) (h : Hp) (R : Value → Hp → Prop) : Prop :=
  Eb (nw (Value.cells s0) I.t_simulcastref30_Space h) fun s2 h1 =>
  Vb (lda 5 s2 h1) fun v10 =>
  S.C I.f_simulcastref30_find [v10, at1] h1 fun v12 h2 =>
  Vb (ext 0 v12) fun v13 =>
  Vb (ext 1 v12) fun v14 =>
  Eb (nw #[Value.int IntKind.i64 0, Value.int IntKind.u32 0, Value.int IntKind.u32 0] I.t_api_Word h2) fun w5 h3 =>
  Sb (sto 3 w5 v13 h3) fun h4 =>
  Vb (fa 0 w5) fun v15 =>
  Vb (ldc v15 h4) fun v16 =>
  Lp2 v16 (Value.int IntKind.i64 0) h4 fun v7 i8 h5 again0 =>
  Vb (fa 2 s2) fun v18 =>
  Vb (ldc v18 h5) fun v19 =>
  Vb (lnS v19) fun v20 =>
  Vb (bin .lss i8 v20) fun v21 =>
  Br v21 (
    Jn1 (fun v7_1 h6 =>
        Vb (bin .add i8 (Value.int IntKind.i64 1)) fun v23 =>
        again0 v7_1 v23 h6) fun J0 =>
    Vb (fa 2 s2) fun v24 =>
    Vb (ldc v24 h5) fun v25 =>
    Vb (ixs 2 v25 i8) fun v27 =>
    Vb (fa 0 v27) fun v28 =>
    Vb (ldc v28 h5) fun v29 =>
    Vb (bin .eql v29 at1) fun v31 =>
    Br v31 (
      Vb (fa 2 s2) fun v32 =>
      Vb (ldc v32 h5) fun v33 =>
      Vb (ixs 2 v33 i8) fun v35 =>
      Vb (fa 1 v35) fun v36 =>
      Vb (ldc v36 h5) fun v37 =>
      J0 v37 h5) (
      J0 v7 h5)) (
    R v7 h5)

def F_slices_insertionSortOrdered_api_Loc (S : Sys) (I : Ids) (data0 a1 b2 : Value) (h : Hp) (R : Value → Hp → Prop) : Prop :=
  Vb (bin .add a1 (Value.int IntKind.i64 1)) fun v9 =>
  Lp1 v9 h fun i6 h1 again0 =>
  Vb (bin .lss i6 b2) fun v12 =>
  Br v12 (
    Lp1 i6 h1 fun j7 h2 again1 =>
    Jn1 (fun v30 h3 =>
        Br v30 (
          Vb (bin .sub j7 (Value.int IntKind.i64 1)) fun v37 =>
          Vb (bin .sub j7 (Value.int IntKind.i64 1)) fun v40 =>
          Vb (ixs 1 data0 v40) fun v41 =>
          Vb (ldc v41 h3) fun v42 =>
          Vb (ixs 1 data0 j7) fun v45 =>
          Vb (ldc v45 h3) fun v46 =>
          Vb (ixs 1 data0 j7) fun v47 =>
          Sb (sto 1 v47 v42 h3) fun h4 =>
          Vb (ixs 1 data0 v37) fun v48 =>
          Sb (sto 1 v48 v46 h4) fun h5 =>
          Vb (bin .sub j7 (Value.int IntKind.i64 1)) fun v32 =>
          again1 v32 h5) (
          Vb (bin .add i6 (Value.int IntKind.i64 1)) fun v14 =>
          again0 v14 h3)) fun J0 =>
    Vb (bin .gtr j7 a1) fun v18 =>
    Br v18 (
      Vb (ixs 1 data0 j7) fun v22 =>
      Vb (ldc v22 h2) fun v23 =>
      Vb (bin .sub j7 (Value.int IntKind.i64 1)) fun v26 =>
      Vb (ixs 1 data0 v26) fun v27 =>
      Vb (ldc v27 h2) fun v28 =>
      S.C I.f_cmp_Less_api_Loc [v23, v28] h2 fun v29 h6 =>
      J0 v29 h6) (
      J0 (Value.bool false) h2)) (
    R (.tuple #[]) h1)

def F_slices_heapSortOrdered_api_Loc (S : Sys) (I : Ids) (data0 a1 b2 : Value) (h : Hp) (R : Value → Hp → Prop) : Prop :=
  Vb (bin .sub b2 a1) fun v14 =>
  Vb (bin .sub v14 (Value.int IntKind.i64 1)) fun v16 =>
  Vb (bin .quo v16 (Value.int IntKind.i64 2)) fun v17 =>
  Lp1 v17 h fun i9 h1 again0 =>
  Vb (bin .geq i9 (Value.int IntKind.i64 0)) fun v19 =>
  Br v19 (
    S.C I.f_slices_siftDownOrdered_api_Loc [data0, i9, v14, a1] h1 fun v26 h2 =>
    Vb (bin .sub i9 (Value.int IntKind.i64 1)) fun v21 =>
    again0 v21 h2) (
    Vb (bin .sub v14 (Value.int IntKind.i64 1)) fun v28 =>
    Lp1 v28 h1 fun i10 h3 again1 =>
    Vb (bin .geq i10 (Value.int IntKind.i64 0)) fun v30 =>
    Br v30 (
      Vb (bin .add a1 i10) fun v38 =>
      Vb (bin .add a1 i10) fun v42 =>
      Vb (ixs 1 data0 v42) fun v43 =>
      Vb (ldc v43 h3) fun v44 =>
      Vb (ixs 1 data0 a1) fun v47 =>
      Vb (ldc v47 h3) fun v48 =>
      Vb (ixs 1 data0 a1) fun v49 =>
      Sb (sto 1 v49 v44 h3) fun h4 =>
      Vb (ixs 1 data0 v38) fun v50 =>
      Sb (sto 1 v50 v48 h4) fun h5 =>
      S.C I.f_slices_siftDownOrdered_api_Loc [data0, (Value.int IntKind.i64 0), i10, a1] h5 fun v55 h6 =>
      Vb (bin .sub i10 (Value.int IntKind.i64 1)) fun v32 =>
      again1 v32 h6) (
      R (.tuple #[]) h3))

def F_slices_breakPatternsOrdered_api_Loc (S : Sys) (I : Ids) (data0 a1 b2 : Value) (h : Hp) (R : Value → Hp → Prop) : Prop :=
  Vb (bin .sub b2 a1) fun v13 =>
  Vb (bin .geq v13 (Value.int IntKind.i64 8)) fun v15 =>
  Br v15 (
    Vb (cvi .u64 v13) fun v17 =>
    Eb (nw #[Value.int IntKind.u64 0] I.t_slices_xorshift h) fun random7 h1 =>
    Sb (sto 1 random7 v17 h1) fun h2 =>
    S.C I.f_slices_nextPowerOfTwo [v13] h2 fun v19 h3 =>
    Vb (bin .quo v13 (Value.int IntKind.i64 4)) fun v22 =>
    Vb (bin .mul v22 (Value.int IntKind.i64 2)) fun v23 =>
    Vb (bin .add a1 v23) fun v24 =>
    Vb (bin .sub v24 (Value.int IntKind.i64 1)) fun v25 =>
    Lp1 v25 h3 fun idx9 h4 again0 =>
    Vb (bin .quo v13 (Value.int IntKind.i64 4)) fun v29 =>
    Vb (bin .mul v29 (Value.int IntKind.i64 2)) fun v30 =>
    Vb (bin .add a1 v30) fun v31 =>
    Vb (bin .add v31 (Value.int IntKind.i64 1)) fun v32 =>
    Vb (bin .leq idx9 v32) fun v33 =>
    Br v33 (
      S.C I.f_slices_xorshift_Next [random7] h4 fun v36 h5 =>
      Vb (bin .sub v19 (Value.int IntKind.u64 1)) fun v38 =>
      Vb (bin .and v36 v38) fun v39 =>
      Vb (cvi .i64 v39) fun v40 =>
      Jn1 (fun other10 h6 =>
          Vb (bin .add a1 other10) fun v52 =>
          Vb (bin .add a1 other10) fun v56 =>
          Vb (ixs 1 data0 v56) fun v57 =>
          Vb (ldc v57 h6) fun v58 =>
          Vb (ixs 1 data0 idx9) fun v61 =>
          Vb (ldc v61 h6) fun v62 =>
          Vb (ixs 1 data0 idx9) fun v63 =>
          Sb (sto 1 v63 v58 h6) fun h7 =>
          Vb (ixs 1 data0 v52) fun v64 =>
          Sb (sto 1 v64 v62 h7) fun h8 =>
          Vb (bin .add idx9 (Value.int IntKind.i64 1)) fun v35 =>
          again0 v35 h8) fun J0 =>
      Vb (bin .geq v40 v13) fun v43 =>
      Br v43 (
        Vb (bin .sub v40 v13) fun v46 =>
        J0 v46 h5) (
        J0 v40 h5)) (
      R (.tuple #[]) h4)) (
    R (.tuple #[]) h)

def F_slices_choosePivotOrdered_api_Loc (S : Sys) (I : Ids) (data0 a1 b2 : Value) (h : Hp) (R : Value → Hp → Prop) : Prop :=
  Vb (bin .sub b2 a1) fun v15 =>
  Eb (nw #[Value.int IntKind.i64 0] I.t_int h) fun swaps9 h1 =>
  Vb (bin .quo v15 (Value.int IntKind.i64 4)) fun v18 =>
  Vb (bin .mul v18 (Value.int IntKind.i64 1)) fun v19 =>
  Vb (bin .add a1 v19) fun v20 =>
  Vb (bin .quo v15 (Value.int IntKind.i64 4)) fun v23 =>
  Vb (bin .mul v23 (Value.int IntKind.i64 2)) fun v24 =>
  Vb (bin .add a1 v24) fun v25 =>
  Vb (bin .quo v15 (Value.int IntKind.i64 4)) fun v28 =>
  Vb (bin .mul v28 (Value.int IntKind.i64 3)) fun v29 =>
  Vb (bin .add a1 v29) fun v30 =>
  Jn1 (fun j11 h2 =>
      Vb (ldc swaps9 h2) fun v49 =>
      Vb (bin .eql v49 (Value.int IntKind.i64 0)) fun v52 =>
      Br v52 (
        R (.tuple #[j11, (Value.int IntKind.i64 1)]) h2) (
        Vb (bin .eql v49 (Value.int IntKind.i64 12)) fun v55 =>
        Br v55 (
          R (.tuple #[j11, (Value.int IntKind.i64 2)]) h2) (
          R (.tuple #[j11, (Value.int IntKind.i64 0)]) h2))) fun J0 =>
  Vb (bin .geq v15 (Value.int IntKind.i64 8)) fun v32 =>
  Br v32 (
    Jn3 (fun i10 j11_1 k12 h3 =>
        S.C I.f_slices_medianOrdered_api_Loc [data0, i10, j11_1, k12, swaps9] h3 fun v48 h4 =>
        J0 v48 h4) fun J1 =>
    Vb (bin .geq v15 (Value.int IntKind.i64 50)) fun v34 =>
    Br v34 (
      S.C I.f_slices_medianAdjacentOrdered_api_Loc [data0, v20, swaps9] h1 fun v37 h5 =>
      S.C I.f_slices_medianAdjacentOrdered_api_Loc [data0, v25, swaps9] h5 fun v40 h6 =>
      S.C I.f_slices_medianAdjacentOrdered_api_Loc [data0, v30, swaps9] h6 fun v43 h7 =>
      J1 v37 v40 v43 h7) (
      J1 v20 v25 v30 h1)) (
    J0 v25 h1)

def F_slices_reverseRangeOrdered_api_Loc (S : Sys) (I : Ids) (data0 a1 b2 : Value) (h : Hp) (R : Value → Hp → Prop) : Prop :=
  Vb (bin .sub b2 (Value.int IntKind.i64 1)) fun v10 =>
  Lp2 a1 v10 h fun i6 j7 h1 again0 =>
  Vb (bin .lss i6 j7) fun v13 =>
  Br v13 (
    Vb (ixs 1 data0 j7) fun v20 =>
    Vb (ldc v20 h1) fun v21 =>
    Vb (ixs 1 data0 i6) fun v24 =>
    Vb (ldc v24 h1) fun v25 =>
    Vb (ixs 1 data0 i6) fun v26 =>
    Sb (sto 1 v26 v21 h1) fun h2 =>
    Vb (ixs 1 data0 j7) fun v27 =>
    Sb (sto 1 v27 v25 h2) fun h3 =>
    Vb (bin .add i6 (Value.int IntKind.i64 1)) fun v29 =>
    Vb (bin .sub j7 (Value.int IntKind.i64 1)) fun v31 =>
    again0 v29 v31 h3) (
    R (.tuple #[]) h1)

def F_slices_partialInsertionSortOrdered_api_Loc (S : Sys) (I : Ids) (data0 a1 b2 : Value) (h : Hp) (R : Value → Hp → Prop) : Prop :=
  Vb (bin .add a1 (Value.int IntKind.i64 1)) fun v12 =>
  Lp2 v12 (Value.int IntKind.i64 0) h fun i7 j8 h1 again0 =>
  Vb (bin .lss j8 (Value.int IntKind.i64 5)) fun v14 =>
  Br v14 (
    Jn1 (fun i7_1 h2 =>
        Vb (bin .add j8 (Value.int IntKind.i64 1)) fun v16 =>
        again0 i7_1 v16 h2) fun J0 =>
    Lp1 i7 h1 fun i7_2 h3 again1 =>
    Jn1 (fun v32 h4 =>
        Br v32 (
          Vb (bin .add i7_2 (Value.int IntKind.i64 1)) fun v34 =>
          again1 v34 h4) (
          Vb (bin .eql i7_2 b2) fun v37 =>
          Br v37 (
            R (Value.bool true) h4) (
            Vb (bin .sub b2 a1) fun v40 =>
            Vb (bin .lss v40 (Value.int IntKind.i64 50)) fun v41 =>
            Br v41 (
              R (Value.bool false) h4) (
              Vb (bin .sub i7_2 (Value.int IntKind.i64 1)) fun v46 =>
              Vb (bin .sub i7_2 (Value.int IntKind.i64 1)) fun v49 =>
              Vb (ixs 1 data0 v49) fun v50 =>
              Vb (ldc v50 h4) fun v51 =>
              Vb (ixs 1 data0 i7_2) fun v54 =>
              Vb (ldc v54 h4) fun v55 =>
              Vb (ixs 1 data0 i7_2) fun v56 =>
              Sb (sto 1 v56 v51 h4) fun h5 =>
              Vb (ixs 1 data0 v46) fun v57 =>
              Sb (sto 1 v57 v55 h5) fun h6 =>
              Jn0 (fun h7 =>
                  Vb (bin .sub b2 i7_2) fun v97 =>
                  Vb (bin .geq v97 (Value.int IntKind.i64 2)) fun v98 =>
                  Br v98 (
                    Vb (bin .add i7_2 (Value.int IntKind.i64 1)) fun v100 =>
                    Lp1 v100 h7 fun j10 h8 again2 =>
                    Vb (bin .lss j10 b2) fun v103 =>
                    Br v103 (
                      Vb (ixs 1 data0 j10) fun v108 =>
                      Vb (ldc v108 h8) fun v109 =>
                      Vb (bin .sub j10 (Value.int IntKind.i64 1)) fun v112 =>
                      Vb (ixs 1 data0 v112) fun v113 =>
                      Vb (ldc v113 h8) fun v114 =>
                      S.C I.f_cmp_Less_api_Loc [v109, v114] h8 fun v115 h9 =>
                      Vb (uno .not v115) fun v116 =>
                      Br v116 (
                        J0 i7_2 h9) (
                        Vb (bin .sub j10 (Value.int IntKind.i64 1)) fun v121 =>
                        Vb (bin .sub j10 (Value.int IntKind.i64 1)) fun v124 =>
                        Vb (ixs 1 data0 v124) fun v125 =>
                        Vb (ldc v125 h9) fun v126 =>
                        Vb (ixs 1 data0 j10) fun v129 =>
                        Vb (ldc v129 h9) fun v130 =>
                        Vb (ixs 1 data0 j10) fun v131 =>
                        Sb (sto 1 v131 v126 h9) fun h10 =>
                        Vb (ixs 1 data0 v121) fun v132 =>
                        Sb (sto 1 v132 v130 h10) fun h11 =>
                        Vb (bin .add j10 (Value.int IntKind.i64 1)) fun v105 =>
                        again2 v105 h11)) (
                      J0 i7_2 h8)) (
                    J0 i7_2 h7)) fun J2 =>
              Vb (bin .sub i7_2 a1) fun v60 =>
              Vb (bin .geq v60 (Value.int IntKind.i64 2)) fun v61 =>
              Br v61 (
                Vb (bin .sub i7_2 (Value.int IntKind.i64 1)) fun v63 =>
                Lp1 v63 h6 fun j9 h12 again3 =>
                Vb (bin .geq j9 (Value.int IntKind.i64 1)) fun v65 =>
                Br v65 (
                  Vb (ixs 1 data0 j9) fun v70 =>
                  Vb (ldc v70 h12) fun v71 =>
                  Vb (bin .sub j9 (Value.int IntKind.i64 1)) fun v74 =>
                  Vb (ixs 1 data0 v74) fun v75 =>
                  Vb (ldc v75 h12) fun v76 =>
                  S.C I.f_cmp_Less_api_Loc [v71, v76] h12 fun v77 h13 =>
                  Vb (uno .not v77) fun v78 =>
                  Br v78 (
                    J2 h13) (
                    Vb (bin .sub j9 (Value.int IntKind.i64 1)) fun v83 =>
                    Vb (bin .sub j9 (Value.int IntKind.i64 1)) fun v86 =>
                    Vb (ixs 1 data0 v86) fun v87 =>
                    Vb (ldc v87 h13) fun v88 =>
                    Vb (ixs 1 data0 j9) fun v91 =>
                    Vb (ldc v91 h13) fun v92 =>
                    Vb (ixs 1 data0 j9) fun v93 =>
                    Sb (sto 1 v93 v88 h13) fun h14 =>
                    Vb (ixs 1 data0 v83) fun v94 =>
                    Sb (sto 1 v94 v92 h14) fun h15 =>
                    Vb (bin .sub j9 (Value.int IntKind.i64 1)) fun v67 =>
                    again3 v67 h15)) (
                  J2 h12)) (
                J2 h6))))) fun J1 =>
    Vb (bin .lss i7_2 b2) fun v19 =>
    Br v19 (
      Vb (ixs 1 data0 i7_2) fun v23 =>
      Vb (ldc v23 h3) fun v24 =>
      Vb (bin .sub i7_2 (Value.int IntKind.i64 1)) fun v27 =>
      Vb (ixs 1 data0 v27) fun v28 =>
      Vb (ldc v28 h3) fun v29 =>
      S.C I.f_cmp_Less_api_Loc [v24, v29] h3 fun v30 h16 =>
      Vb (uno .not v30) fun v31 =>
      J1 v31 h16) (
      J1 (Value.bool false) h3)) (
    R (Value.bool false) h1)

def F_cmp_Less_api_Loc (S : Sys) (I : Ids) (x0 y1 : Value) (h : Hp) (R : Value → Hp → Prop) : Prop :=
  Jn1 (fun v4 h1 =>
      R v4 h1) fun J0 =>
  S.C I.f_cmp_isNaN_api_Loc [x0] h fun v6 h2 =>
  Br v6 (
    S.C I.f_cmp_isNaN_api_Loc [y1] h2 fun v9 h3 =>
    Vb (uno .not v9) fun v10 =>
    Br v10 (
      J0 (Value.bool true) h3) (
      Vb (bin .lss x0 y1) fun v15 =>
      J0 v15 h3)) (
    Vb (bin .lss x0 y1) fun v15_1 =>
    J0 v15_1 h2)

def F_slices_partitionEqualOrdered_api_Loc (S : Sys) (I : Ids) (data0 a1 b2 pivot3 : Value) (h : Hp) (R : Value → Hp → Prop) : Prop :=
  Vb (ixs 1 data0 pivot3) fun v17 =>
  Vb (ldc v17 h) fun v18 =>
  Vb (ixs 1 data0 a1) fun v21 =>
  Vb (ldc v21 h) fun v22 =>
  Vb (ixs 1 data0 a1) fun v23 =>
  Sb (sto 1 v23 v18 h) fun h1 =>
  Vb (ixs 1 data0 pivot3) fun v24 =>
  Sb (sto 1 v24 v22 h1) fun h2 =>
  Vb (bin .add a1 (Value.int IntKind.i64 1)) fun v26 =>
  Vb (bin .sub b2 (Value.int IntKind.i64 1)) fun v28 =>
  Lp2 v26 v28 h2 fun i9 j10 h3 again0 =>
  Lp1 i9 h3 fun i9_1 h4 again1 =>
  Jn1 (fun v43 h5 =>
      Br v43 (
        Vb (bin .add i9_1 (Value.int IntKind.i64 1)) fun v45 =>
        again1 v45 h5) (
        Lp1 j10 h5 fun j10_1 h6 again2 =>
        Jn1 (fun v59 h7 =>
            Br v59 (
              Vb (bin .sub j10_1 (Value.int IntKind.i64 1)) fun v61 =>
              again2 v61 h7) (
              Vb (bin .gtr i9_1 j10_1) fun v64 =>
              Br v64 (
                R i9_1 h7) (
                Vb (ixs 1 data0 j10_1) fun v71 =>
                Vb (ldc v71 h7) fun v72 =>
                Vb (ixs 1 data0 i9_1) fun v75 =>
                Vb (ldc v75 h7) fun v76 =>
                Vb (ixs 1 data0 i9_1) fun v77 =>
                Sb (sto 1 v77 v72 h7) fun h8 =>
                Vb (ixs 1 data0 j10_1) fun v78 =>
                Sb (sto 1 v78 v76 h8) fun h9 =>
                Vb (bin .add i9_1 (Value.int IntKind.i64 1)) fun v80 =>
                Vb (bin .sub j10_1 (Value.int IntKind.i64 1)) fun v82 =>
                again0 v80 v82 h9))) fun J1 =>
        Vb (bin .leq i9_1 j10_1) fun v48 =>
        Br v48 (
          Vb (ixs 1 data0 a1) fun v52 =>
          Vb (ldc v52 h6) fun v53 =>
          Vb (ixs 1 data0 j10_1) fun v56 =>
          Vb (ldc v56 h6) fun v57 =>
          S.C I.f_cmp_Less_api_Loc [v53, v57] h6 fun v58 h10 =>
          J1 v58 h10) (
          J1 (Value.bool false) h6))) fun J0 =>
  Vb (bin .leq i9_1 j10) fun v31 =>
  Br v31 (
    Vb (ixs 1 data0 a1) fun v35 =>
    Vb (ldc v35 h4) fun v36 =>
    Vb (ixs 1 data0 i9_1) fun v39 =>
    Vb (ldc v39 h4) fun v40 =>
    S.C I.f_cmp_Less_api_Loc [v36, v40] h4 fun v41 h11 =>
    Vb (uno .not v41) fun v42 =>
    J0 v42 h11) (
    J0 (Value.bool false) h4)

def F_slices_partitionOrdered_api_Loc (S : Sys) (I : Ids) (data0 a1 b2 pivot3 : Value) (h : Hp) (R : Value → Hp → Prop) : Prop :=
  Vb (ixs 1 data0 pivot3) fun v18 =>
  Vb (ldc v18 h) fun v19 =>
  Vb (ixs 1 data0 a1) fun v22 =>
  Vb (ldc v22 h) fun v23 =>
  Vb (ixs 1 data0 a1) fun v24 =>
  Sb (sto 1 v24 v19 h) fun h1 =>
  Vb (ixs 1 data0 pivot3) fun v25 =>
  Sb (sto 1 v25 v23 h1) fun h2 =>
  Vb (bin .add a1 (Value.int IntKind.i64 1)) fun v27 =>
  Vb (bin .sub b2 (Value.int IntKind.i64 1)) fun v29 =>
  Lp1 v27 h2 fun i10 h3 again0 =>
  Jn1 (fun v43 h4 =>
      Br v43 (
        Vb (bin .add i10 (Value.int IntKind.i64 1)) fun v45 =>
        again0 v45 h4) (
        Lp1 v29 h4 fun j11 h5 again1 =>
        Jn1 (fun v60 h6 =>
            Br v60 (
              Vb (bin .sub j11 (Value.int IntKind.i64 1)) fun v62 =>
              again1 v62 h6) (
              Vb (bin .gtr i10 j11) fun v65 =>
              Br v65 (
                Vb (ixs 1 data0 a1) fun v72 =>
                Vb (ldc v72 h6) fun v73 =>
                Vb (ixs 1 data0 j11) fun v76 =>
                Vb (ldc v76 h6) fun v77 =>
                Vb (ixs 1 data0 j11) fun v78 =>
                Sb (sto 1 v78 v73 h6) fun h7 =>
                Vb (ixs 1 data0 a1) fun v79 =>
                Sb (sto 1 v79 v77 h7) fun h8 =>
                R (.tuple #[j11, (Value.bool true)]) h8) (
                Vb (ixs 1 data0 j11) fun v87 =>
                Vb (ldc v87 h6) fun v88 =>
                Vb (ixs 1 data0 i10) fun v91 =>
                Vb (ldc v91 h6) fun v92 =>
                Vb (ixs 1 data0 i10) fun v93 =>
                Sb (sto 1 v93 v88 h6) fun h9 =>
                Vb (ixs 1 data0 j11) fun v94 =>
                Sb (sto 1 v94 v92 h9) fun h10 =>
                Vb (bin .add i10 (Value.int IntKind.i64 1)) fun v96 =>
                Vb (bin .sub j11 (Value.int IntKind.i64 1)) fun v98 =>
                Lp2 v96 v98 h10 fun i10_1 j11_1 h11 again2 =>
                Lp1 i10_1 h11 fun i10_2 h12 again3 =>
                Jn1 (fun v112 h13 =>
                    Br v112 (
                      Vb (bin .add i10_2 (Value.int IntKind.i64 1)) fun v114 =>
                      again3 v114 h13) (
                      Lp1 j11_1 h13 fun j11_2 h14 again4 =>
                      Jn1 (fun v129 h15 =>
                          Br v129 (
                            Vb (bin .sub j11_2 (Value.int IntKind.i64 1)) fun v131 =>
                            again4 v131 h15) (
                            Vb (bin .gtr i10_2 j11_2) fun v134 =>
                            Br v134 (
                              Vb (ixs 1 data0 a1) fun v159 =>
                              Vb (ldc v159 h15) fun v160 =>
                              Vb (ixs 1 data0 j11_2) fun v163 =>
                              Vb (ldc v163 h15) fun v164 =>
                              Vb (ixs 1 data0 j11_2) fun v165 =>
                              Sb (sto 1 v165 v160 h15) fun h16 =>
                              Vb (ixs 1 data0 a1) fun v166 =>
                              Sb (sto 1 v166 v164 h16) fun h17 =>
                              R (.tuple #[j11_2, (Value.bool false)]) h17) (
                              Vb (ixs 1 data0 j11_2) fun v141 =>
                              Vb (ldc v141 h15) fun v142 =>
                              Vb (ixs 1 data0 i10_2) fun v145 =>
                              Vb (ldc v145 h15) fun v146 =>
                              Vb (ixs 1 data0 i10_2) fun v147 =>
                              Sb (sto 1 v147 v142 h15) fun h18 =>
                              Vb (ixs 1 data0 j11_2) fun v148 =>
                              Sb (sto 1 v148 v146 h18) fun h19 =>
                              Vb (bin .add i10_2 (Value.int IntKind.i64 1)) fun v150 =>
                              Vb (bin .sub j11_2 (Value.int IntKind.i64 1)) fun v152 =>
                              again2 v150 v152 h19))) fun J3 =>
                      Vb (bin .leq i10_2 j11_2) fun v117 =>
                      Br v117 (
                        Vb (ixs 1 data0 j11_2) fun v121 =>
                        Vb (ldc v121 h14) fun v122 =>
                        Vb (ixs 1 data0 a1) fun v125 =>
                        Vb (ldc v125 h14) fun v126 =>
                        S.C I.f_cmp_Less_api_Loc [v122, v126] h14 fun v127 h20 =>
                        Vb (uno .not v127) fun v128 =>
                        J3 v128 h20) (
                        J3 (Value.bool false) h14))) fun J2 =>
                Vb (bin .leq i10_2 j11_1) fun v101 =>
                Br v101 (
                  Vb (ixs 1 data0 i10_2) fun v105 =>
                  Vb (ldc v105 h12) fun v106 =>
                  Vb (ixs 1 data0 a1) fun v109 =>
                  Vb (ldc v109 h12) fun v110 =>
                  S.C I.f_cmp_Less_api_Loc [v106, v110] h12 fun v111 h21 =>
                  J2 v111 h21) (
                  J2 (Value.bool false) h12)))) fun J1 =>
        Vb (bin .leq i10 j11) fun v48 =>
        Br v48 (
          Vb (ixs 1 data0 j11) fun v52 =>
          Vb (ldc v52 h5) fun v53 =>
          Vb (ixs 1 data0 a1) fun v56 =>
          Vb (ldc v56 h5) fun v57 =>
          S.C I.f_cmp_Less_api_Loc [v53, v57] h5 fun v58 h22 =>
          Vb (uno .not v58) fun v59 =>
          J1 v59 h22) (
          J1 (Value.bool false) h5))) fun J0 =>
  Vb (bin .leq i10 v29) fun v32 =>
  Br v32 (
    Vb (ixs 1 data0 i10) fun v36 =>
    Vb (ldc v36 h3) fun v37 =>
    Vb (ixs 1 data0 a1) fun v40 =>
    Vb (ldc v40 h3) fun v41 =>
    S.C I.f_cmp_Less_api_Loc [v37, v41] h3 fun v42 h23 =>
    J0 v42 h23) (
    J0 (Value.bool false) h3)

def F_math_bits_Len32 (S : Sys) (I : Ids) (x0 : Value) (h : Hp) (R : Value → Hp → Prop) : Prop :=
  Jn2 (fun x0_1 n2 h1 =>
      Jn2 (fun x0_2 n2_1 h2 =>
          Vb (cvi .u8 x0_2) fun v15 =>
          Vb (idst (Value.string { data := (List.toArray (List.append (List.append [0, 1, 2, 2, 3, 3, 3, 3, 4, 4, 4, 4, 4, 4, 4, 4, 5, 5, 5, 5, 5, 5, 5, 5, 5, 5, 5, 5, 5, 5, 5, 5, 6, 6, 6, 6, 6, 6, 6, 6, 6, 6, 6, 6, 6, 6, 6, 6, 6, 6, 6, 6, 6, 6, 6, 6, 6, 6, 6, 6, 6, 6, 6, 6] [7, 7, 7, 7, 7, 7, 7, 7, 7, 7, 7, 7, 7, 7, 7, 7, 7, 7, 7, 7, 7, 7, 7, 7, 7, 7, 7, 7, 7, 7, 7, 7, 7, 7, 7, 7, 7, 7, 7, 7, 7, 7, 7, 7, 7, 7, 7, 7, 7, 7, 7, 7, 7, 7, 7, 7, 7, 7, 7, 7, 7, 7, 7, 7]) (List.append [8, 8, 8, 8, 8, 8, 8, 8, 8, 8, 8, 8, 8, 8, 8, 8, 8, 8, 8, 8, 8, 8, 8, 8, 8, 8, 8, 8, 8, 8, 8, 8, 8, 8, 8, 8, 8, 8, 8, 8, 8, 8, 8, 8, 8, 8, 8, 8, 8, 8, 8, 8, 8, 8, 8, 8, 8, 8, 8, 8, 8, 8, 8, 8] [8, 8, 8, 8, 8, 8, 8, 8, 8, 8, 8, 8, 8, 8, 8, 8, 8, 8, 8, 8, 8, 8, 8, 8, 8, 8, 8, 8, 8, 8, 8, 8, 8, 8, 8, 8, 8, 8, 8, 8, 8, 8, 8, 8, 8, 8, 8, 8, 8, 8, 8, 8, 8, 8, 8, 8, 8, 8, 8, 8, 8, 8, 8, 8]))) }) v15) fun v16 =>
          Vb (cvi .i64 v16) fun v17 =>
          Vb (bin .add n2_1 v17) fun v18 =>
          R v18 h2) fun J1 =>
      Vb (bin .geq x0_1 (Value.int IntKind.u32 256)) fun v8 =>
      Br v8 (
        Vb (bin .shr x0_1 (Value.int IntKind.u64 8)) fun v10 =>
        Vb (bin .add n2 (Value.int IntKind.i64 8)) fun v12 =>
        J1 v10 v12 h1) (
        J1 x0_1 n2 h1)) fun J0 =>
  Vb (bin .geq x0 (Value.int IntKind.u32 65536)) fun v4 =>
  Br v4 (
    Vb (bin .shr x0 (Value.int IntKind.u64 16)) fun v6 =>
    J0 v6 (Value.int IntKind.i64 16) h) (
    J0 x0 (Value.int IntKind.i64 0) h)

def F_math_bits_Len64 (S : Sys) (I : Ids) (x0 : Value) (h : Hp) (R : Value → Hp → Prop) : Prop :=
  Jn2 (fun x0_1 n2 h1 =>
      Jn2 (fun x0_2 n2_1 h2 =>
          Jn2 (fun x0_3 n2_2 h3 =>
              Vb (cvi .u8 x0_3) fun v21 =>
              Vb (idst (Value.string { data := (List.toArray (List.append (List.append [0, 1, 2, 2, 3, 3, 3, 3, 4, 4, 4, 4, 4, 4, 4, 4, 5, 5, 5, 5, 5, 5, 5, 5, 5, 5, 5, 5, 5, 5, 5, 5, 6, 6, 6, 6, 6, 6, 6, 6, 6, 6, 6, 6, 6, 6, 6, 6, 6, 6, 6, 6, 6, 6, 6, 6, 6, 6, 6, 6, 6, 6, 6, 6] [7, 7, 7, 7, 7, 7, 7, 7, 7, 7, 7, 7, 7, 7, 7, 7, 7, 7, 7, 7, 7, 7, 7, 7, 7, 7, 7, 7, 7, 7, 7, 7, 7, 7, 7, 7, 7, 7, 7, 7, 7, 7, 7, 7, 7, 7, 7, 7, 7, 7, 7, 7, 7, 7, 7, 7, 7, 7, 7, 7, 7, 7, 7, 7]) (List.append [8, 8, 8, 8, 8, 8, 8, 8, 8, 8, 8, 8, 8, 8, 8, 8, 8, 8, 8, 8, 8, 8, 8, 8, 8, 8, 8, 8, 8, 8, 8, 8, 8, 8, 8, 8, 8, 8, 8, 8, 8, 8, 8, 8, 8, 8, 8, 8, 8, 8, 8, 8, 8, 8, 8, 8, 8, 8, 8, 8, 8, 8, 8, 8] [8, 8, 8, 8, 8, 8, 8, 8, 8, 8, 8, 8, 8, 8, 8, 8, 8, 8, 8, 8, 8, 8, 8, 8, 8, 8, 8, 8, 8, 8, 8, 8, 8, 8, 8, 8, 8, 8, 8, 8, 8, 8, 8, 8, 8, 8, 8, 8, 8, 8, 8, 8, 8, 8, 8, 8, 8, 8, 8, 8, 8, 8, 8, 8]))) }) v21) fun v22 =>
              Vb (cvi .i64 v22) fun v23 =>
              Vb (bin .add n2_2 v23) fun v24 =>
              R v24 h3) fun J2 =>
          Vb (bin .geq x0_2 (Value.int IntKind.u64 256)) fun v14 =>
          Br v14 (
            Vb (bin .shr x0_2 (Value.int IntKind.u64 8)) fun v16 =>
            Vb (bin .add n2_1 (Value.int IntKind.i64 8)) fun v18 =>
            J2 v16 v18 h2) (
            J2 x0_2 n2_1 h2)) fun J1 =>
      Vb (bin .geq x0_1 (Value.int IntKind.u64 65536)) fun v8 =>
      Br v8 (
        Vb (bin .shr x0_1 (Value.int IntKind.u64 16)) fun v10 =>
        Vb (bin .add n2 (Value.int IntKind.i64 16)) fun v12 =>
        J1 v10 v12 h1) (
        J1 x0_1 n2 h1)) fun J0 =>
  Vb (bin .geq x0 (Value.int IntKind.u64 4294967296)) fun v4 =>
  Br v4 (
    Vb (bin .shr x0 (Value.int IntKind.u64 32)) fun v6 =>
    J0 v6 (Value.int IntKind.i64 32) h) (
    J0 x0 (Value.int IntKind.i64 0) h)

def F_word_Plain (S : Sys) (I : Ids) (w0 : Value) (h : Hp) (R : Value → Hp → Prop) : Prop :=
  Eb (nw (Value.cells w0) I.t_api_Word h) fun w1 h1 =>
  Vb (lda 3 w1 h1) fun v3 =>
  S.C I.f_word_kind [v3] h1 fun v4 h2 =>
  Vb (bin .eql v4 (Value.int IntKind.i64 0)) fun v5 =>
  R v5 h2

def F_slices_IndexFunc_api_Entry_api_Entry (S : Sys) (I : Ids) (s0 f1 : Value) (h : Hp) (R : Value → Hp → Prop) : Prop :=
  Vb (lnS s0) fun v7 =>
  Lp1 (Value.int IntKind.i64 0) h fun v8 h1 again0 =>
  Vb (bin .lss v8 v7) fun v9 =>
  Br v9 (
    Vb (ixs 6 s0 v8) fun v14 =>
    Vb (lda 6 v14 h1) fun v15 =>
    Cv S.C S.Y f1 [v15] h1 fun v16 h2 =>
    Br v16 (
      R v8 h2) (
      Vb (bin .add v8 (Value.int IntKind.i64 1)) fun v18 =>
      again0 v18 h2)) (
    R (Value.int IntKind.i64 (-1)) h1)

def F_simulcastref30_find (S : Sys) (I : Ids) (s0 at1 : Value) (h : Hp) (R : Value → Hp → Prop) : Prop :=
  Eb (nw (Value.cells s0) I.t_simulcastref30_Space h) fun s2 h1 =>
  Eb (nw #[Value.int IntKind.i64 0, Value.int IntKind.u32 0, Value.int IntKind.u32 0] I.t_api_Word h1) fun v4 h2 =>
  Lp1 (Value.int IntKind.i64 0) h2 fun i6 h3 again0 =>
  Vb (fa 0 s2) fun v8 =>
  Vb (ldc v8 h3) fun v9 =>
  Vb (lnS v9) fun v10 =>
  Vb (bin .lss i6 v10) fun v11 =>
  Br v11 (
    Jn1 (fun v31 h4 =>
        Br v31 (
          Vb (fa 0 s2) fun v32 =>
          Vb (ldc v32 h4) fun v33 =>
          Vb (ixs 4 v33 i6) fun v35 =>
          Vb (fa 1 v35) fun v36 =>
          Vb (lda 3 v36 h4) fun v37 =>
          Sb (sto 3 v4 v37 h4) fun h5 =>
          Vb (lda 3 v4 h5) fun r0 =>
          R (.tuple #[r0, (Value.bool true)]) h5) (
          Vb (bin .add i6 (Value.int IntKind.i64 1)) fun v13 =>
          again0 v13 h4)) fun J0 =>
    Vb (fa 0 s2) fun v14 =>
    Vb (ldc v14 h3) fun v15 =>
    Vb (ixs 4 v15 i6) fun v17 =>
    Vb (fa 0 v17) fun v18 =>
    Vb (ldc v18 h3) fun v19 =>
    Vb (bin .eql v19 at1) fun v21 =>
    Br v21 (
      Vb (fa 0 s2) fun v23 =>
      Vb (ldc v23 h3) fun v24 =>
      Vb (ixs 4 v24 i6) fun v26 =>
      Vb (fa 1 v26) fun v27 =>
      Vb (fa 2 v27) fun v28 =>
      Vb (ldc v28 h3) fun v29 =>
      Vb (bin .eql v29 (Value.int IntKind.u32 0)) fun v30 =>
      J0 v30 h3) (
      J0 (Value.bool false) h3)) (
    Vb (bldS [(0, 1), (1, 1), (2, 1)] #[Value.int IntKind.i64 0, Value.int IntKind.u32 0, Value.int IntKind.u32 0] []) fun v38 =>
    Sb (sto 3 v4 v38 h3) fun h6 =>
    Vb (lda 3 v4 h6) fun r0 =>
    R (.tuple #[r0, (Value.bool false)]) h6)

def F_slices_siftDownOrdered_api_Loc (S : Sys) (I : Ids) (data0 lo1 hi2 first3 : Value) (h : Hp) (R : Value → Hp → Prop) : Prop :=
  Lp1 lo1 h fun root8 h1 again0 =>
  Vb (bin .mul (Value.int IntKind.i64 2) root8) fun v12 =>
  Vb (bin .add v12 (Value.int IntKind.i64 1)) fun v13 =>
  Vb (bin .geq v13 hi2) fun v16 =>
  Br v16 (
    R (.tuple #[]) h1) (
    Jn1 (fun child9 h2 =>
        Vb (bin .add first3 root8) fun v42 =>
        Vb (ixs 1 data0 v42) fun v43 =>
        Vb (ldc v43 h2) fun v44 =>
        Vb (bin .add first3 child9) fun v48 =>
        Vb (ixs 1 data0 v48) fun v49 =>
        Vb (ldc v49 h2) fun v50 =>
        S.C I.f_cmp_Less_api_Loc [v44, v50] h2 fun v51 h3 =>
        Vb (uno .not v51) fun v52 =>
        Br v52 (
          R (.tuple #[]) h3) (
          Vb (bin .add first3 root8) fun v56 =>
          Vb (bin .add first3 child9) fun v60 =>
          Vb (bin .add first3 child9) fun v64 =>
          Vb (ixs 1 data0 v64) fun v65 =>
          Vb (ldc v65 h3) fun v66 =>
          Vb (bin .add first3 root8) fun v70 =>
          Vb (ixs 1 data0 v70) fun v71 =>
          Vb (ldc v71 h3) fun v72 =>
          Vb (ixs 1 data0 v56) fun v73 =>
          Sb (sto 1 v73 v66 h3) fun h4 =>
          Vb (ixs 1 data0 v60) fun v74 =>
          Sb (sto 1 v74 v72 h4) fun h5 =>
          again0 child9 h5)) fun J0 =>
    Jn1 (fun v36 h6 =>
        Br v36 (
          Vb (bin .add v13 (Value.int IntKind.i64 1)) fun v38 =>
          J0 v38 h6) (
          J0 v13 h6)) fun J1 =>
    Vb (bin .add v13 (Value.int IntKind.i64 1)) fun v18 =>
    Vb (bin .lss v18 hi2) fun v20 =>
    Br v20 (
      Vb (bin .add first3 v13) fun v25 =>
      Vb (ixs 1 data0 v25) fun v26 =>
      Vb (ldc v26 h1) fun v27 =>
      Vb (bin .add first3 v13) fun v31 =>
      Vb (bin .add v31 (Value.int IntKind.i64 1)) fun v32 =>
      Vb (ixs 1 data0 v32) fun v33 =>
      Vb (ldc v33 h1) fun v34 =>
      S.C I.f_cmp_Less_api_Loc [v27, v34] h1 fun v35 h7 =>
      J1 v35 h7) (
      J1 (Value.bool false) h1))

def F_slices_nextPowerOfTwo (S : Sys) (I : Ids) (length0 : Value) (h : Hp) (R : Value → Hp → Prop) : Prop :=
  Vb (cvi .u64 length0) fun v4 =>
  S.C I.f_math_bits_Len [v4] h fun v5 h1 =>
  Vb (bin .shl (Value.int IntKind.u64 1) v5) fun v6 =>
  R v6 h1

def F_slices_xorshift_Next (S : Sys) (I : Ids) (r0 : Value) (h : Hp) (R : Value → Hp → Prop) : Prop :=
  Vb (nck r0) fun v4 =>
  Vb (ldc v4 h) fun v5 =>
  Vb (nck r0) fun v7 =>
  Vb (ldc v7 h) fun v8 =>
  Vb (bin .shl v8 (Value.int IntKind.u64 13)) fun v9 =>
  Vb (bin .xor v5 v9) fun v10 =>
  Vb (nck r0) fun v11 =>
  Sb (sto 1 v11 v10 h) fun h1 =>
  Vb (nck r0) fun v13 =>
  Vb (ldc v13 h1) fun v14 =>
  Vb (nck r0) fun v16 =>
  Vb (ldc v16 h1) fun v17 =>
  Vb (bin .shr v17 (Value.int IntKind.u64 7)) fun v18 =>
  Vb (bin .xor v14 v18) fun v19 =>
  Vb (nck r0) fun v20 =>
  Sb (sto 1 v20 v19 h1) fun h2 =>
  Vb (nck r0) fun v22 =>
  Vb (ldc v22 h2) fun v23 =>
  Vb (nck r0) fun v25 =>
  Vb (ldc v25 h2) fun v26 =>
  Vb (bin .shl v26 (Value.int IntKind.u64 17)) fun v27 =>
  Vb (bin .xor v23 v27) fun v28 =>
  Vb (nck r0) fun v29 =>
  Sb (sto 1 v29 v28 h2) fun h3 =>
  Vb (nck r0) fun v31 =>
  Vb (ldc v31 h3) fun v32 =>
  R v32 h3

def F_slices_medianAdjacentOrdered_api_Loc (S : Sys) (I : Ids) (data0 a1 swaps2 : Value) (h : Hp) (R : Value → Hp → Prop) : Prop :=
  Vb (bin .sub a1 (Value.int IntKind.i64 1)) fun v9 =>
  Vb (bin .add a1 (Value.int IntKind.i64 1)) fun v12 =>
  S.C I.f_slices_medianOrdered_api_Loc [data0, v9, a1, v12, swaps2] h fun v14 h1 =>
  R v14 h1

def F_slices_medianOrdered_api_Loc (S : Sys) (I : Ids) (data0 a1 b2 c3 swaps4 : Value) (h : Hp) (R : Value → Hp → Prop) : Prop :=
  S.C I.f_slices_order2Ordered_api_Loc [data0, a1, b2, swaps4] h fun v16 h1 =>
  Vb (ext 0 v16) fun v17 =>
  Vb (ext 1 v16) fun v18 =>
  S.C I.f_slices_order2Ordered_api_Loc [data0, v18, c3, swaps4] h1 fun v24 h2 =>
  Vb (ext 0 v24) fun v25 =>
  Vb (ext 1 v24) fun v26 =>
  S.C I.f_slices_order2Ordered_api_Loc [data0, v17, v25, swaps4] h2 fun v32 h3 =>
  Vb (ext 0 v32) fun v33 =>
  Vb (ext 1 v32) fun v34 =>
  R v34 h3

def F_cmp_isNaN_api_Loc (S : Sys) (I : Ids) (x0 : Value) (h : Hp) (R : Value → Hp → Prop) : Prop :=
  Vb (bin .neq x0 x0) fun v5 =>
  R v5 h

def F_word_kind (S : Sys) (I : Ids) (w0 : Value) (h : Hp) (R : Value → Hp → Prop) : Prop :=
  Eb (nw (Value.cells w0) I.t_api_Word h) fun w1 h1 =>
  Vb (fa 2 w1) fun v6 =>
  Vb (ldc v6 h1) fun v7 =>
  S.C I.f_word_Who [v7] h1 fun v8 h2 =>
  Vb (ext 0 v8) fun v9 =>
  Vb (ext 1 v8) fun v10 =>
  Vb (fa 2 w1) fun v12 =>
  Vb (ldc v12 h2) fun v13 =>
  Vb (bin .eql v13 (Value.int IntKind.u32 0)) fun v14 =>
  Br v14 (
    R (Value.int IntKind.i64 0) h2) (
    Vb (bin .gtr v9 (Value.int IntKind.i64 0)) fun v17 =>
    Br v17 (
      R (Value.int IntKind.i64 1) h2) (
      R (Value.int IntKind.i64 2) h2))

def F_slices_order2Ordered_api_Loc (S : Sys) (I : Ids) (data0 a1 b2 swaps3 : Value) (h : Hp) (R : Value → Hp → Prop) : Prop :=
  Vb (ixs 1 data0 b2) fun v12 =>
  Vb (ldc v12 h) fun v13 =>
  Vb (ixs 1 data0 a1) fun v16 =>
  Vb (ldc v16 h) fun v17 =>
  S.C I.f_cmp_Less_api_Loc [v13, v17] h fun v18 h1 =>
  Br v18 (
    Vb (nck swaps3) fun v20 =>
    Vb (ldc v20 h1) fun v21 =>
    Vb (bin .add v21 (Value.int IntKind.i64 1)) fun v22 =>
    Vb (nck swaps3) fun v23 =>
    Sb (sto 1 v23 v22 h1) fun h2 =>
    R (.tuple #[b2, a1]) h2) (
    R (.tuple #[a1, b2]) h1)

def F_word_Who (S : Sys) (I : Ids) (ref0 : Value) (h : Hp) (R : Value → Hp → Prop) : Prop :=
  Vb (bin .shr ref0 (Value.int IntKind.u64 24)) fun v9 =>
  Vb (cvi .i64 v9) fun v10 =>
  Vb (bin .and ref0 (Value.int IntKind.u32 16777215)) fun v12 =>
  Vb (cvi .i64 v12) fun v13 =>
  S.C I.f_word_Ref [v10, v13] h fun v17 h1 =>
  Vb (ext 0 v17) fun v18 =>
  Vb (ext 1 v17) fun v19 =>
  Vb (bin .neq v19 (Value.int IntKind.i64 0)) fun v21 =>
  Br v21 (
    R (.tuple #[(Value.int IntKind.i64 0), (Value.int IntKind.i64 0)]) h1) (
    R (.tuple #[v10, v13]) h1)

def F_word_Ref (S : Sys) (I : Ids) (who0 seq1 : Value) (h : Hp) (R : Value → Hp → Prop) : Prop :=
  Jn1 (fun v19 h1 =>
      Br v19 (
        R (.tuple #[(Value.int IntKind.u32 0), (Value.int IntKind.i64 3)]) h1) (
        Vb (cvi .u32 who0) fun v21 =>
        Vb (bin .shl v21 (Value.int IntKind.u64 24)) fun v22 =>
        Vb (cvi .u32 seq1) fun v24 =>
        Vb (bin .or v22 v24) fun v25 =>
        R (.tuple #[v25, (Value.int IntKind.i64 0)]) h1)) fun J0 =>
  Vb (bin .lss who0 (Value.int IntKind.i64 1)) fun v7 =>
  Br v7 (
    J0 (Value.bool true) h) (
    Vb (bin .gtr who0 (Value.int IntKind.i64 72)) fun v10 =>
    Br v10 (
      J0 (Value.bool true) h) (
      Vb (bin .lss seq1 (Value.int IntKind.i64 1)) fun v14 =>
      Br v14 (
        J0 (Value.bool true) h) (
        Vb (bin .gtr seq1 (Value.int IntKind.i64 16777215)) fun v18 =>
        J0 v18 h)))

end Go.En
