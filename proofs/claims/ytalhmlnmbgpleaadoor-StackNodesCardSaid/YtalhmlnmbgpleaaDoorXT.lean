/-
  Clean texts of 87 functions: what each of them does, printed by program out of the translation.
-/
import Derived.Test.YtalhmlnmbgpleaaDoorXB
namespace Go.En
/-- the numbers of functions and types -/
structure Ids where
  f_simulcastlaw33_StackPlays : Nat
  f_simulcastlaw33_StackFew : Nat
  f_simulcastlaw33_StackBroken : Nat
  f_simulcastlaw33_StackTurns : Nat
  f_simulcastlaw33_StackNeeds : Nat
  f_simulcastlaw33_StackNodes : Nat
  f_simulcastlaw33_great : Nat
  f_simulcastlaw33_awake : Nat
  f_simulcastlaw33_played : Nat
  f_simulcastlaw33_step : Nat
  f_simulcastlaw33_Fresh : Nat
  f_simulcastlaw33_Nodes : Nat
  f_simulcastlaw33_World_Done : Nat
  f_simulcastlaw33_StackBroken_1 : Nat
  f_stack_Push : Nat
  f_stack_Pop : Nat
  f_simulcastlaw33_StackBroken_2 : Nat
  f_stack_Walk : Nat
  f_simulcastlaw33_Alike : Nat
  f_pool_Pool_Node : Nat
  f_slices_Equal_int64_int64 : Nat
  f_simulcastlaw33_StackTurns_1 : Nat
  f_pool_Pool_Left : Nat
  f_simulcastlaw33_StackTurns_2 : Nat
  f_simulcastlaw33_is : Nat
  f_simulcastlaw33_StackNeeds_1 : Nat
  f_space_New : Nat
  f_space_Space_Entries : Nat
  f_space_Space_Need : Nat
  f_slices_Equal_api_Entry_api_Entry : Nat
  f_pool_Pool_Free : Nat
  f_simulcastlaw33_StackNodes_1 : Nat
  f_simulcastlaw33_step_1 : Nat
  f_simulcastref33_Push : Nat
  f_simulcastref33_Pop : Nat
  f_space_Space_Writes : Nat
  f_space_Space_Get : Nat
  f_space_Space_Ended : Nat
  f_stack_undo : Nat
  f_space_Space_Mark : Nat
  f_pool_Pool_Take : Nat
  f_space_Space_Put : Nat
  f_stack_more : Nat
  f_pool_Pool_Give : Nat
  f_pool_Pool_Check : Nat
  f_simulcastlaw33_is_1 : Nat
  f_simulcastlaw33_is_2 : Nat
  f_stack_Top : Nat
  f_simulcastref33_Walk : Nat
  f_stack_Len : Nat
  f_space_Space_Reads : Nat
  f_space_Space_value : Nat
  f_entry_Check : Nat
  f_slices_Sort_api_Loc_api_Loc : Nat
  f_slices_Compact_api_Loc_api_Loc : Nat
  f_space_Space_reads : Nat
  f_space_Space_Back : Nat
  f_pool_Pool_add : Nat
  f_space_Space_last : Nat
  f_entry_wrong : Nat
  f_slices_ContainsFunc_api_Entry_api_Entry : Nat
  f_entry_Check_1 : Nat
  f_slices_pdqsortOrdered_api_Loc : Nat
  f_math_bits_Len : Nat
  f_word_Plain : Nat
  f_slices_IndexFunc_api_Entry_api_Entry : Nat
  f_slices_insertionSortOrdered_api_Loc : Nat
  f_slices_heapSortOrdered_api_Loc : Nat
  f_slices_breakPatternsOrdered_api_Loc : Nat
  f_slices_choosePivotOrdered_api_Loc : Nat
  f_slices_reverseRangeOrdered_api_Loc : Nat
  f_slices_partialInsertionSortOrdered_api_Loc : Nat
  f_cmp_Less_api_Loc : Nat
  f_slices_partitionEqualOrdered_api_Loc : Nat
  f_slices_partitionOrdered_api_Loc : Nat
  f_math_bits_Len32 : Nat
  f_math_bits_Len64 : Nat
  f_word_kind : Nat
  f_slices_siftDownOrdered_api_Loc : Nat
  f_slices_nextPowerOfTwo : Nat
  f_slices_xorshift_Next : Nat
  f_slices_medianAdjacentOrdered_api_Loc : Nat
  f_slices_medianOrdered_api_Loc : Nat
  f_cmp_isNaN_api_Loc : Nat
  f_word_Who : Nat
  f_slices_order2Ordered_api_Loc : Nat
  f_word_Ref : Nat
  t_int64 : Nat
  t_int : Nat
  t_bool : Nat
  t_api_Loc : Nat
  t_pool_Pool : Nat
  t_s_int64 : Nat
  t_simulcastlaw33_state : Nat
  t_simulcastlaw33_Call : Nat
  t_api_Word : Nat
  t_api_Errno : Nat
  t_api_Entry : Nat
  t_space_Space : Nat
  t_space_put : Nat
  t_slices_xorshift : Nat

def F_simulcastlaw33_StackPlays (S : Sys) (I : Ids) (n0 l1 : Value) (h : Hp) (R : Value → Hp → Prop) : Prop :=
  S.C I.f_simulcastlaw33_great [l1] h fun v8 h1 =>
  Br v8 (
    S.C I.f_simulcastlaw33_awake [] h1 fun v9 h2 =>
    R v9 h2) (
    S.C I.f_simulcastlaw33_played [n0, l1] h1 fun v13 h3 =>
    Vb (ext 0 v13) fun v14 =>
    Vb (ext 1 v13) fun v15 =>
    Eb (nw #[Value.map none, Value.int IntKind.i64 0, Value.int IntKind.i64 0, Value.int IntKind.i64 0, Value.slice none 0 0, Value.slice none 0 0] I.t_simulcastlaw33_state h3) fun v5 h4 =>
    Sb (sto 6 v5 v14 h4) fun h5 =>
    Jn1 (fun v4 h6 =>
        R v4 h6) fun J0 =>
    Br v15 (
      S.C I.f_simulcastlaw33_awake [] h5 fun v18 h7 =>
      J0 v18 h7) (
      J0 (Value.bool false) h5))

def F_simulcastlaw33_StackFew (S : Sys) (I : Ids) (n0 l1 c2 : Value) (h : Hp) (R : Value → Hp → Prop) : Prop :=
  Eb (nw (Value.cells c2) I.t_simulcastlaw33_Call h) fun c5 h1 =>
  S.C I.f_simulcastlaw33_great [l1] h1 fun v13 h2 =>
  Br v13 (
    S.C I.f_simulcastlaw33_awake [] h2 fun v14 h3 =>
    R v14 h3) (
    S.C I.f_simulcastlaw33_played [n0, l1] h2 fun v18 h4 =>
    Vb (ext 0 v18) fun v19 =>
    Vb (ext 1 v18) fun v20 =>
    Eb (nw #[Value.map none, Value.int IntKind.i64 0, Value.int IntKind.i64 0, Value.int IntKind.i64 0, Value.slice none 0 0, Value.slice none 0 0] I.t_simulcastlaw33_state h4) fun x7 h5 =>
    Sb (sto 6 x7 v19 h5) fun h6 =>
    Vb (lda 6 x7 h6) fun v22 =>
    Vb (lda 3 c5 h6) fun v23 =>
    S.C I.f_simulcastlaw33_step [v22, v23] h6 fun v24 h7 =>
    Vb (ext 0 v24) fun v25 =>
    Vb (ext 1 v24) fun v26 =>
    Vb (ext 2 v24) fun v27 =>
    Eb (nw #[Value.map none, Value.int IntKind.i64 0, Value.int IntKind.i64 0, Value.int IntKind.i64 0, Value.slice none 0 0, Value.slice none 0 0] I.t_simulcastlaw33_state h7) fun v9 h8 =>
    Sb (sto 6 v9 v25 h8) fun h9 =>
    Jn1 (fun v6 h10 =>
        R v6 h10) fun J0 =>
    Br v20 (
      Br v27 (
        Vb (lnS v26) fun v34 =>
        Vb (bin .leq v34 (Value.int IntKind.i64 8)) fun v35 =>
        Br v35 (
          S.C I.f_simulcastlaw33_awake [] h9 fun v38 h11 =>
          J0 v38 h11) (
          J0 (Value.bool false) h9)) (
        J0 (Value.bool false) h9)) (
      J0 (Value.bool false) h9))

def F_simulcastlaw33_StackBroken (S : Sys) (I : Ids) (vals0 n1 c2 : Value) (h : Hp) (R : Value → Hp → Prop) : Prop :=
  Eb (nw (Value.cells c2) I.t_simulcastlaw33_Call h) fun c5 h1 =>
  Vb (lnS vals0) fun v27 =>
  Vb (bin .gtr v27 (Value.int IntKind.i64 192)) fun v28 =>
  Br v28 (
    S.C I.f_simulcastlaw33_awake [] h1 fun v29 h2 =>
    R v29 h2) (
    S.C I.f_simulcastlaw33_Fresh [(Value.int IntKind.i64 192)] h1 fun v30 h3 =>
    Vb (lnS vals0) fun v32 =>
    Lp1 (Value.int IntKind.i64 0) h3 fun v33 h4 again0 =>
    Vb (bin .lss v33 v32) fun v34 =>
    Br v34 (
      Vb (ixs 1 vals0 v33) fun v36 =>
      Vb (ldc v36 h4) fun v37 =>
      Vb (cvi .u32 v33) fun v42 =>
      Vb (bldS [(0, 1), (1, 1), (2, 1)] #[Value.int IntKind.i64 0, Value.int IntKind.u32 0, Value.int IntKind.u32 0] [(0, v37), (1, v42)]) fun v43 =>
      Sb (mup (.int .i64) v30 v33 v43 h4) fun h5 =>
      Vb (bin .add v33 (Value.int IntKind.i64 1)) fun v44 =>
      again0 v44 h5) (
      S.C I.f_simulcastlaw33_Nodes [n1] h4 fun v46 h6 =>
      Eb (nw #[Value.int IntKind.i64 0, Value.int IntKind.i64 0, Value.int IntKind.i64 0] I.t_pool_Pool h6) fun p10 h7 =>
      Sb (sto 3 p10 v46 h7) fun h8 =>
      Vb (fa 1 c5) fun v47 =>
      Vb (ldc v47 h8) fun v48 =>
      Vb (bin .rem v48 (Value.int IntKind.u8 2)) fun v49 =>
      Vb (ixa 2 1 (.pointer (some ⟨0, 0, none⟩)) v49) fun v50 =>
      Vb (ldc v50 h8) fun v51 =>
      Eb (nw #[Value.int IntKind.i64 0] I.t_api_Loc h8) fun root11 h9 =>
      Sb (sto 1 root11 v51 h9) fun h10 =>
      Eb (nw #[Value.int IntKind.i64 0] I.t_api_Errno h10) fun e12 h11 =>
      Eb (nw #[Value.int IntKind.i64 0] I.t_api_Errno h11) fun f13 h12 =>
      Eb (nw #[Value.slice none 0 0] I.t_s_int64 h12) fun walk14 h13 =>
      Vb (some (.func (.func I.f_simulcastlaw33_StackBroken_1) #[] #[c5, p10, root11, e12])) fun v54 =>
      S.C I.f_simulcastlaw33_World_Done [v30, v54] h13 fun v55 h14 =>
      Vb (ext 0 v55) fun v56 =>
      Vb (ext 1 v55) fun v57 =>
      Vb (ext 2 v55) fun v58 =>
      Vb (some (.func (.func I.f_simulcastlaw33_StackBroken_2) #[] #[p10, root11, walk14, f13])) fun v61 =>
      S.C I.f_simulcastlaw33_World_Done [v30, v61] h14 fun v62 h15 =>
      Vb (ext 0 v62) fun v63 =>
      Vb (ext 1 v62) fun v64 =>
      Vb (ext 2 v62) fun v65 =>
      Jn1 (fun v81 h16 =>
          Br v81 (
            R (Value.bool false) h16) (
            Vb (ldc root11 h16) fun v83 =>
            Vb (lkm (.int .i64) (Value.agg #[Value.int IntKind.i64 0, Value.int IntKind.u32 0, Value.int IntKind.u32 0]) false v30 v83 h16) fun v84 =>
            Vb (fdc 0 v84) fun v85 =>
            Lp3 (Value.slice none 0 0) v85 (Value.bool false) h16 fun want21 at22 lost23 h17 again1 =>
            Jn1 (fun v91 h18 =>
                Br v91 (
                  Vb (lda 3 p10 h18) fun v93 =>
                  S.C I.f_pool_Pool_Node [v93, at22] h18 fun v95 h19 =>
                  Vb (ext 0 v95) fun v96 =>
                  Vb (ext 1 v95) fun v97 =>
                  Jn1 (fun v106 h20 =>
                      Br v106 (
                        again1 want21 at22 (Value.bool true) h20) (
                        Vb (bin .add at22 (Value.int IntKind.i64 1)) fun v110 =>
                        Vb (lkm (.int .i64) (Value.agg #[Value.int IntKind.i64 0, Value.int IntKind.u32 0, Value.int IntKind.u32 0]) false v30 v110 h20) fun v111 =>
                        Vb (fdc 0 v111) fun v112 =>
                        Eb (bsl #[Value.int IntKind.i64 0] 1 1 I.t_int64 [(0, v112)] h20) fun v113 h21 =>
                        Ap I.t_int64 #[Value.int IntKind.i64 0] 1 8 want21 v113 h21 fun v114 h22 =>
                        Vb (lkm (.int .i64) (Value.agg #[Value.int IntKind.i64 0, Value.int IntKind.u32 0, Value.int IntKind.u32 0]) false v30 at22 h22) fun v117 =>
                        Vb (fdc 0 v117) fun v118 =>
                        again1 v114 v118 lost23 h22)) fun J2 =>
                  Vb (uno .not v97) fun v99 =>
                  Br v99 (
                    J2 (Value.bool true) h19) (
                    Vb (lnS want21) fun v102 =>
                    Vb (fa 2 p10) fun v103 =>
                    Vb (ldc v103 h19) fun v104 =>
                    Vb (bin .geq v102 v104) fun v105 =>
                    J2 v105 h19)) (
                  Br lost23 (
                    Jn1 (fun v6 h23 =>
                        R v6 h23) fun J3 =>
                    Vb (ldc f13 h18) fun v120 =>
                    Vb (bin .eql v120 (Value.int IntKind.i64 24)) fun v121 =>
                    Br v121 (
                      Vb (ldc walk14 h18) fun v123 =>
                      Vb (lnS v123) fun v124 =>
                      Vb (bin .eql v124 (Value.int IntKind.i64 0)) fun v125 =>
                      Br v125 (
                        S.C I.f_simulcastlaw33_awake [] h18 fun v128 h24 =>
                        J3 v128 h24) (
                        J3 (Value.bool false) h18)) (
                      J3 (Value.bool false) h18)) (
                    Jn1 (fun v6_1 h25 =>
                        R v6_1 h25) fun J4 =>
                    Vb (ldc f13 h18) fun v130 =>
                    Vb (bin .eql v130 (Value.int IntKind.i64 0)) fun v131 =>
                    Br v131 (
                      Vb (ldc walk14 h18) fun v133 =>
                      S.C I.f_slices_Equal_int64_int64 [v133, want21] h18 fun v135 h26 =>
                      Br v135 (
                        S.C I.f_simulcastlaw33_awake [] h26 fun v138 h27 =>
                        J4 v138 h27) (
                        J4 (Value.bool false) h26)) (
                      J4 (Value.bool false) h18)))) fun J1 =>
            Vb (bin .neq at22 (Value.int IntKind.i64 0)) fun v87 =>
            Br v87 (
              Vb (uno .not lost23) fun v90 =>
              J1 v90 h17) (
              J1 (Value.bool false) h17))) fun J0 =>
      Vb (uno .not v58) fun v67 =>
      Br v67 (
        J0 (Value.bool true) h15) (
        Vb (uno .not v65) fun v70 =>
        Br v70 (
          J0 (Value.bool true) h15) (
          Vb (ldc e12 h15) fun v73 =>
          Vb (bin .neq v73 (Value.int IntKind.i64 0)) fun v74 =>
          Br v74 (
            S.C I.f_simulcastlaw33_Alike [v30, v56] h15 fun v78 h28 =>
            Vb (uno .not v78) fun v79 =>
            J0 v79 h28) (
            J0 (Value.bool false) h15)))))

def F_simulcastlaw33_StackTurns (S : Sys) (I : Ids) (n0 l1 vs2 : Value) (h : Hp) (R : Value → Hp → Prop) : Prop :=
  Jn1 (fun v30 h1 =>
      Br v30 (
        S.C I.f_simulcastlaw33_awake [] h1 fun v31 h2 =>
        R v31 h2) (
        S.C I.f_simulcastlaw33_played [n0, l1] h1 fun v35 h3 =>
        Vb (ext 0 v35) fun v36 =>
        Vb (ext 1 v35) fun v37 =>
        Eb (nw #[Value.map none, Value.int IntKind.i64 0, Value.int IntKind.i64 0, Value.int IntKind.i64 0, Value.slice none 0 0, Value.slice none 0 0] I.t_simulcastlaw33_state h3) fun x7 h4 =>
        Sb (sto 6 x7 v36 h4) fun h5 =>
        Vb (uno .not v37) fun v39 =>
        Br v39 (
          R (Value.bool false) h5) (
          Vb (fa 0 x7) fun v40 =>
          Vb (ldc v40 h5) fun v41 =>
          Eb (nw #[Value.int IntKind.i64 0] I.t_int h5) fun left11 h6 =>
          Sb (sto 1 left11 (Value.int IntKind.i64 0) h6) fun h7 =>
          Vb (lnS vs2) fun v43 =>
          Lp3 (Value.slice none 0 0) v41 (Value.int IntKind.i64 0) h7 fun pushed9 w10 v44 h8 again0 =>
          Vb (bin .lss v44 v43) fun v45 =>
          Br v45 (
            Jn2 (fun pushed9_1 w10_1 h9 =>
                Vb (bin .add v44 (Value.int IntKind.i64 1)) fun v85 =>
                again0 pushed9_1 w10_1 v85 h9) fun J1 =>
            Vb (ixs 1 vs2 v44) fun v46 =>
            Vb (ldc v46 h8) fun v47 =>
            Eb (nw #[Value.int IntKind.i64 0] I.t_int64 h8) fun v13 h10 =>
            Sb (sto 1 v13 v47 h10) fun h11 =>
            Eb (nw #[Value.int IntKind.i64 0] I.t_api_Errno h11) fun e14 h12 =>
            Vb (some (.func (.func I.f_simulcastlaw33_StackTurns_1) #[] #[x7, left11, v13, e14])) fun v50 =>
            S.C I.f_simulcastlaw33_World_Done [w10, v50] h12 fun v51 h13 =>
            Vb (ext 0 v51) fun v52 =>
            Vb (ext 1 v51) fun v53 =>
            Vb (ext 2 v51) fun v54 =>
            Jn1 (fun v77 h14 =>
                Br v77 (
                  R (Value.bool false) h14) (
                  Vb (ldc e14 h14) fun v79 =>
                  Vb (bin .eql v79 (Value.int IntKind.i64 0)) fun v80 =>
                  Br v80 (
                    Vb (ldc v13 h14) fun v82 =>
                    Eb (bsl #[Value.int IntKind.i64 0] 1 1 I.t_int64 [(0, v82)] h14) fun v83 h15 =>
                    Ap I.t_int64 #[Value.int IntKind.i64 0] 1 8 pushed9 v83 h15 fun v84 h16 =>
                    J1 v84 v52 h16) (
                    J1 pushed9 v52 h14))) fun J2 =>
            Vb (uno .not v54) fun v56 =>
            Br v56 (
              J2 (Value.bool true) h13) (
              Vb (ldc e14 h13) fun v58 =>
              Vb (bin .eql v58 (Value.int IntKind.i64 0)) fun v59 =>
              Vb (ldc left11 h13) fun v60 =>
              Vb (bin .gtr v60 (Value.int IntKind.i64 0)) fun v61 =>
              Vb (neg? (eqB v59 v61)) fun v62 =>
              Br v62 (
                J2 (Value.bool true) h13) (
                Vb (ldc e14 h13) fun v65 =>
                Vb (bin .neq v65 (Value.int IntKind.i64 0)) fun v66 =>
                Br v66 (
                  Vb (ldc e14 h13) fun v68 =>
                  Vb (bin .neq v68 (Value.int IntKind.i64 9)) fun v69 =>
                  Br v69 (
                    J2 (Value.bool true) h13) (
                    S.C I.f_simulcastlaw33_Alike [v52, w10] h13 fun v73 h17 =>
                    Vb (uno .not v73) fun v74 =>
                    J2 v74 h17)) (
                  J2 (Value.bool false) h13)))) (
            Vb (lnS pushed9) fun v87 =>
            Vb (bin .sub v87 (Value.int IntKind.i64 1)) fun v88 =>
            Lp2 w10 v88 h8 fun w10_2 i18 h18 again1 =>
            Vb (bin .geq i18 (Value.int IntKind.i64 0)) fun v90 =>
            Br v90 (
              Eb (nw #[Value.int IntKind.i64 0] I.t_api_Errno h18) fun e19 h19 =>
              Eb (nw #[Value.int IntKind.i64 0] I.t_int64 h19) fun v20 h20 =>
              Vb (some (.func (.func I.f_simulcastlaw33_StackTurns_2) #[] #[x7, v20, e19])) fun v95 =>
              S.C I.f_simulcastlaw33_World_Done [w10_2, v95] h20 fun v96 h21 =>
              Vb (ext 0 v96) fun v97 =>
              Vb (ext 1 v96) fun v98 =>
              Vb (ext 2 v96) fun v99 =>
              Jn1 (fun v113 h22 =>
                  Br v113 (
                    R (Value.bool false) h22) (
                    Vb (bin .sub i18 (Value.int IntKind.i64 1)) fun v92 =>
                    again1 v97 v92 h22)) fun J3 =>
              Vb (uno .not v99) fun v101 =>
              Br v101 (
                J3 (Value.bool true) h21) (
                Vb (ldc e19 h21) fun v103 =>
                Vb (bin .neq v103 (Value.int IntKind.i64 0)) fun v104 =>
                Br v104 (
                  J3 (Value.bool true) h21) (
                  Vb (ldc v20 h21) fun v107 =>
                  Vb (ixs 1 pushed9 i18) fun v110 =>
                  Vb (ldc v110 h21) fun v111 =>
                  Vb (bin .neq v107 v111) fun v112 =>
                  J3 v112 h21))) (
              Vb (fa 0 x7) fun v116 =>
              Sb (sto 1 v116 w10_2 h18) fun h23 =>
              Jn1 (fun v6 h24 =>
                  R v6 h24) fun J4 =>
              Vb (lda 6 x7 h23) fun v117 =>
              S.C I.f_simulcastlaw33_is [v117] h23 fun v118 h25 =>
              Br v118 (
                S.C I.f_simulcastlaw33_awake [] h25 fun v120 h26 =>
                J4 v120 h26) (
                J4 (Value.bool false) h25)))))) fun J0 =>
  S.C I.f_simulcastlaw33_great [l1] h fun v25 h27 =>
  Br v25 (
    J0 (Value.bool true) h27) (
    Vb (lnS vs2) fun v28 =>
    Vb (bin .gtr v28 (Value.int IntKind.i64 20)) fun v29 =>
    J0 v29 h27)

def F_simulcastlaw33_StackNeeds (S : Sys) (I : Ids) (n0 l1 c2 : Value) (h : Hp) (R : Value → Hp → Prop) : Prop :=
  Eb (nw (Value.cells c2) I.t_simulcastlaw33_Call h) fun c5 h1 =>
  S.C I.f_simulcastlaw33_great [l1] h1 fun v26 h2 =>
  Br v26 (
    S.C I.f_simulcastlaw33_awake [] h2 fun v27 h3 =>
    R v27 h3) (
    S.C I.f_simulcastlaw33_played [n0, l1] h2 fun v31 h4 =>
    Vb (ext 0 v31) fun v32 =>
    Vb (ext 1 v31) fun v33 =>
    Eb (nw #[Value.map none, Value.int IntKind.i64 0, Value.int IntKind.i64 0, Value.int IntKind.i64 0, Value.slice none 0 0, Value.slice none 0 0] I.t_simulcastlaw33_state h4) fun x7 h5 =>
    Sb (sto 6 x7 v32 h5) fun h6 =>
    Vb (uno .not v33) fun v35 =>
    Br v35 (
      R (Value.bool false) h6) (
      Vb (some (.func (.func I.f_simulcastlaw33_StackNeeds_1) #[] #[c5, x7])) fun v36 =>
      Vb (fa 0 x7) fun v37 =>
      Vb (ldc v37 h6) fun v38 =>
      S.C I.f_space_New [v38] h6 fun v39 h7 =>
      Cv S.C S.Y v36 [v39] h7 fun v43 h8 =>
      Vb (ext 0 v43) fun v44 =>
      Vb (ext 1 v43) fun v45 =>
      S.C I.f_space_Space_Entries [v39] h8 fun v48 h9 =>
      Vb (ext 0 v48) fun v49 =>
      Vb (ext 1 v48) fun v50 =>
      Eb (mmk h9) fun v51 h10 =>
      Lp1 (Value.int IntKind.i64 0) h10 fun v52 h11 again0 =>
      Vb (bin .lss v52 (Value.int IntKind.i64 9)) fun v53 =>
      Br v53 (
        S.C I.f_space_New [v51] h11 fun v55 h12 =>
        Cv S.C S.Y v36 [v55] h12 fun v59 h13 =>
        Vb (ext 0 v59) fun v60 =>
        Vb (ext 1 v59) fun v61 =>
        S.C I.f_space_Space_Need [v55] h13 fun v64 h14 =>
        Vb (ext 0 v64) fun v65 =>
        Vb (ext 1 v64) fun v66 =>
        Vb (uno .not v66) fun v68 =>
        Br v68 (
          S.C I.f_space_Space_Entries [v55] h14 fun v71 h15 =>
          Vb (ext 0 v71) fun v72 =>
          Vb (ext 1 v71) fun v73 =>
          Jn1 (fun v6 h16 =>
              R v6 h16) fun J0 =>
          Vb (bin .eql v60 v44) fun v76 =>
          Br v76 (
            Vb (bin .eql v45 v61) fun v80 =>
            Br v80 (
              Vb (bin .eql v73 (Value.int IntKind.i64 0)) fun v84 =>
              Br v84 (
                S.C I.f_slices_Equal_api_Entry_api_Entry [v72, v49] h15 fun v89 h17 =>
                Br v89 (
                  S.C I.f_simulcastlaw33_awake [] h17 fun v92 h18 =>
                  J0 v92 h18) (
                  J0 (Value.bool false) h17)) (
                J0 (Value.bool false) h15)) (
              J0 (Value.bool false) h15)) (
            J0 (Value.bool false) h15)) (
          Vb (fa 0 x7) fun v95 =>
          Vb (ldc v95 h14) fun v96 =>
          Vb (lkm (.int .i64) (Value.agg #[Value.int IntKind.i64 0, Value.int IntKind.u32 0, Value.int IntKind.u32 0]) true v96 v65 h14) fun v98 =>
          Vb (ext 0 v98) fun v99 =>
          Vb (ext 1 v98) fun v100 =>
          Eb (nw #[Value.int IntKind.i64 0, Value.int IntKind.u32 0, Value.int IntKind.u32 0] I.t_api_Word h14) fun v23 h19 =>
          Sb (sto 3 v23 v99 h19) fun h20 =>
          Vb (uno .not v100) fun v102 =>
          Br v102 (
            R (Value.bool false) h20) (
            Vb (fa 0 x7) fun v105 =>
            Vb (ldc v105 h20) fun v106 =>
            Vb (lkm (.int .i64) (Value.agg #[Value.int IntKind.i64 0, Value.int IntKind.u32 0, Value.int IntKind.u32 0]) false v106 v65 h20) fun v108 =>
            Sb (mup (.int .i64) v51 v65 v108 h20) fun h21 =>
            Vb (bin .add v52 (Value.int IntKind.i64 1)) fun v109 =>
            again0 v109 h21))) (
        R (Value.bool false) h11)))

def F_simulcastlaw33_StackNodes (S : Sys) (I : Ids) (n0 l1 : Value) (h : Hp) (R : Value → Hp → Prop) : Prop :=
  S.C I.f_simulcastlaw33_great [l1] h fun v18 h1 =>
  Br v18 (
    S.C I.f_simulcastlaw33_awake [] h1 fun v19 h2 =>
    R v19 h2) (
    S.C I.f_simulcastlaw33_played [n0, l1] h1 fun v23 h3 =>
    Vb (ext 0 v23) fun v24 =>
    Vb (ext 1 v23) fun v25 =>
    Eb (nw #[Value.map none, Value.int IntKind.i64 0, Value.int IntKind.i64 0, Value.int IntKind.i64 0, Value.slice none 0 0, Value.slice none 0 0] I.t_simulcastlaw33_state h3) fun x5 h4 =>
    Sb (sto 6 x5 v24 h4) fun h5 =>
    Vb (uno .not v25) fun v27 =>
    Br v27 (
      R (Value.bool false) h5) (
      Vb (fa 1 x5) fun v29 =>
      Vb (lda 3 v29 h5) fun v30 =>
      Vb (some (.func (.func I.f_simulcastlaw33_StackNodes_1) #[] #[x5])) fun v31 =>
      S.C I.f_pool_Pool_Free [v30, v31] h5 fun v32 h6 =>
      Vb (ext 0 v32) fun v33 =>
      Vb (ext 1 v32) fun v34 =>
      Vb (bin .neq v34 (Value.int IntKind.i64 0)) fun v36 =>
      Br v36 (
        R (Value.bool false) h6) (
        Eb (mmk h6) fun v37 h7 =>
        Vb (lnS v33) fun v39 =>
        Lp1 (Value.int IntKind.i64 0) h7 fun v40 h8 again0 =>
        Vb (bin .lss v40 v39) fun v41 =>
        Br v41 (
          Vb (ixs 1 v33 v40) fun v42 =>
          Vb (ldc v42 h8) fun v43 =>
          Sb (mup (.int .i64) v37 v43 (Value.bool true) h8) fun h9 =>
          Vb (bin .add v40 (Value.int IntKind.i64 1)) fun v46 =>
          again0 v46 h9) (
          Vb (lda 2 (.pointer (some ⟨0, 0, none⟩)) h8) fun v47 =>
          Lp1 (Value.int IntKind.i64 0) h8 fun v48 h10 again1 =>
          Vb (bin .lss v48 (Value.int IntKind.i64 2)) fun v49 =>
          Br v49 (
            Vb (idc 2 1 v47 v48) fun v50 =>
            Vb (fa 0 x5) fun v51 =>
            Vb (ldc v51 h10) fun v52 =>
            Vb (lkm (.int .i64) (Value.agg #[Value.int IntKind.i64 0, Value.int IntKind.u32 0, Value.int IntKind.u32 0]) false v52 v50 h10) fun v54 =>
            Vb (fdc 0 v54) fun v55 =>
            Vb (fa 0 x5) fun v56 =>
            Vb (ldc v56 h10) fun v57 =>
            Vb (bin .add v50 (Value.int IntKind.i64 1)) fun v59 =>
            Vb (lkm (.int .i64) (Value.agg #[Value.int IntKind.i64 0, Value.int IntKind.u32 0, Value.int IntKind.u32 0]) false v57 v59 h10) fun v60 =>
            Vb (fdc 0 v60) fun v61 =>
            Lp2 v55 (Value.int IntKind.i64 0) h10 fun at14 v62 h11 again2 =>
            Vb (bin .lss v62 v61) fun v63 =>
            Br v63 (
              Vb (fa 1 x5) fun v65 =>
              Vb (lda 3 v65 h11) fun v66 =>
              S.C I.f_pool_Pool_Node [v66, at14] h11 fun v68 h12 =>
              Vb (ext 0 v68) fun v69 =>
              Vb (ext 1 v68) fun v70 =>
              Jn1 (fun v77 h13 =>
                  Br v77 (
                    R (Value.bool false) h13) (
                    Sb (mup (.int .i64) v37 v69 (Value.bool true) h13) fun h14 =>
                    Vb (fa 0 x5) fun v80 =>
                    Vb (ldc v80 h14) fun v81 =>
                    Vb (lkm (.int .i64) (Value.agg #[Value.int IntKind.i64 0, Value.int IntKind.u32 0, Value.int IntKind.u32 0]) false v81 at14 h14) fun v83 =>
                    Vb (fdc 0 v83) fun v84 =>
                    Vb (bin .add v62 (Value.int IntKind.i64 1)) fun v85 =>
                    again2 v84 v85 h14)) fun J0 =>
              Vb (uno .not v70) fun v72 =>
              Br v72 (
                J0 (Value.bool true) h12) (
                Vb (lkm (.int .i64) (Value.bool false) false v37 v69 h12) fun v76 =>
                J0 v76 h12)) (
              Vb (bin .neq at14 (Value.int IntKind.i64 0)) fun v87 =>
              Br v87 (
                R (Value.bool false) h11) (
                Vb (bin .add v48 (Value.int IntKind.i64 1)) fun v88 =>
                again1 v88 h11))) (
            Jn1 (fun v4 h15 =>
                R v4 h15) fun J1 =>
            Vb (lnM v37 h10) fun v90 =>
            Vb (fa 0 x5) fun v91 =>
            Vb (ldc v91 h10) fun v92 =>
            Vb (lkm (.int .i64) (Value.agg #[Value.int IntKind.i64 0, Value.int IntKind.u32 0, Value.int IntKind.u32 0]) false v92 (Value.int IntKind.i64 2) h10) fun v93 =>
            Vb (fdc 0 v93) fun v94 =>
            Vb (bin .eql v90 v94) fun v95 =>
            Br v95 (
              Vb (lnS v33) fun v98 =>
              Vb (fa 0 x5) fun v99 =>
              Vb (ldc v99 h10) fun v100 =>
              Vb (lkm (.int .i64) (Value.agg #[Value.int IntKind.i64 0, Value.int IntKind.u32 0, Value.int IntKind.u32 0]) false v100 (Value.int IntKind.i64 3) h10) fun v101 =>
              Vb (fdc 0 v101) fun v102 =>
              Vb (bin .eql v98 v102) fun v103 =>
              Br v103 (
                S.C I.f_simulcastlaw33_awake [] h10 fun v106 h16 =>
                J1 v106 h16) (
                J1 (Value.bool false) h10)) (
              J1 (Value.bool false) h10))))))

def F_simulcastlaw33_great (S : Sys) (I : Ids) (l0 : Value) (h : Hp) (R : Value → Hp → Prop) : Prop :=
  Vb (lnS l0) fun v4 =>
  Vb (bin .gtr v4 (Value.int IntKind.i64 60)) fun v5 =>
  R v5 h

def F_simulcastlaw33_awake (S : Sys) (I : Ids) (h : Hp) (R : Value → Hp → Prop) : Prop :=
  Vb (bldS [(0, 1), (1, 1), (2, 1)] #[Value.int IntKind.u8 0, Value.int IntKind.u8 0, Value.int IntKind.i64 0] [(2, (Value.int IntKind.i64 1))]) fun v13 =>
  Vb (bldS [(0, 1), (1, 1), (2, 1)] #[Value.int IntKind.u8 0, Value.int IntKind.u8 0, Value.int IntKind.i64 0] [(2, (Value.int IntKind.i64 2))]) fun v14 =>
  Eb (bsl #[Value.int IntKind.u8 0, Value.int IntKind.u8 0, Value.int IntKind.i64 0] 3 2 I.t_simulcastlaw33_Call [(0, v13), (1, v14)] h) fun v15 h1 =>
  S.C I.f_simulcastlaw33_played [(Value.int IntKind.u8 4), v15] h1 fun v16 h2 =>
  Vb (ext 0 v16) fun v17 =>
  Vb (ext 1 v16) fun v18 =>
  Eb (nw #[Value.map none, Value.int IntKind.i64 0, Value.int IntKind.i64 0, Value.int IntKind.i64 0, Value.slice none 0 0, Value.slice none 0 0] I.t_simulcastlaw33_state h2) fun x1 h3 =>
  Sb (sto 6 x1 v17 h3) fun h4 =>
  Vb (uno .not v18) fun v20 =>
  Br v20 (
    R (Value.bool false) h4) (
    Vb (lda 6 x1 h4) fun v22 =>
    Vb (bldS [(0, 1), (1, 1), (2, 1)] #[Value.int IntKind.u8 0, Value.int IntKind.u8 0, Value.int IntKind.i64 0] [(0, (Value.int IntKind.u8 2))]) fun v23 =>
    S.C I.f_simulcastlaw33_step [v22, v23] h4 fun v24 h5 =>
    Vb (ext 0 v24) fun v25 =>
    Vb (ext 1 v24) fun v26 =>
    Vb (ext 2 v24) fun v27 =>
    Eb (nw #[Value.map none, Value.int IntKind.i64 0, Value.int IntKind.i64 0, Value.int IntKind.i64 0, Value.slice none 0 0, Value.slice none 0 0] I.t_simulcastlaw33_state h5) fun y3 h6 =>
    Sb (sto 6 y3 v25 h6) fun h7 =>
    Vb (lda 6 y3 h7) fun v29 =>
    Vb (bldS [(0, 1), (1, 1), (2, 1)] #[Value.int IntKind.u8 0, Value.int IntKind.u8 0, Value.int IntKind.i64 0] [(0, (Value.int IntKind.u8 2))]) fun v30 =>
    S.C I.f_simulcastlaw33_step [v29, v30] h7 fun v31 h8 =>
    Vb (ext 0 v31) fun v32 =>
    Vb (ext 1 v31) fun v33 =>
    Vb (ext 2 v31) fun v34 =>
    Eb (nw #[Value.map none, Value.int IntKind.i64 0, Value.int IntKind.i64 0, Value.int IntKind.i64 0, Value.slice none 0 0, Value.slice none 0 0] I.t_simulcastlaw33_state h8) fun z6 h9 =>
    Sb (sto 6 z6 v32 h9) fun h10 =>
    Vb (lda 6 z6 h10) fun v36 =>
    Vb (bldS [(0, 1), (1, 1), (2, 1)] #[Value.int IntKind.u8 0, Value.int IntKind.u8 0, Value.int IntKind.i64 0] [(0, (Value.int IntKind.u8 2))]) fun v37 =>
    S.C I.f_simulcastlaw33_step [v36, v37] h10 fun v38 h11 =>
    Vb (ext 0 v38) fun v39 =>
    Vb (ext 1 v38) fun v40 =>
    Vb (ext 2 v38) fun v41 =>
    Eb (nw #[Value.map none, Value.int IntKind.i64 0, Value.int IntKind.i64 0, Value.int IntKind.i64 0, Value.slice none 0 0, Value.slice none 0 0] I.t_simulcastlaw33_state h11) fun v9 h12 =>
    Sb (sto 6 v9 v39 h12) fun h13 =>
    Jn1 (fun v0 h14 =>
        R v0 h14) fun J0 =>
    Br v27 (
      Br v34 (
        Br v41 (
          Vb (fa 4 x1) fun v50 =>
          Vb (ixa 2 1 v50 (Value.int IntKind.i64 0)) fun v51 =>
          Vb (ldc v51 h13) fun v52 =>
          Vb (lnS v52) fun v53 =>
          Vb (bin .eql v53 (Value.int IntKind.i64 2)) fun v54 =>
          Br v54 (
            Vb (fa 4 z6) fun v57 =>
            Vb (ixa 2 1 v57 (Value.int IntKind.i64 0)) fun v58 =>
            Vb (ldc v58 h13) fun v59 =>
            Vb (lnS v59) fun v60 =>
            Vb (bin .eql v60 (Value.int IntKind.i64 0)) fun v61 =>
            Br v61 (
              Vb (fa 0 z6) fun v64 =>
              Vb (ldc v64 h13) fun v65 =>
              Vb (lnM v65 h13) fun v66 =>
              Vb (bin .eql v66 (Value.int IntKind.i64 192)) fun v67 =>
              Br v67 (
                Vb (fa 0 z6) fun v70 =>
                Vb (ldc v70 h13) fun v71 =>
                Vb (lkm (.int .i64) (Value.agg #[Value.int IntKind.i64 0, Value.int IntKind.u32 0, Value.int IntKind.u32 0]) false v71 (Value.int IntKind.i64 8) h13) fun v72 =>
                Vb (fdc 0 v72) fun v73 =>
                Vb (bin .eql v73 (Value.int IntKind.i64 0)) fun v74 =>
                J0 v74 h13) (
                J0 (Value.bool false) h13)) (
              J0 (Value.bool false) h13)) (
            J0 (Value.bool false) h13)) (
          J0 (Value.bool false) h13)) (
        J0 (Value.bool false) h13)) (
      J0 (Value.bool false) h13))

def F_simulcastlaw33_played (S : Sys) (I : Ids) (n0 l1 : Value) (h : Hp) (R : Value → Hp → Prop) : Prop :=
  Eb (nw #[Value.map none, Value.int IntKind.i64 0, Value.int IntKind.i64 0, Value.int IntKind.i64 0, Value.slice none 0 0, Value.slice none 0 0] I.t_simulcastlaw33_state h) fun v4 h1 =>
  S.C I.f_simulcastlaw33_Fresh [(Value.int IntKind.i64 192)] h1 fun v12 h2 =>
  S.C I.f_simulcastlaw33_Nodes [n0] h2 fun v14 h3 =>
  Vb (bldS [(0, 1), (1, 3), (4, 2)] #[Value.map none, Value.int IntKind.i64 0, Value.int IntKind.i64 0, Value.int IntKind.i64 0, Value.slice none 0 0, Value.slice none 0 0] [(0, v12), (1, v14)]) fun v15 =>
  Eb (nw #[Value.map none, Value.int IntKind.i64 0, Value.int IntKind.i64 0, Value.int IntKind.i64 0, Value.slice none 0 0, Value.slice none 0 0] I.t_simulcastlaw33_state h3) fun x6 h4 =>
  Sb (sto 6 x6 v15 h4) fun h5 =>
  Vb (lnS l1) fun v17 =>
  Lp1 (Value.int IntKind.i64 0) h5 fun v18 h6 again0 =>
  Vb (bin .lss v18 v17) fun v19 =>
  Br v19 (
    Vb (ixs 3 l1 v18) fun v20 =>
    Vb (lda 3 v20 h6) fun v21 =>
    Eb (nw #[Value.int IntKind.u8 0, Value.int IntKind.u8 0, Value.int IntKind.i64 0] I.t_simulcastlaw33_Call h6) fun c8 h7 =>
    Sb (sto 3 c8 v21 h7) fun h8 =>
    Vb (lda 6 x6 h8) fun v23 =>
    Vb (lda 3 c8 h8) fun v24 =>
    S.C I.f_simulcastlaw33_step [v23, v24] h8 fun v25 h9 =>
    Vb (ext 0 v25) fun v26 =>
    Vb (ext 1 v25) fun v27 =>
    Vb (ext 2 v25) fun v28 =>
    Eb (nw #[Value.map none, Value.int IntKind.i64 0, Value.int IntKind.i64 0, Value.int IntKind.i64 0, Value.slice none 0 0, Value.slice none 0 0] I.t_simulcastlaw33_state h9) fun next9 h10 =>
    Sb (sto 6 next9 v26 h10) fun h11 =>
    Jn1 (fun v35 h12 =>
        Br v35 (
          Vb (lda 6 x6 h12) fun v36 =>
          Sb (sto 6 v4 v36 h12) fun h13 =>
          Vb (lda 6 v4 h13) fun r0 =>
          R (.tuple #[r0, (Value.bool false)]) h13) (
          Vb (lda 6 next9 h12) fun v37 =>
          Sb (sto 6 x6 v37 h12) fun h14 =>
          Vb (bin .add v18 (Value.int IntKind.i64 1)) fun v38 =>
          again0 v38 h14)) fun J0 =>
    Vb (uno .not v28) fun v30 =>
    Br v30 (
      J0 (Value.bool true) h11) (
      Vb (lda 6 next9 h11) fun v32 =>
      S.C I.f_simulcastlaw33_is [v32] h11 fun v33 h15 =>
      Vb (uno .not v33) fun v34 =>
      J0 v34 h15)) (
    Vb (lda 6 x6 h6) fun v39 =>
    Sb (sto 6 v4 v39 h6) fun h16 =>
    Vb (lda 6 v4 h16) fun r0 =>
    R (.tuple #[r0, (Value.bool true)]) h16)

def F_simulcastlaw33_step (S : Sys) (I : Ids) (x0 c1 : Value) (h : Hp) (R : Value → Hp → Prop) : Prop :=
  Eb (nw (Value.cells x0) I.t_simulcastlaw33_state h) fun x2 h1 =>
  Eb (nw (Value.cells c1) I.t_simulcastlaw33_Call h1) fun c3 h2 =>
  Eb (nw #[Value.map none, Value.int IntKind.i64 0, Value.int IntKind.i64 0, Value.int IntKind.i64 0, Value.slice none 0 0, Value.slice none 0 0] I.t_simulcastlaw33_state h2) fun v4 h3 =>
  Vb (fa 1 c3) fun v13 =>
  Vb (ldc v13 h3) fun v14 =>
  Vb (bin .rem v14 (Value.int IntKind.u8 2)) fun v15 =>
  Vb (cvi .i64 v15) fun v16 =>
  Eb (nw #[Value.int IntKind.i64 0] I.t_int h3) fun i7 h4 =>
  Sb (sto 1 i7 v16 h4) fun h5 =>
  Vb (fa 1 x2) fun v17 =>
  Vb (fa 2 v17) fun v18 =>
  Vb (ldc v18 h5) fun v19 =>
  Vb (fa 4 x2) fun v20 =>
  Vb (ixa 2 1 v20 (Value.int IntKind.i64 0)) fun v21 =>
  Vb (ldc v21 h5) fun v22 =>
  Vb (lnS v22) fun v23 =>
  Vb (bin .sub v19 v23) fun v24 =>
  Vb (fa 4 x2) fun v25 =>
  Vb (ixa 2 1 v25 (Value.int IntKind.i64 1)) fun v26 =>
  Vb (ldc v26 h5) fun v27 =>
  Vb (lnS v27) fun v28 =>
  Vb (bin .sub v24 v28) fun v29 =>
  Eb (nw #[Value.int IntKind.i64 0] I.t_int h5) fun left8 h6 =>
  Sb (sto 1 left8 v29 h6) fun h7 =>
  Eb (nw #[Value.bool false] I.t_bool h7) fun ok9 h8 =>
  Sb (sto 1 ok9 (Value.bool true) h8) fun h9 =>
  Vb (fa 0 x2) fun v31 =>
  Vb (ldc v31 h9) fun v32 =>
  Vb (some (.func (.func I.f_simulcastlaw33_step_1) #[] #[c3, x2, i7, left8, ok9])) fun v33 =>
  S.C I.f_simulcastlaw33_World_Done [v32, v33] h9 fun v34 h10 =>
  Vb (ext 0 v34) fun v35 =>
  Vb (ext 1 v34) fun v36 =>
  Vb (ext 2 v34) fun v37 =>
  Vb (fa 0 x2) fun v39 =>
  Sb (sto 1 v39 v35 h10) fun h11 =>
  Jn2 (fun v5 v6 h12 =>
      Vb (lda 6 v4 h12) fun r0 =>
      R (.tuple #[r0, v5, v6]) h12) fun J0 =>
  Vb (lda 6 x2 h11) fun v40 =>
  Vb (ldc ok9 h11) fun v42 =>
  Br v42 (
    Sb (sto 6 v4 v40 h11) fun h13 =>
    J0 v36 v37 h13) (
    Sb (sto 6 v4 v40 h11) fun h14 =>
    J0 v36 (Value.bool false) h14)

def F_simulcastlaw33_Fresh (S : Sys) (I : Ids) (n0 : Value) (h : Hp) (R : Value → Hp → Prop) : Prop :=
  Eb (mmk h) fun v5 h1 =>
  Lp1 (Value.int IntKind.i64 0) h1 fun v7 h2 again0 =>
  Vb (bin .lss v7 n0) fun v8 =>
  Br v8 (
    Vb (bldS [(0, 1), (1, 1), (2, 1)] #[Value.int IntKind.i64 0, Value.int IntKind.u32 0, Value.int IntKind.u32 0] []) fun v12 =>
    Sb (mup (.int .i64) v5 v7 v12 h2) fun h3 =>
    Vb (bin .add v7 (Value.int IntKind.i64 1)) fun v13 =>
    again0 v13 h3) (
    R v5 h2)

def F_simulcastlaw33_Nodes (S : Sys) (I : Ids) (n0 : Value) (h : Hp) (R : Value → Hp → Prop) : Prop :=
  Eb (nw #[Value.int IntKind.i64 0, Value.int IntKind.i64 0, Value.int IntKind.i64 0] I.t_pool_Pool h) fun v2 h1 =>
  Vb (bin .rem n0 (Value.int IntKind.u8 17)) fun v4 =>
  Vb (cvi .i64 v4) fun v5 =>
  Vb (bldS [(0, 1), (1, 1), (2, 1)] #[Value.int IntKind.i64 0, Value.int IntKind.i64 0, Value.int IntKind.i64 0] [(0, (Value.int IntKind.i64 1)), (1, (Value.int IntKind.i64 64)), (2, v5)]) fun v6 =>
  Sb (sto 3 v2 v6 h1) fun h2 =>
  Vb (lda 3 v2 h2) fun r0 =>
  R r0 h2

def F_simulcastlaw33_World_Done (S : Sys) (I : Ids) (w0 do1 : Value) (h : Hp) (R : Value → Hp → Prop) : Prop :=
  S.C I.f_space_New [w0] h fun v20 h1 =>
  Cv S.C S.Y do1 [v20] h1 fun v23 h2 =>
  S.C I.f_space_Space_Entries [v20] h2 fun v26 h3 =>
  Vb (ext 0 v26) fun v27 =>
  Vb (ext 1 v26) fun v28 =>
  Eb (mmk h3) fun v29 h4 =>
  Eb (rng w0 h4) fun v31 h5 =>
  Lp0 h5 fun h6 again0 =>
  Nx v31 h6 fun v32 h7 =>
  Vb (ext 0 v32) fun v33 =>
  Br v33 (
    Vb (ent v31 h7) fun v34 =>
    Vb (ext 0 v34) fun v35 =>
    Vb (ext 1 v34) fun v36 =>
    Eb (nw #[Value.int IntKind.i64 0, Value.int IntKind.u32 0, Value.int IntKind.u32 0] I.t_api_Word h7) fun x12 h8 =>
    Sb (sto 3 x12 v36 h8) fun h9 =>
    Vb (lda 3 x12 h9) fun v39 =>
    Sb (mup (.int .i64) v29 v35 v39 h9) fun h10 =>
    again0 h10) (
    Vb (lnS v27) fun v41 =>
    Lp1 (Value.int IntKind.i64 0) h7 fun v42 h11 again1 =>
    Vb (bin .lss v42 v41) fun v43 =>
    Br v43 (
      Jn0 (fun h12 =>
          Vb (bin .add v42 (Value.int IntKind.i64 1)) fun v77 =>
          again1 v77 h12) fun J0 =>
      Vb (ixs 6 v27 v42) fun v44 =>
      Vb (lda 6 v44 h11) fun v45 =>
      Eb (nw #[Value.int IntKind.i64 0, Value.int IntKind.i64 0, Value.int IntKind.u32 0, Value.int IntKind.u32 0, Value.int IntKind.i64 0, Value.bool false] I.t_api_Entry h11) fun x14 h13 =>
      Sb (sto 6 x14 v45 h13) fun h14 =>
      Vb (fa 0 x14) fun v48 =>
      Vb (ldc v48 h14) fun v49 =>
      Vb (lkm (.int .i64) (Value.agg #[Value.int IntKind.i64 0, Value.int IntKind.u32 0, Value.int IntKind.u32 0]) true v29 v49 h14) fun v50 =>
      Vb (ext 0 v50) fun v51 =>
      Vb (ext 1 v50) fun v52 =>
      Eb (nw #[Value.int IntKind.i64 0, Value.int IntKind.u32 0, Value.int IntKind.u32 0] I.t_api_Word h14) fun v15 h15 =>
      Sb (sto 3 v15 v51 h15) fun h16 =>
      Jn1 (fun v63 h17 =>
          Br v63 (
            R (.tuple #[w0, (Value.slice none 0 0), (Value.bool false)]) h17) (
            Vb (fa 5 x14) fun v65 =>
            Vb (ldc v65 h17) fun v66 =>
            Br v66 (
              Vb (fa 0 x14) fun v68 =>
              Vb (ldc v68 h17) fun v69 =>
              Vb (fa 4 x14) fun v70 =>
              Vb (ldc v70 h17) fun v71 =>
              Vb (fa 1 x14) fun v72 =>
              Vb (fa 1 v72) fun v73 =>
              Vb (ldc v73 h17) fun v74 =>
              Vb (bin .add v74 (Value.int IntKind.u32 1)) fun v75 =>
              Vb (bldS [(0, 1), (1, 1), (2, 1)] #[Value.int IntKind.i64 0, Value.int IntKind.u32 0, Value.int IntKind.u32 0] [(0, v71), (1, v75)]) fun v76 =>
              Sb (mup (.int .i64) v29 v69 v76 h17) fun h18 =>
              J0 h18) (
              J0 h17))) fun J1 =>
      Vb (uno .not v52) fun v54 =>
      Br v54 (
        J1 (Value.bool true) h16) (
        Vb (fa 1 x14) fun v56 =>
        Vb (lda 3 v56 h16) fun v57 =>
        Vb (fa 0 x14) fun v59 =>
        Vb (ldc v59 h16) fun v60 =>
        Vb (lkm (.int .i64) (Value.agg #[Value.int IntKind.i64 0, Value.int IntKind.u32 0, Value.int IntKind.u32 0]) false w0 v60 h16) fun v61 =>
        Vb (neg? (eqA [true, true, true] v57 v61)) fun v62 =>
        J1 v62 h16)) (
      Jn0 (fun h19 =>
          Jn3 (fun v4 v5 v6 h20 =>
              R (.tuple #[v4, v5, v6]) h20) fun J3 =>
          Vb (bin .eql v28 (Value.int IntKind.i64 0)) fun v102 =>
          Br v102 (
            S.C I.f_space_Space_Ended [v20] h19 fun v109 h21 =>
            Vb (uno .not v109) fun v110 =>
            J3 v29 v27 v110 h21) (
            Vb (bin .eql v28 (Value.int IntKind.i64 15)) fun v105 =>
            Br v105 (
              S.C I.f_space_Space_Ended [v20] h19 fun v109_1 h22 =>
              Vb (uno .not v109_1) fun v110_1 =>
              J3 v29 v27 v110_1 h22) (
              J3 v29 v27 (Value.bool false) h19))) fun J2 =>
      Vb (bin .eql v28 (Value.int IntKind.i64 15)) fun v79 =>
      Br v79 (
        S.C I.f_space_Space_Writes [v20] h11 fun v81 h23 =>
        Vb (lnS v81) fun v82 =>
        Lp1 (Value.int IntKind.i64 0) h23 fun v83 h24 again2 =>
        Vb (bin .lss v83 v82) fun v84 =>
        Br v84 (
          Vb (ixs 1 v81 v83) fun v85 =>
          Vb (ldc v85 h24) fun v86 =>
          Vb (lkm (.int .i64) (Value.agg #[Value.int IntKind.i64 0, Value.int IntKind.u32 0, Value.int IntKind.u32 0]) false w0 v86 h24) fun v94 =>
          Vb (fdc 1 v94) fun v95 =>
          Vb (bin .add v95 (Value.int IntKind.u32 1)) fun v96 =>
          S.C I.f_space_Space_Get [v20, v86] h24 fun v91 h25 =>
          lkm (.int .i64) (Value.agg #[Value.int IntKind.i64 0, Value.int IntKind.u32 0, Value.int IntKind.u32 0]) false w0 v86 h25 = some v94 ∧
          Vb (bldS [(0, 1), (1, 1), (2, 1)] #[Value.int IntKind.i64 0, Value.int IntKind.u32 0, Value.int IntKind.u32 0] [(0, v91), (1, v96)]) fun v97 =>
          Sb (mup (.int .i64) v29 v86 v97 h25) fun h26 =>
          Vb (bin .add v83 (Value.int IntKind.i64 1)) fun v98 =>
          again2 v98 h26) (
          J2 h24)) (
        J2 h11)))

def F_simulcastlaw33_StackBroken_1 (S : Sys) (I : Ids) (s0 v1 v2 v3 v4 : Value) (h : Hp) (R : Value → Hp → Prop) : Prop :=
  Vb (fa 0 v1) fun v6 =>
  Vb (ldc v6 h) fun v7 =>
  Vb (bin .rem v7 (Value.int IntKind.u8 3)) fun v8 =>
  Vb (bin .lss v8 (Value.int IntKind.u8 2)) fun v9 =>
  Br v9 (
    Vb (lda 3 v2 h) fun v11 =>
    Vb (ldc v3 h) fun v12 =>
    Vb (fa 2 v1) fun v13 =>
    Vb (ldc v13 h) fun v14 =>
    S.C I.f_stack_Push [s0, v11, v12, v14] h fun v15 h1 =>
    Sb (sto 1 v4 v15 h1) fun h2 =>
    R (.tuple #[]) h2) (
    Vb (lda 3 v2 h) fun v18 =>
    Vb (ldc v3 h) fun v19 =>
    S.C I.f_stack_Pop [s0, v18, v19] h fun v20 h3 =>
    Vb (ext 0 v20) fun v21 =>
    Vb (ext 1 v20) fun v22 =>
    Sb (sto 1 v4 v22 h3) fun h4 =>
    R (.tuple #[]) h4)

def F_stack_Push (S : Sys) (I : Ids) (s0 p1 root2 v3 : Value) (h : Hp) (R : Value → Hp → Prop) : Prop :=
  Eb (nw (Value.cells p1) I.t_pool_Pool h) fun p5 h1 =>
  Eb (nw #[Value.int IntKind.i64 0] I.t_api_Errno h1) fun e8 h2 =>
  S.C I.f_space_Space_Mark [s0] h2 fun v12 h3 =>
  Vb (lda 3 p5 h3) fun v14 =>
  S.C I.f_pool_Pool_Take [v14, s0] h3 fun v16 h4 =>
  Vb (ext 0 v16) fun v17 =>
  Vb (ext 1 v16) fun v18 =>
  Sb (sto 1 e8 v18 h4) fun h5 =>
  Vb (ldc e8 h5) fun v19 =>
  Vb (bin .neq v19 (Value.int IntKind.i64 0)) fun v20 =>
  Br v20 (
    Vb (ldc e8 h5) fun v21 =>
    Sb (sto 1 e8 v21 h5) fun h6 =>
    S.D I.f_stack_undo [s0, v12, e8] h6 fun h7 =>
    Vb (ldc e8 h7) fun r0 =>
    R r0 h7) (
    Vb (bin .add v17 (Value.int IntKind.i64 0)) fun v24 =>
    Vb (bin .add root2 (Value.int IntKind.i64 0)) fun v27 =>
    S.C I.f_space_Space_Get [s0, v27] h5 fun v28 h8 =>
    S.C I.f_space_Space_Put [s0, v24, v28] h8 fun v29 h9 =>
    Vb (bin .add v17 (Value.int IntKind.i64 1)) fun v32 =>
    S.C I.f_space_Space_Put [s0, v32, v3] h9 fun v34 h10 =>
    Vb (bin .add root2 (Value.int IntKind.i64 0)) fun v37 =>
    S.C I.f_space_Space_Put [s0, v37, v17] h10 fun v39 h11 =>
    S.C I.f_stack_more [s0, root2, (Value.int IntKind.i64 1)] h11 fun v42 h12 =>
    Sb (sto 1 e8 (Value.int IntKind.i64 0) h12) fun h13 =>
    S.D I.f_stack_undo [s0, v12, e8] h13 fun h14 =>
    Vb (ldc e8 h14) fun r0 =>
    R r0 h14)

def F_stack_Pop (S : Sys) (I : Ids) (s0 p1 root2 : Value) (h : Hp) (R : Value → Hp → Prop) : Prop :=
  Eb (nw (Value.cells p1) I.t_pool_Pool h) fun p4 h1 =>
  Eb (nw #[Value.int IntKind.i64 0] I.t_api_Errno h1) fun e7 h2 =>
  S.C I.f_space_Space_Mark [s0] h2 fun v15 h3 =>
  Vb (bin .add root2 (Value.int IntKind.i64 0)) fun v18 =>
  S.C I.f_space_Space_Get [s0, v18] h3 fun v19 h4 =>
  Vb (bin .eql v19 (Value.int IntKind.i64 0)) fun v21 =>
  Br v21 (
    Sb (sto 1 e7 (Value.int IntKind.i64 8) h4) fun h5 =>
    S.D I.f_stack_undo [s0, v15, e7] h5 fun h6 =>
    Vb (ldc e7 h6) fun r1 =>
    R (.tuple #[(Value.int IntKind.i64 0), r1]) h6) (
    Vb (lda 3 p4 h4) fun v23 =>
    S.C I.f_pool_Pool_Node [v23, v19] h4 fun v25 h7 =>
    Vb (ext 0 v25) fun v26 =>
    Vb (ext 1 v25) fun v27 =>
    Vb (uno .not v27) fun v29 =>
    Br v29 (
      Sb (sto 1 e7 (Value.int IntKind.i64 24) h7) fun h8 =>
      S.D I.f_stack_undo [s0, v15, e7] h8 fun h9 =>
      Vb (ldc e7 h9) fun r1 =>
      R (.tuple #[(Value.int IntKind.i64 0), r1]) h9) (
      Vb (bin .add v19 (Value.int IntKind.i64 0)) fun v32 =>
      S.C I.f_space_Space_Get [s0, v32] h7 fun v33 h10 =>
      Vb (bin .add v19 (Value.int IntKind.i64 1)) fun v36 =>
      S.C I.f_space_Space_Get [s0, v36] h10 fun v37 h11 =>
      Vb (lda 3 p4 h11) fun v38 =>
      S.C I.f_pool_Pool_Give [v38, s0, v19] h11 fun v41 h12 =>
      Vb (bin .neq v41 (Value.int IntKind.i64 0)) fun v43 =>
      Br v43 (
        Sb (sto 1 e7 v41 h12) fun h13 =>
        S.D I.f_stack_undo [s0, v15, e7] h13 fun h14 =>
        Vb (ldc e7 h14) fun r1 =>
        R (.tuple #[(Value.int IntKind.i64 0), r1]) h14) (
        Vb (bin .add root2 (Value.int IntKind.i64 0)) fun v47 =>
        S.C I.f_space_Space_Put [s0, v47, v33] h12 fun v49 h15 =>
        S.C I.f_stack_more [s0, root2, (Value.int IntKind.i64 (-1))] h15 fun v52 h16 =>
        Sb (sto 1 e7 (Value.int IntKind.i64 0) h16) fun h17 =>
        S.D I.f_stack_undo [s0, v15, e7] h17 fun h18 =>
        Vb (ldc e7 h18) fun r1 =>
        R (.tuple #[v37, r1]) h18)))

def F_simulcastlaw33_StackBroken_2 (S : Sys) (I : Ids) (s0 v1 v2 v3 v4 : Value) (h : Hp) (R : Value → Hp → Prop) : Prop :=
  Vb (lda 3 v1 h) fun v8 =>
  Vb (ldc v2 h) fun v9 =>
  S.C I.f_stack_Walk [s0, v8, v9] h fun v10 h1 =>
  Vb (ext 0 v10) fun v11 =>
  Vb (ext 1 v10) fun v12 =>
  Sb (sto 1 v3 v11 h1) fun h2 =>
  Sb (sto 1 v4 v12 h2) fun h3 =>
  R (.tuple #[]) h3

def F_stack_Walk (S : Sys) (I : Ids) (s0 p1 root2 : Value) (h : Hp) (R : Value → Hp → Prop) : Prop :=
  Eb (nw (Value.cells p1) I.t_pool_Pool h) fun p4 h1 =>
  Vb (bin .add root2 (Value.int IntKind.i64 0)) fun v14 =>
  S.C I.f_space_Space_Get [s0, v14] h1 fun v15 h2 =>
  Lp2 (Value.slice none 0 0) v15 h2 fun out8 at9 h3 again0 =>
  Vb (lda 3 p4 h3) fun v17 =>
  S.C I.f_pool_Pool_Node [v17, at9] h3 fun v19 h4 =>
  Vb (ext 0 v19) fun v20 =>
  Vb (ext 1 v19) fun v21 =>
  Vb (bin .eql at9 (Value.int IntKind.i64 0)) fun v24 =>
  Br v24 (
    R (.tuple #[out8, (Value.int IntKind.i64 0)]) h4) (
    Jn1 (fun v25 h5 =>
        Br v25 (
          R (.tuple #[(Value.slice none 0 0), (Value.int IntKind.i64 24)]) h5) (
          Vb (bin .add at9 (Value.int IntKind.i64 1)) fun v38 =>
          S.C I.f_space_Space_Get [s0, v38] h5 fun v39 h6 =>
          Eb (bsl #[Value.int IntKind.i64 0] 1 1 I.t_int64 [(0, v39)] h6) fun v40 h7 =>
          Ap I.t_int64 #[Value.int IntKind.i64 0] 1 8 out8 v40 h7 fun v41 h8 =>
          Vb (bin .add at9 (Value.int IntKind.i64 0)) fun v44 =>
          S.C I.f_space_Space_Get [s0, v44] h8 fun v45 h9 =>
          again0 v41 v45 h9)) fun J0 =>
    Vb (uno .not v21) fun v27 =>
    Br v27 (
      J0 (Value.bool true) h4) (
      Vb (lnS out8) fun v30 =>
      Vb (fa 2 p4) fun v31 =>
      Vb (ldc v31 h4) fun v32 =>
      Vb (bin .geq v30 v32) fun v33 =>
      J0 v33 h4))

def F_simulcastlaw33_Alike (S : Sys) (I : Ids) (a0 b1 : Value) (h : Hp) (R : Value → Hp → Prop) : Prop :=
  Vb (lnM a0 h) fun v8 =>
  Vb (lnM b1 h) fun v10 =>
  Vb (bin .neq v8 v10) fun v11 =>
  Br v11 (
    R (Value.bool false) h) (
    Eb (rng a0 h) fun v13 h1 =>
    Lp0 h1 fun h2 again0 =>
    Nx v13 h2 fun v14 h3 =>
    Vb (ext 0 v14) fun v15 =>
    Br v15 (
      Vb (ent v13 h3) fun v16 =>
      Vb (ext 0 v16) fun v17 =>
      Vb (ext 1 v16) fun v18 =>
      Eb (nw #[Value.int IntKind.i64 0, Value.int IntKind.u32 0, Value.int IntKind.u32 0] I.t_api_Word h3) fun x6 h4 =>
      Sb (sto 3 x6 v18 h4) fun h5 =>
      Vb (lkm (.int .i64) (Value.agg #[Value.int IntKind.i64 0, Value.int IntKind.u32 0, Value.int IntKind.u32 0]) false b1 v17 h5) fun v21 =>
      Vb (fdc 0 v21) fun v22 =>
      Vb (fa 0 x6) fun v23 =>
      Vb (ldc v23 h5) fun v24 =>
      Vb (bin .neq v22 v24) fun v25 =>
      Br v25 (
        R (Value.bool false) h5) (
        again0 h5)) (
      R (Value.bool true) h3))

def F_pool_Pool_Node (S : Sys) (I : Ids) (p0 at1 : Value) (h : Hp) (R : Value → Hp → Prop) : Prop :=
  Eb (nw (Value.cells p0) I.t_pool_Pool h) fun p2 h1 =>
  Jn1 (fun v23 h2 =>
      Br v23 (
        R (.tuple #[(Value.int IntKind.i64 0), (Value.bool false)]) h2) (
        Vb (fa 1 p2) fun v25 =>
        Vb (ldc v25 h2) fun v26 =>
        Vb (bin .sub at1 v26) fun v27 =>
        Vb (bin .quo v27 (Value.int IntKind.i64 8)) fun v28 =>
        Vb (fa 2 p2) fun v30 =>
        Vb (ldc v30 h2) fun v31 =>
        Vb (bin .geq v28 v31) fun v32 =>
        Br v32 (
          R (.tuple #[(Value.int IntKind.i64 0), (Value.bool false)]) h2) (
          R (.tuple #[v28, (Value.bool true)]) h2))) fun J0 =>
  Vb (lda 3 p2 h1) fun v7 =>
  S.C I.f_pool_Pool_Check [v7] h1 fun v8 h3 =>
  Vb (bin .neq v8 (Value.int IntKind.i64 0)) fun v9 =>
  Br v9 (
    J0 (Value.bool true) h3) (
    Vb (fa 1 p2) fun v12 =>
    Vb (ldc v12 h3) fun v13 =>
    Vb (bin .lss at1 v13) fun v14 =>
    Br v14 (
      J0 (Value.bool true) h3) (
      Vb (fa 1 p2) fun v18 =>
      Vb (ldc v18 h3) fun v19 =>
      Vb (bin .sub at1 v19) fun v20 =>
      Vb (bin .rem v20 (Value.int IntKind.i64 8)) fun v21 =>
      Vb (bin .neq v21 (Value.int IntKind.i64 0)) fun v22 =>
      J0 v22 h3))

def F_slices_Equal_int64_int64 (S : Sys) (I : Ids) (s10 s21 : Value) (h : Hp) (R : Value → Hp → Prop) : Prop :=
  Vb (lnS s10) fun v7 =>
  Vb (lnS s21) fun v9 =>
  Vb (bin .neq v7 v9) fun v10 =>
  Br v10 (
    R (Value.bool false) h) (
    Vb (lnS s10) fun v12 =>
    Lp1 (Value.int IntKind.i64 0) h fun v13 h1 again0 =>
    Vb (bin .lss v13 v12) fun v14 =>
    Br v14 (
      Vb (ixs 1 s10 v13) fun v18 =>
      Vb (ldc v18 h1) fun v19 =>
      Vb (ixs 1 s21 v13) fun v22 =>
      Vb (ldc v22 h1) fun v23 =>
      Vb (bin .neq v19 v23) fun v24 =>
      Br v24 (
        R (Value.bool false) h1) (
        Vb (bin .add v13 (Value.int IntKind.i64 1)) fun v25 =>
        again0 v25 h1)) (
      R (Value.bool true) h1))

def F_simulcastlaw33_StackTurns_1 (S : Sys) (I : Ids) (s0 v1 v2 v3 v4 : Value) (h : Hp) (R : Value → Hp → Prop) : Prop :=
  Vb (fa 1 v1) fun v6 =>
  Vb (lda 3 v6 h) fun v7 =>
  S.C I.f_pool_Pool_Left [v7, s0] h fun v9 h1 =>
  Sb (sto 1 v2 v9 h1) fun h2 =>
  Vb (fa 1 v1) fun v11 =>
  Vb (lda 3 v11 h2) fun v12 =>
  Vb (ixa 2 1 (.pointer (some ⟨0, 0, none⟩)) (Value.int IntKind.i64 0)) fun v13 =>
  Vb (ldc v13 h2) fun v14 =>
  Vb (ldc v3 h2) fun v15 =>
  S.C I.f_stack_Push [s0, v12, v14, v15] h2 fun v16 h3 =>
  Sb (sto 1 v4 v16 h3) fun h4 =>
  R (.tuple #[]) h4

def F_pool_Pool_Left (S : Sys) (I : Ids) (p0 s1 : Value) (h : Hp) (R : Value → Hp → Prop) : Prop :=
  Eb (nw (Value.cells p0) I.t_pool_Pool h) fun p2 h1 =>
  Vb (lda 3 p2 h1) fun v5 =>
  S.C I.f_pool_Pool_Check [v5] h1 fun v6 h2 =>
  Vb (bin .neq v6 (Value.int IntKind.i64 0)) fun v7 =>
  Br v7 (
    R (Value.int IntKind.i64 0) h2) (
    Vb (fa 0 p2) fun v9 =>
    Vb (ldc v9 h2) fun v10 =>
    Vb (bin .add v10 (Value.int IntKind.i64 2)) fun v11 =>
    Vb (fa 2 p2) fun v13 =>
    Vb (ldc v13 h2) fun v14 =>
    Vb (fa 0 p2) fun v17 =>
    Vb (ldc v17 h2) fun v18 =>
    Vb (bin .add v18 (Value.int IntKind.i64 1)) fun v19 =>
    S.C I.f_space_Space_Get [s1, v11] h2 fun v12 h3 =>
    ldc v17 h3 = some v18 ∧
    ldc v13 h3 = some v14 ∧
    Vb (bin .add v12 v14) fun v15 =>
    S.C I.f_space_Space_Get [s1, v19] h3 fun v20 h4 =>
    ldc v13 h4 = some v14 ∧
    Vb (bin .sub v15 v20) fun v21 =>
    Vb (mx v21 (Value.int IntKind.i64 0)) fun v22 =>
    R v22 h4)

def F_simulcastlaw33_StackTurns_2 (S : Sys) (I : Ids) (s0 v1 v2 v3 : Value) (h : Hp) (R : Value → Hp → Prop) : Prop :=
  Vb (fa 1 v1) fun v7 =>
  Vb (lda 3 v7 h) fun v8 =>
  Vb (ixa 2 1 (.pointer (some ⟨0, 0, none⟩)) (Value.int IntKind.i64 0)) fun v9 =>
  Vb (ldc v9 h) fun v10 =>
  S.C I.f_stack_Pop [s0, v8, v10] h fun v11 h1 =>
  Vb (ext 0 v11) fun v12 =>
  Vb (ext 1 v11) fun v13 =>
  Sb (sto 1 v2 v12 h1) fun h2 =>
  Sb (sto 1 v3 v13 h2) fun h3 =>
  R (.tuple #[]) h3

def F_simulcastlaw33_is (S : Sys) (I : Ids) (x0 : Value) (h : Hp) (R : Value → Hp → Prop) : Prop :=
  Eb (nw (Value.cells x0) I.t_simulcastlaw33_state h) fun x1 h1 =>
  Vb (fa 0 x1) fun v13 =>
  Vb (ldc v13 h1) fun v14 =>
  S.C I.f_simulcastlaw33_World_Done [v14, (.func (.func I.f_simulcastlaw33_is_1) #[] #[])] h1 fun v15 h2 =>
  Vb (ext 0 v15) fun v16 =>
  Vb (ext 1 v15) fun v17 =>
  Vb (ext 2 v15) fun v18 =>
  Eb (nw #[Value.bool false] I.t_bool h2) fun ok6 h3 =>
  Sb (sto 1 ok6 (Value.bool true) h3) fun h4 =>
  Vb (lda 2 (.pointer (some ⟨0, 0, none⟩)) h4) fun v19 =>
  Lp1 (Value.int IntKind.i64 0) h4 fun v20 h5 again0 =>
  Vb (bin .lss v20 (Value.int IntKind.i64 2)) fun v21 =>
  Br v21 (
    Jn0 (fun h6 =>
        Vb (bin .add v20 (Value.int IntKind.i64 1)) fun v42 =>
        again0 v42 h6) fun J0 =>
    Vb (idc 2 1 v19 v20) fun v23 =>
    Eb (nw #[Value.int IntKind.i64 0] I.t_int h5) fun i7 h7 =>
    Eb (nw #[Value.int IntKind.i64 0] I.t_api_Loc h7) fun root8 h8 =>
    Sb (sto 1 i7 v20 h8) fun h9 =>
    Sb (sto 1 root8 v23 h9) fun h10 =>
    Vb (fa 0 x1) fun v25 =>
    Vb (ldc v25 h10) fun v26 =>
    Vb (some (.func (.func I.f_simulcastlaw33_is_2) #[] #[x1, root8, i7, ok6])) fun v27 =>
    S.C I.f_simulcastlaw33_World_Done [v26, v27] h10 fun v28 h11 =>
    Vb (ext 0 v28) fun v29 =>
    Vb (ext 1 v28) fun v30 =>
    Vb (ext 2 v28) fun v31 =>
    Vb (ldc ok6 h11) fun v32 =>
    Br v32 (
      Br v31 (
        Vb (fa 0 x1) fun v38 =>
        Vb (ldc v38 h11) fun v39 =>
        S.C I.f_simulcastlaw33_Alike [v29, v39] h11 fun v40 h12 =>
        Sb (sto 1 ok6 v40 h12) fun h13 =>
        J0 h13) (
        Sb (sto 1 ok6 (Value.bool false) h11) fun h14 =>
        J0 h14)) (
      Sb (sto 1 ok6 (Value.bool false) h11) fun h15 =>
      J0 h15)) (
    Jn1 (fun v2 h16 =>
        R v2 h16) fun J1 =>
    Vb (ldc ok6 h5) fun v43 =>
    Br v43 (
      J1 v18 h5) (
      J1 (Value.bool false) h5))

def F_simulcastlaw33_StackNeeds_1 (S : Sys) (I : Ids) (s0 v1 v2 : Value) (h : Hp) (R : Value → Hp → Prop) : Prop :=
  Vb (fa 0 v1) fun v6 =>
  Vb (ldc v6 h) fun v7 =>
  Vb (bin .rem v7 (Value.int IntKind.u8 3)) fun v8 =>
  Vb (bin .lss v8 (Value.int IntKind.u8 2)) fun v9 =>
  Br v9 (
    Vb (fa 1 v2) fun v11 =>
    Vb (lda 3 v11 h) fun v12 =>
    Vb (fa 1 v1) fun v13 =>
    Vb (ldc v13 h) fun v14 =>
    Vb (bin .rem v14 (Value.int IntKind.u8 2)) fun v15 =>
    Vb (ixa 2 1 (.pointer (some ⟨0, 0, none⟩)) v15) fun v16 =>
    Vb (ldc v16 h) fun v17 =>
    Vb (fa 2 v1) fun v18 =>
    Vb (ldc v18 h) fun v19 =>
    S.C I.f_stack_Push [s0, v12, v17, v19] h fun v20 h1 =>
    R (.tuple #[(Value.int IntKind.i64 0), v20]) h1) (
    Vb (fa 1 v2) fun v22 =>
    Vb (lda 3 v22 h) fun v23 =>
    Vb (fa 1 v1) fun v24 =>
    Vb (ldc v24 h) fun v25 =>
    Vb (bin .rem v25 (Value.int IntKind.u8 2)) fun v26 =>
    Vb (ixa 2 1 (.pointer (some ⟨0, 0, none⟩)) v26) fun v27 =>
    Vb (ldc v27 h) fun v28 =>
    S.C I.f_stack_Pop [s0, v23, v28] h fun v29 h2 =>
    Vb (ext 0 v29) fun v30 =>
    Vb (ext 1 v29) fun v31 =>
    R (.tuple #[v30, v31]) h2)

def F_space_New (S : Sys) (I : Ids) (known0 : Value) (h : Hp) (R : Value → Hp → Prop) : Prop :=
  Eb (mmk h) fun v6 h1 =>
  Eb (mmk h1) fun v7 h2 =>
  Vb (bldS [(0, 1), (1, 1), (2, 1), (3, 1), (4, 1)] #[Value.map none, Value.map none, Value.slice none 0 0, Value.int IntKind.i64 0, Value.bool false] [(0, v6), (1, v7)]) fun v8 =>
  Eb (nw (Value.cells v8) I.t_space_Space h2) fun v9 h3 =>
  Eb (rng known0 h3) fun v11 h4 =>
  Lp0 h4 fun h5 again0 =>
  Nx v11 h5 fun v12 h6 =>
  Vb (ext 0 v12) fun v13 =>
  Br v13 (
    Vb (ent v11 h6) fun v14 =>
    Vb (ext 0 v14) fun v15 =>
    Vb (ext 1 v14) fun v16 =>
    Eb (nw #[Value.int IntKind.i64 0, Value.int IntKind.u32 0, Value.int IntKind.u32 0] I.t_api_Word h6) fun w5 h7 =>
    Sb (sto 3 w5 v16 h7) fun h8 =>
    Vb (fa 2 w5) fun v17 =>
    Vb (ldc v17 h8) fun v18 =>
    Vb (bin .eql v18 (Value.int IntKind.u32 0)) fun v19 =>
    Br v19 (
      Vb (nck v9) fun v21 =>
      Vb (fa 0 v21) fun v22 =>
      Vb (ldc v22 h8) fun v23 =>
      Vb (lda 3 w5 h8) fun v25 =>
      Sb (mup (.int .i64) v23 v15 v25 h8) fun h9 =>
      again0 h9) (
      again0 h8)) (
    R v9 h6)

def F_space_Space_Entries (S : Sys) (I : Ids) (s0 : Value) (h : Hp) (R : Value → Hp → Prop) : Prop :=
  S.C I.f_space_Space_Ended [s0] h fun v11 h1 =>
  Br v11 (
    R (.tuple #[(Value.slice none 0 0), (Value.int IntKind.i64 13)]) h1) (
    S.C I.f_space_Space_Reads [s0] h1 fun v13 h2 =>
    Vb (lnS v13) fun v14 =>
    Lp2 (Value.slice none 0 0) (Value.int IntKind.i64 0) h2 fun out4 v15 h3 again0 =>
    Vb (bin .lss v15 v14) fun v16 =>
    Br v16 (
      Vb (ixs 1 v13 v15) fun v17 =>
      Vb (ldc v17 h3) fun v18 =>
      S.C I.f_space_Space_value [s0, v18] h3 fun v22 h4 =>
      Vb (ext 0 v22) fun v23 =>
      Vb (ext 1 v22) fun v24 =>
      Vb (nck s0) fun v28 =>
      Vb (fa 0 v28) fun v29 =>
      Vb (ldc v29 h4) fun v30 =>
      Vb (lkm (.int .i64) (Value.agg #[Value.int IntKind.i64 0, Value.int IntKind.u32 0, Value.int IntKind.u32 0]) false v30 v18 h4) fun v32 =>
      Vb (bldS [(0, 1), (1, 3), (4, 1), (5, 1)] #[Value.int IntKind.i64 0, Value.int IntKind.i64 0, Value.int IntKind.u32 0, Value.int IntKind.u32 0, Value.int IntKind.i64 0, Value.bool false] [(0, v18), (1, v32), (2, v23), (3, v24)]) fun v35 =>
      Eb (bsl #[Value.int IntKind.i64 0, Value.int IntKind.i64 0, Value.int IntKind.u32 0, Value.int IntKind.u32 0, Value.int IntKind.i64 0, Value.bool false] 6 1 I.t_api_Entry [(0, v35)] h4) fun v36 h5 =>
      Ap I.t_api_Entry #[Value.int IntKind.i64 0, Value.int IntKind.i64 0, Value.int IntKind.u32 0, Value.int IntKind.u32 0, Value.int IntKind.i64 0, Value.bool false] 6 40 out4 v36 h5 fun v37 h6 =>
      Vb (bin .add v15 (Value.int IntKind.i64 1)) fun v38 =>
      again0 v37 v38 h6) (
      Vb (lnS out4) fun v40 =>
      Vb (bin .eql v40 (Value.int IntKind.i64 0)) fun v41 =>
      Br v41 (
        R (.tuple #[(Value.slice none 0 0), (Value.int IntKind.i64 0)]) h3) (
        S.C I.f_entry_Check [out4] h3 fun v43 h7 =>
        Vb (bin .neq v43 (Value.int IntKind.i64 0)) fun v45 =>
        Br v45 (
          R (.tuple #[(Value.slice none 0 0), v43]) h7) (
          R (.tuple #[out4, (Value.int IntKind.i64 0)]) h7))))

def F_space_Space_Need (S : Sys) (I : Ids) (s0 : Value) (h : Hp) (R : Value → Hp → Prop) : Prop :=
  Jn1 (fun v12 h1 =>
      Br v12 (
        R (.tuple #[(Value.int IntKind.i64 0), (Value.bool false)]) h1) (
        Vb (nck s0) fun v14 =>
        Vb (fa 3 v14) fun v15 =>
        Vb (ldc v15 h1) fun v16 =>
        R (.tuple #[v16, (Value.bool true)]) h1)) fun J0 =>
  Vb (pos? (eqP s0 (Value.pointer none))) fun v5 =>
  Br v5 (
    J0 (Value.bool true) h) (
    Vb (nck s0) fun v8 =>
    Vb (fa 4 v8) fun v9 =>
    Vb (ldc v9 h) fun v10 =>
    Vb (uno .not v10) fun v11 =>
    J0 v11 h)

def F_slices_Equal_api_Entry_api_Entry (S : Sys) (I : Ids) (s10 s21 : Value) (h : Hp) (R : Value → Hp → Prop) : Prop :=
  Vb (lnS s10) fun v7 =>
  Vb (lnS s21) fun v9 =>
  Vb (bin .neq v7 v9) fun v10 =>
  Br v10 (
    R (Value.bool false) h) (
    Vb (lnS s10) fun v12 =>
    Lp1 (Value.int IntKind.i64 0) h fun v13 h1 again0 =>
    Vb (bin .lss v13 v12) fun v14 =>
    Br v14 (
      Vb (ixs 6 s10 v13) fun v18 =>
      Vb (lda 6 v18 h1) fun v19 =>
      Vb (ixs 6 s21 v13) fun v22 =>
      Vb (lda 6 v22 h1) fun v23 =>
      Vb (neg? (eqA [true, true, true, true, true, false] v19 v23)) fun v24 =>
      Br v24 (
        R (Value.bool false) h1) (
        Vb (bin .add v13 (Value.int IntKind.i64 1)) fun v25 =>
        again0 v25 h1)) (
      R (Value.bool true) h1))

def F_pool_Pool_Free (S : Sys) (I : Ids) (p0 w1 : Value) (h : Hp) (R : Value → Hp → Prop) : Prop :=
  Eb (nw (Value.cells p0) I.t_pool_Pool h) fun p2 h1 =>
  Vb (lda 3 p2 h1) fun v11 =>
  S.C I.f_pool_Pool_Check [v11] h1 fun v12 h2 =>
  Vb (bin .neq v12 (Value.int IntKind.i64 0)) fun v14 =>
  Br v14 (
    R (.tuple #[(Value.slice none 0 0), v12]) h2) (
    Vb (fa 0 p2) fun v17 =>
    Vb (ldc v17 h2) fun v18 =>
    Cv S.C S.Y w1 [v18] h2 fun v19 h3 =>
    Lp2 (Value.slice none 0 0) v19 h3 fun out7 at8 h4 again0 =>
    Vb (lda 3 p2 h4) fun v21 =>
    S.C I.f_pool_Pool_Node [v21, at8] h4 fun v23 h5 =>
    Vb (ext 0 v23) fun v24 =>
    Vb (ext 1 v23) fun v25 =>
    Vb (bin .eql at8 (Value.int IntKind.i64 0)) fun v28 =>
    Br v28 (
      R (.tuple #[out7, (Value.int IntKind.i64 0)]) h5) (
      Jn1 (fun v29 h6 =>
          Br v29 (
            R (.tuple #[(Value.slice none 0 0), (Value.int IntKind.i64 24)]) h6) (
            Eb (bsl #[Value.int IntKind.i64 0] 1 1 I.t_int [(0, v24)] h6) fun v41 h7 =>
            Ap I.t_int #[Value.int IntKind.i64 0] 1 8 out7 v41 h7 fun v42 h8 =>
            Cv S.C S.Y w1 [at8] h8 fun v45 h9 =>
            again0 v42 v45 h9)) fun J0 =>
      Vb (uno .not v25) fun v31 =>
      Br v31 (
        J0 (Value.bool true) h5) (
        Vb (lnS out7) fun v34 =>
        Vb (fa 2 p2) fun v35 =>
        Vb (ldc v35 h5) fun v36 =>
        Vb (bin .geq v34 v36) fun v37 =>
        J0 v37 h5)))

def F_simulcastlaw33_StackNodes_1 (S : Sys) (I : Ids) (at0 v1 : Value) (h : Hp) (R : Value → Hp → Prop) : Prop :=
  Vb (fa 0 v1) fun v4 =>
  Vb (ldc v4 h) fun v5 =>
  Vb (lkm (.int .i64) (Value.agg #[Value.int IntKind.i64 0, Value.int IntKind.u32 0, Value.int IntKind.u32 0]) false v5 at0 h) fun v7 =>
  Vb (fdc 0 v7) fun v8 =>
  R v8 h

def F_simulcastlaw33_step_1 (S : Sys) (I : Ids) (s0 v1 v2 v3 v4 v5 : Value) (h : Hp) (R : Value → Hp → Prop) : Prop :=
  Vb (fa 0 v1) fun v14 =>
  Vb (ldc v14 h) fun v15 =>
  Vb (bin .rem v15 (Value.int IntKind.u8 3)) fun v16 =>
  Vb (bin .lss v16 (Value.int IntKind.u8 2)) fun v17 =>
  Br v17 (
    Vb (ldc v3 h) fun v19 =>
    Vb (fa 4 v2) fun v20 =>
    Vb (ixa 2 1 v20 v19) fun v21 =>
    Vb (ldc v21 h) fun v22 =>
    Vb (fa 2 v1) fun v23 =>
    Vb (ldc v23 h) fun v24 =>
    Vb (ldc v4 h) fun v25 =>
    S.C I.f_simulcastref33_Push [v22, v24, v25] h fun v26 h1 =>
    Vb (ext 0 v26) fun v27 =>
    Vb (ext 1 v26) fun v28 =>
    Vb (fa 1 v2) fun v30 =>
    Vb (lda 3 v30 h1) fun v31 =>
    Vb (ldc v3 h1) fun v32 =>
    Vb (ixa 2 1 (.pointer (some ⟨0, 0, none⟩)) v32) fun v33 =>
    Vb (ldc v33 h1) fun v34 =>
    Vb (fa 2 v1) fun v35 =>
    Vb (ldc v35 h1) fun v36 =>
    S.C I.f_stack_Push [s0, v31, v34, v36] h1 fun v37 h2 =>
    Vb (bin .eql v37 v28) fun v39 =>
    Sb (sto 1 v5 v39 h2) fun h3 =>
    Vb (ldc v3 h3) fun v40 =>
    Vb (fa 4 v2) fun v42 =>
    Vb (ixa 2 1 v42 v40) fun v43 =>
    Sb (sto 1 v43 v27 h3) fun h4 =>
    R (.tuple #[]) h4) (
    Vb (ldc v3 h) fun v45 =>
    Vb (fa 4 v2) fun v46 =>
    Vb (ixa 2 1 v46 v45) fun v47 =>
    Vb (ldc v47 h) fun v48 =>
    S.C I.f_simulcastref33_Pop [v48] h fun v49 h5 =>
    Vb (ext 0 v49) fun v50 =>
    Vb (ext 1 v49) fun v51 =>
    Vb (ext 2 v49) fun v52 =>
    Vb (fa 1 v2) fun v55 =>
    Vb (lda 3 v55 h5) fun v56 =>
    Vb (ldc v3 h5) fun v57 =>
    Vb (ixa 2 1 (.pointer (some ⟨0, 0, none⟩)) v57) fun v58 =>
    Vb (ldc v58 h5) fun v59 =>
    S.C I.f_stack_Pop [s0, v56, v59] h5 fun v60 h6 =>
    Vb (ext 0 v60) fun v61 =>
    Vb (ext 1 v60) fun v62 =>
    Jn0 (fun h7 =>
        Vb (ldc v3 h7) fun v71 =>
        Vb (fa 4 v2) fun v73 =>
        Vb (ixa 2 1 v73 v71) fun v74 =>
        Sb (sto 1 v74 v50 h7) fun h8 =>
        R (.tuple #[]) h8) fun J0 =>
    Vb (bin .eql v61 v51) fun v65 =>
    Br v65 (
      Vb (bin .eql v62 v52) fun v69 =>
      Sb (sto 1 v5 v69 h6) fun h9 =>
      J0 h9) (
      Sb (sto 1 v5 (Value.bool false) h6) fun h10 =>
      J0 h10))

def F_simulcastref33_Push (S : Sys) (I : Ids) (l0 v1 left2 : Value) (h : Hp) (R : Value → Hp → Prop) : Prop :=
  Vb (bin .leq left2 (Value.int IntKind.i64 0)) fun v10 =>
  Br v10 (
    R (.tuple #[l0, (Value.int IntKind.i64 9)]) h) (
    Ap I.t_int64 #[Value.int IntKind.i64 0] 1 8 (Value.slice none 0 0) l0 h fun v14 h1 =>
    Eb (bsl #[Value.int IntKind.i64 0] 1 1 I.t_int64 [(0, v1)] h1) fun v17 h2 =>
    Ap I.t_int64 #[Value.int IntKind.i64 0] 1 8 v14 v17 h2 fun v18 h3 =>
    R (.tuple #[v18, (Value.int IntKind.i64 0)]) h3)

def F_simulcastref33_Pop (S : Sys) (I : Ids) (l0 : Value) (h : Hp) (R : Value → Hp → Prop) : Prop :=
  Vb (lnS l0) fun v6 =>
  Vb (bin .eql v6 (Value.int IntKind.i64 0)) fun v7 =>
  Br v7 (
    R (.tuple #[l0, (Value.int IntKind.i64 0), (Value.int IntKind.i64 8)]) h) (
    Vb (lnS l0) fun v11 =>
    Vb (bin .sub v11 (Value.int IntKind.i64 1)) fun v12 =>
    Vb (slc 1 l0 none (some v12) none) fun v13 =>
    Vb (lnS l0) fun v16 =>
    Vb (bin .sub v16 (Value.int IntKind.i64 1)) fun v17 =>
    Vb (ixs 1 l0 v17) fun v18 =>
    Vb (ldc v18 h) fun v19 =>
    R (.tuple #[v13, v19, (Value.int IntKind.i64 0)]) h)

def F_space_Space_Writes (S : Sys) (I : Ids) (s0 : Value) (h : Hp) (R : Value → Hp → Prop) : Prop :=
  Vb (pos? (eqP s0 (Value.pointer none))) fun v7 =>
  Br v7 (
    R (Value.slice none 0 0) h) (
    Vb (nck s0) fun v10 =>
    Vb (fa 2 v10) fun v11 =>
    Vb (ldc v11 h) fun v12 =>
    Vb (lnS v12) fun v13 =>
    Lp2 (Value.slice none 0 0) (Value.int IntKind.i64 0) h fun out3 v14 h1 again0 =>
    Vb (bin .lss v14 v13) fun v15 =>
    Br v15 (
      Vb (ixs 2 v12 v14) fun v16 =>
      Vb (lda 2 v16 h1) fun v17 =>
      Eb (nw #[Value.int IntKind.i64 0, Value.int IntKind.i64 0] I.t_space_put h1) fun p5 h2 =>
      Sb (sto 2 p5 v17 h2) fun h3 =>
      Vb (fa 0 p5) fun v19 =>
      Vb (ldc v19 h3) fun v20 =>
      Eb (bsl #[Value.int IntKind.i64 0] 1 1 I.t_api_Loc [(0, v20)] h3) fun v21 h4 =>
      Ap I.t_api_Loc #[Value.int IntKind.i64 0] 1 8 out3 v21 h4 fun v22 h5 =>
      Vb (bin .add v14 (Value.int IntKind.i64 1)) fun v23 =>
      again0 v22 v23 h5) (
      S.C I.f_slices_Sort_api_Loc_api_Loc [out3] h1 fun v25 h6 =>
      S.C I.f_slices_Compact_api_Loc_api_Loc [out3] h6 fun v27 h7 =>
      R v27 h7))

def F_space_Space_Get (S : Sys) (I : Ids) (s0 at1 : Value) (h : Hp) (R : Value → Hp → Prop) : Prop :=
  S.C I.f_space_Space_reads [s0, at1] h fun v9 h1 =>
  Vb (uno .not v9) fun v10 =>
  Br v10 (
    R (Value.int IntKind.i64 0) h1) (
    S.C I.f_space_Space_value [s0, at1] h1 fun v14 h2 =>
    Vb (ext 0 v14) fun v15 =>
    Vb (ext 1 v14) fun v16 =>
    R v15 h2)

def F_space_Space_Ended (S : Sys) (I : Ids) (s0 : Value) (h : Hp) (R : Value → Hp → Prop) : Prop :=
  Jn1 (fun v2 h1 =>
      R v2 h1) fun J0 =>
  Vb (pos? (eqP s0 (Value.pointer none))) fun v4 =>
  Br v4 (
    J0 (Value.bool true) h) (
    Vb (nck s0) fun v7 =>
    Vb (fa 4 v7) fun v8 =>
    Vb (ldc v8 h) fun v9 =>
    J0 v9 h)

def F_stack_undo (S : Sys) (I : Ids) (s0 mark1 e2 : Value) (h : Hp) (R : Value → Hp → Prop) : Prop :=
  Vb (nck e2) fun v7 =>
  Vb (ldc v7 h) fun v8 =>
  Vb (bin .neq v8 (Value.int IntKind.i64 0)) fun v9 =>
  Br v9 (
    S.C I.f_space_Space_Back [s0, mark1] h fun v12 h1 =>
    R (.tuple #[]) h1) (
    R (.tuple #[]) h)

def F_space_Space_Mark (S : Sys) (I : Ids) (s0 : Value) (h : Hp) (R : Value → Hp → Prop) : Prop :=
  Vb (pos? (eqP s0 (Value.pointer none))) fun v4 =>
  Br v4 (
    R (Value.int IntKind.i64 0) h) (
    Vb (nck s0) fun v6 =>
    Vb (fa 2 v6) fun v7 =>
    Vb (ldc v7 h) fun v8 =>
    Vb (lnS v8) fun v9 =>
    R v9 h)

def F_pool_Pool_Take (S : Sys) (I : Ids) (p0 s1 : Value) (h : Hp) (R : Value → Hp → Prop) : Prop :=
  Eb (nw (Value.cells p0) I.t_pool_Pool h) fun p2 h1 =>
  Vb (lda 3 p2 h1) fun v12 =>
  S.C I.f_pool_Pool_Check [v12] h1 fun v13 h2 =>
  Vb (bin .neq v13 (Value.int IntKind.i64 0)) fun v15 =>
  Br v15 (
    R (.tuple #[(Value.int IntKind.i64 0), v13]) h2) (
    Vb (fa 0 p2) fun v18 =>
    Vb (ldc v18 h2) fun v19 =>
    S.C I.f_space_Space_Get [s1, v19] h2 fun v20 h3 =>
    Vb (bin .neq v20 (Value.int IntKind.i64 0)) fun v22 =>
    Br v22 (
      Vb (lda 3 p2 h3) fun v25 =>
      S.C I.f_pool_Pool_Node [v25, v20] h3 fun v27 h4 =>
      Vb (ext 0 v27) fun v28 =>
      Vb (ext 1 v27) fun v29 =>
      Vb (uno .not v29) fun v31 =>
      Br v31 (
        R (.tuple #[(Value.int IntKind.i64 0), (Value.int IntKind.i64 24)]) h4) (
        Vb (fa 0 p2) fun v33 =>
        Vb (ldc v33 h4) fun v34 =>
        S.C I.f_space_Space_Get [s1, v20] h4 fun v37 h5 =>
        ldc v33 h5 = some v34 ∧
        S.C I.f_space_Space_Put [s1, v34, v37] h5 fun v38 h6 =>
        Vb (lda 3 p2 h6) fun v39 =>
        S.C I.f_pool_Pool_add [v39, s1, (Value.int IntKind.i64 2), (Value.int IntKind.i64 (-1))] h6 fun v41 h7 =>
        R (.tuple #[v20, (Value.int IntKind.i64 0)]) h7)) (
      Vb (fa 0 p2) fun v44 =>
      Vb (ldc v44 h3) fun v45 =>
      Vb (bin .add v45 (Value.int IntKind.i64 1)) fun v46 =>
      S.C I.f_space_Space_Get [s1, v46] h3 fun v47 h8 =>
      Jn1 (fun v55 h9 =>
          Br v55 (
            R (.tuple #[(Value.int IntKind.i64 0), (Value.int IntKind.i64 9)]) h9) (
            Vb (fa 0 p2) fun v57 =>
            Vb (ldc v57 h9) fun v58 =>
            Vb (bin .add v58 (Value.int IntKind.i64 1)) fun v59 =>
            Vb (bin .add v47 (Value.int IntKind.i64 1)) fun v61 =>
            S.C I.f_space_Space_Put [s1, v59, v61] h9 fun v62 h10 =>
            Vb (fa 1 p2) fun v63 =>
            Vb (ldc v63 h10) fun v64 =>
            Vb (bin .mul (Value.int IntKind.i64 8) v47) fun v66 =>
            Vb (bin .add v64 v66) fun v67 =>
            R (.tuple #[v67, (Value.int IntKind.i64 0)]) h10)) fun J0 =>
      Vb (bin .lss v47 (Value.int IntKind.i64 0)) fun v49 =>
      Br v49 (
        J0 (Value.bool true) h8) (
        Vb (fa 2 p2) fun v52 =>
        Vb (ldc v52 h8) fun v53 =>
        Vb (bin .geq v47 v53) fun v54 =>
        J0 v54 h8)))

def F_space_Space_Put (S : Sys) (I : Ids) (s0 at1 v2 : Value) (h : Hp) (R : Value → Hp → Prop) : Prop :=
  S.C I.f_space_Space_reads [s0, at1] h fun v8 h1 =>
  Br v8 (
    Vb (nck s0) fun v11 =>
    Vb (fa 2 v11) fun v12 =>
    Vb (ldc v12 h1) fun v13 =>
    Vb (bldS [(0, 1), (1, 1)] #[Value.int IntKind.i64 0, Value.int IntKind.i64 0] [(0, at1), (1, v2)]) fun v16 =>
    Eb (bsl #[Value.int IntKind.i64 0, Value.int IntKind.i64 0] 2 1 I.t_space_put [(0, v16)] h1) fun v17 h2 =>
    Ap I.t_space_put #[Value.int IntKind.i64 0, Value.int IntKind.i64 0] 2 16 v13 v17 h2 fun v18 h3 =>
    Vb (nck s0) fun v19 =>
    Vb (fa 2 v19) fun v20 =>
    Sb (sto 1 v20 v18 h3) fun h4 =>
    R (.tuple #[]) h4) (
    R (.tuple #[]) h1)

def F_stack_more (S : Sys) (I : Ids) (s0 root1 n2 : Value) (h : Hp) (R : Value → Hp → Prop) : Prop :=
  Vb (bin .add root1 (Value.int IntKind.i64 1)) fun v8 =>
  Vb (bin .add root1 (Value.int IntKind.i64 1)) fun v11 =>
  S.C I.f_space_Space_Get [s0, v11] h fun v12 h1 =>
  Vb (bin .add v12 n2) fun v14 =>
  S.C I.f_space_Space_Put [s0, v8, v14] h1 fun v15 h2 =>
  Vb (bin .add root1 (Value.int IntKind.i64 7)) fun v18 =>
  Vb (bin .add root1 (Value.int IntKind.i64 7)) fun v21 =>
  S.C I.f_space_Space_Get [s0, v21] h2 fun v22 h3 =>
  Vb (bin .add v22 n2) fun v24 =>
  S.C I.f_space_Space_Put [s0, v18, v24] h3 fun v25 h4 =>
  R (.tuple #[]) h4

def F_pool_Pool_Give (S : Sys) (I : Ids) (p0 s1 at2 : Value) (h : Hp) (R : Value → Hp → Prop) : Prop :=
  Eb (nw (Value.cells p0) I.t_pool_Pool h) fun p3 h1 =>
  Vb (lda 3 p3 h1) fun v10 =>
  S.C I.f_pool_Pool_Node [v10, at2] h1 fun v12 h2 =>
  Vb (ext 0 v12) fun v13 =>
  Vb (ext 1 v12) fun v14 =>
  Vb (uno .not v14) fun v16 =>
  Br v16 (
    R (Value.int IntKind.i64 1) h2) (
    Vb (fa 0 p3) fun v20 =>
    Vb (ldc v20 h2) fun v21 =>
    S.C I.f_space_Space_Get [s1, v21] h2 fun v22 h3 =>
    S.C I.f_space_Space_Put [s1, at2, v22] h3 fun v23 h4 =>
    Vb (fa 0 p3) fun v25 =>
    Vb (ldc v25 h4) fun v26 =>
    S.C I.f_space_Space_Put [s1, v26, at2] h4 fun v28 h5 =>
    Vb (lda 3 p3 h5) fun v29 =>
    S.C I.f_pool_Pool_add [v29, s1, (Value.int IntKind.i64 2), (Value.int IntKind.i64 1)] h5 fun v31 h6 =>
    R (Value.int IntKind.i64 0) h6)

def F_pool_Pool_Check (S : Sys) (I : Ids) (p0 : Value) (h : Hp) (R : Value → Hp → Prop) : Prop :=
  Eb (nw (Value.cells p0) I.t_pool_Pool h) fun p1 h1 =>
  Jn1 (fun v3 h2 =>
      Br v3 (
        R (Value.int IntKind.i64 1) h2) (
        Jn1 (fun v22 h3 =>
            Br v22 (
              R (Value.int IntKind.i64 1) h3) (
              Jn1 (fun v35 h4 =>
                  Br v35 (
                    R (Value.int IntKind.i64 1) h4) (
                    R (Value.int IntKind.i64 0) h4)) fun J2 =>
              Vb (fa 2 p1) fun v36 =>
              Vb (ldc v36 h3) fun v37 =>
              Vb (bin .gtr v37 (Value.int IntKind.i64 0)) fun v38 =>
              Br v38 (
                Vb (fa 0 p1) fun v40 =>
                Vb (ldc v40 h3) fun v41 =>
                Vb (bin .add v41 (Value.int IntKind.i64 3)) fun v42 =>
                Vb (fa 1 p1) fun v43 =>
                Vb (ldc v43 h3) fun v44 =>
                Vb (bin .gtr v42 v44) fun v45 =>
                Br v45 (
                  Vb (fa 0 p1) fun v48 =>
                  Vb (ldc v48 h3) fun v49 =>
                  Vb (fa 1 p1) fun v50 =>
                  Vb (ldc v50 h3) fun v51 =>
                  Vb (fa 2 p1) fun v52 =>
                  Vb (ldc v52 h3) fun v53 =>
                  Vb (bin .mul (Value.int IntKind.i64 8) v53) fun v54 =>
                  Vb (bin .add v51 v54) fun v55 =>
                  Vb (bin .lss v49 v55) fun v56 =>
                  J2 v56 h3) (
                  J2 (Value.bool false) h3)) (
                J2 (Value.bool false) h3))) fun J1 =>
        Vb (fa 0 p1) fun v23 =>
        Vb (ldc v23 h2) fun v24 =>
        Vb (bin .gtr v24 (Value.int IntKind.i64 4093)) fun v25 =>
        Br v25 (
          J1 (Value.bool true) h2) (
          Vb (fa 1 p1) fun v27 =>
          Vb (ldc v27 h2) fun v28 =>
          Vb (fa 2 p1) fun v29 =>
          Vb (ldc v29 h2) fun v30 =>
          Vb (bin .mul (Value.int IntKind.i64 8) v30) fun v31 =>
          Vb (bin .sub (Value.int IntKind.i64 4096) v31) fun v32 =>
          Vb (bin .gtr v28 v32) fun v33 =>
          J1 v33 h2))) fun J0 =>
  Vb (fa 0 p1) fun v4 =>
  Vb (ldc v4 h1) fun v5 =>
  Vb (bin .lss v5 (Value.int IntKind.i64 0)) fun v6 =>
  Br v6 (
    J0 (Value.bool true) h1) (
    Vb (fa 1 p1) fun v8 =>
    Vb (ldc v8 h1) fun v9 =>
    Vb (bin .lss v9 (Value.int IntKind.i64 1)) fun v10 =>
    Br v10 (
      J0 (Value.bool true) h1) (
      Vb (fa 2 p1) fun v13 =>
      Vb (ldc v13 h1) fun v14 =>
      Vb (bin .lss v14 (Value.int IntKind.i64 0)) fun v15 =>
      Br v15 (
        J0 (Value.bool true) h1) (
        Vb (fa 2 p1) fun v18 =>
        Vb (ldc v18 h1) fun v19 =>
        Vb (bin .gtr v19 (Value.int IntKind.i64 128)) fun v20 =>
        J0 v20 h1)))

def F_simulcastlaw33_is_1 (S : Sys) (I : Ids) (s0 : Value) (h : Hp) (R : Value → Hp → Prop) : Prop :=
  R (.tuple #[]) h

def F_simulcastlaw33_is_2 (S : Sys) (I : Ids) (s0 v1 v2 v3 v4 : Value) (h : Hp) (R : Value → Hp → Prop) : Prop :=
  Vb (fa 1 v1) fun v15 =>
  Vb (lda 3 v15 h) fun v16 =>
  Vb (ldc v2 h) fun v17 =>
  S.C I.f_stack_Walk [s0, v16, v17] h fun v18 h1 =>
  Vb (ext 0 v18) fun v19 =>
  Vb (ext 1 v18) fun v20 =>
  Vb (ldc v2 h1) fun v23 =>
  S.C I.f_stack_Top [s0, v23] h1 fun v24 h2 =>
  Vb (ext 0 v24) fun v25 =>
  Vb (ext 1 v24) fun v26 =>
  Vb (ldc v3 h2) fun v28 =>
  Vb (fa 4 v1) fun v29 =>
  Vb (ixa 2 1 v29 v28) fun v30 =>
  Vb (ldc v30 h2) fun v31 =>
  S.C I.f_simulcastref33_Pop [v31] h2 fun v32 h3 =>
  Vb (ext 0 v32) fun v33 =>
  Vb (ext 1 v32) fun v34 =>
  Vb (ext 2 v32) fun v35 =>
  Vb (ldc v4 h3) fun v36 =>
  Br v36 (
    Vb (bin .eql v20 (Value.int IntKind.i64 0)) fun v39 =>
    Br v39 (
      Vb (ldc v3 h3) fun v43 =>
      Vb (fa 4 v1) fun v44 =>
      Vb (ixa 2 1 v44 v43) fun v45 =>
      Vb (ldc v45 h3) fun v46 =>
      S.C I.f_simulcastref33_Walk [v46] h3 fun v47 h4 =>
      S.C I.f_slices_Equal_int64_int64 [v19, v47] h4 fun v48 h5 =>
      Br v48 (
        Vb (bin .eql v25 v34) fun v53 =>
        Br v53 (
          Vb (bin .eql v26 v35) fun v58 =>
          Br v58 (
            Vb (ldc v2 h5) fun v62 =>
            Vb (ldc v3 h5) fun v64 =>
            Vb (fa 4 v1) fun v65 =>
            Vb (ixa 2 1 v65 v64) fun v66 =>
            Vb (ldc v66 h5) fun v67 =>
            Vb (lnS v67) fun v68 =>
            S.C I.f_stack_Len [s0, v62] h5 fun v63 h6 =>
            ldc v66 h6 = some v67 ∧
            ldc v3 h6 = some v64 ∧
            Vb (bin .eql v63 v68) fun v69 =>
            Br v69 (
              Vb (ldc v2 h6) fun v73 =>
              Vb (bin .add v73 (Value.int IntKind.i64 7)) fun v74 =>
              Vb (ldc v3 h6) fun v76 =>
              Vb (fa 4 v1) fun v77 =>
              Vb (ixa 2 1 v77 v76) fun v78 =>
              Vb (ldc v78 h6) fun v79 =>
              Vb (lnS v79) fun v80 =>
              S.C I.f_space_Space_Get [s0, v74] h6 fun v75 h7 =>
              ldc v78 h7 = some v79 ∧
              ldc v3 h7 = some v76 ∧
              Vb (bin .eql v75 v80) fun v81 =>
              Br v81 (
                S.C I.f_space_Space_Writes [s0] h7 fun v85 h8 =>
                Vb (lnS v85) fun v86 =>
                Vb (bin .eql v86 (Value.int IntKind.i64 0)) fun v87 =>
                Sb (sto 1 v4 v87 h8) fun h9 =>
                R (.tuple #[]) h9) (
                Sb (sto 1 v4 (Value.bool false) h7) fun h10 =>
                R (.tuple #[]) h10)) (
              Sb (sto 1 v4 (Value.bool false) h6) fun h11 =>
              R (.tuple #[]) h11)) (
            Sb (sto 1 v4 (Value.bool false) h5) fun h12 =>
            R (.tuple #[]) h12)) (
          Sb (sto 1 v4 (Value.bool false) h5) fun h13 =>
          R (.tuple #[]) h13)) (
        Sb (sto 1 v4 (Value.bool false) h5) fun h14 =>
        R (.tuple #[]) h14)) (
      Sb (sto 1 v4 (Value.bool false) h3) fun h15 =>
      R (.tuple #[]) h15)) (
    Sb (sto 1 v4 (Value.bool false) h3) fun h16 =>
    R (.tuple #[]) h16)

def F_stack_Top (S : Sys) (I : Ids) (s0 root1 : Value) (h : Hp) (R : Value → Hp → Prop) : Prop :=
  Vb (bin .add root1 (Value.int IntKind.i64 0)) fun v9 =>
  S.C I.f_space_Space_Get [s0, v9] h fun v10 h1 =>
  Vb (bin .eql v10 (Value.int IntKind.i64 0)) fun v12 =>
  Br v12 (
    R (.tuple #[(Value.int IntKind.i64 0), (Value.int IntKind.i64 8)]) h1) (
    Vb (bin .add v10 (Value.int IntKind.i64 1)) fun v15 =>
    S.C I.f_space_Space_Get [s0, v15] h1 fun v16 h2 =>
    R (.tuple #[v16, (Value.int IntKind.i64 0)]) h2)

def F_simulcastref33_Walk (S : Sys) (I : Ids) (l0 : Value) (h : Hp) (R : Value → Hp → Prop) : Prop :=
  Vb (lnS l0) fun v6 =>
  Vb (bin .sub v6 (Value.int IntKind.i64 1)) fun v7 =>
  Lp2 (Value.slice none 0 0) v7 h fun out3 i4 h1 again0 =>
  Vb (bin .geq i4 (Value.int IntKind.i64 0)) fun v9 =>
  Br v9 (
    Vb (ixs 1 l0 i4) fun v15 =>
    Vb (ldc v15 h1) fun v16 =>
    Eb (bsl #[Value.int IntKind.i64 0] 1 1 I.t_int64 [(0, v16)] h1) fun v17 h2 =>
    Ap I.t_int64 #[Value.int IntKind.i64 0] 1 8 out3 v17 h2 fun v18 h3 =>
    Vb (bin .sub i4 (Value.int IntKind.i64 1)) fun v11 =>
    again0 v18 v11 h3) (
    R out3 h1)

def F_stack_Len (S : Sys) (I : Ids) (s0 root1 : Value) (h : Hp) (R : Value → Hp → Prop) : Prop :=
  Vb (bin .add root1 (Value.int IntKind.i64 1)) fun v7 =>
  S.C I.f_space_Space_Get [s0, v7] h fun v8 h1 =>
  R v8 h1

def F_space_Space_Reads (S : Sys) (I : Ids) (s0 : Value) (h : Hp) (R : Value → Hp → Prop) : Prop :=
  Vb (pos? (eqP s0 (Value.pointer none))) fun v6 =>
  Br v6 (
    R (Value.slice none 0 0) h) (
    Vb (nck s0) fun v9 =>
    Vb (fa 1 v9) fun v10 =>
    Vb (ldc v10 h) fun v11 =>
    Eb (rng v11 h) fun v12 h1 =>
    Lp1 (Value.slice none 0 0) h1 fun out3 h2 again0 =>
    Nx v12 h2 fun v13 h3 =>
    Vb (ext 0 v13) fun v14 =>
    Br v14 (
      Vb (ent v12 h3) fun v15 =>
      Vb (ext 0 v15) fun v16 =>
      Eb (bsl #[Value.int IntKind.i64 0] 1 1 I.t_api_Loc [(0, v16)] h3) fun v19 h4 =>
      Ap I.t_api_Loc #[Value.int IntKind.i64 0] 1 8 out3 v19 h4 fun v20 h5 =>
      again0 v20 h5) (
      S.C I.f_slices_Sort_api_Loc_api_Loc [out3] h3 fun v22 h6 =>
      R out3 h6))

def F_space_Space_value (S : Sys) (I : Ids) (s0 at1 : Value) (h : Hp) (R : Value → Hp → Prop) : Prop :=
  S.C I.f_space_Space_last [s0, at1] h fun v9 h1 =>
  Vb (bin .geq v9 (Value.int IntKind.i64 0)) fun v11 =>
  Br v11 (
    Vb (nck s0) fun v13 =>
    Vb (fa 2 v13) fun v14 =>
    Vb (ldc v14 h1) fun v15 =>
    Vb (ixs 2 v15 v9) fun v17 =>
    Vb (fa 1 v17) fun v18 =>
    Vb (ldc v18 h1) fun v19 =>
    R (.tuple #[v19, (Value.bool true)]) h1) (
    Vb (nck s0) fun v21 =>
    Vb (fa 0 v21) fun v22 =>
    Vb (ldc v22 h1) fun v23 =>
    Vb (lkm (.int .i64) (Value.agg #[Value.int IntKind.i64 0, Value.int IntKind.u32 0, Value.int IntKind.u32 0]) false v23 at1 h1) fun v25 =>
    Vb (fdc 0 v25) fun v26 =>
    R (.tuple #[v26, (Value.bool false)]) h1)

def F_entry_Check (S : Sys) (I : Ids) (l0 : Value) (h : Hp) (R : Value → Hp → Prop) : Prop :=
  Vb (lnS l0) fun v8 =>
  Vb (bin .eql v8 (Value.int IntKind.i64 0)) fun v9 =>
  Br v9 (
    R (Value.int IntKind.i64 8) h) (
    Vb (lnS l0) fun v12 =>
    Vb (bin .gtr v12 (Value.int IntKind.i64 32)) fun v13 =>
    Br v13 (
      R (Value.int IntKind.i64 15) h) (
      Vb (lnS l0) fun v15 =>
      Lp1 (Value.int IntKind.i64 0) h fun v16 h1 again0 =>
      Vb (bin .lss v16 v15) fun v17 =>
      Br v17 (
        Vb (ixs 6 l0 v16) fun v19 =>
        Vb (lda 6 v19 h1) fun v20 =>
        Eb (nw #[Value.int IntKind.i64 0, Value.int IntKind.i64 0, Value.int IntKind.u32 0, Value.int IntKind.u32 0, Value.int IntKind.i64 0, Value.bool false] I.t_api_Entry h1) fun x4 h2 =>
        Sb (sto 6 x4 v20 h2) fun h3 =>
        Vb (lda 6 x4 h3) fun v21 =>
        S.C I.f_entry_wrong [v21] h3 fun v22 h4 =>
        Vb (bin .neq v22 (Value.int IntKind.i64 0)) fun v24 =>
        Br v24 (
          R v22 h4) (
          Vb (slc 6 l0 none (some v16) none) fun v28 =>
          Vb (some (.func (.func I.f_entry_Check_1) #[] #[x4])) fun v29 =>
          S.C I.f_slices_ContainsFunc_api_Entry_api_Entry [v28, v29] h4 fun v30 h5 =>
          Br v30 (
            R (Value.int IntKind.i64 11) h5) (
            Vb (bin .add v16 (Value.int IntKind.i64 1)) fun v31 =>
            again0 v31 h5))) (
        R (Value.int IntKind.i64 0) h1)))

def F_slices_Sort_api_Loc_api_Loc (S : Sys) (I : Ids) (x0 : Value) (h : Hp) (R : Value → Hp → Prop) : Prop :=
  Vb (lnS x0) fun v4 =>
  Vb (cvi .u64 v4) fun v8 =>
  S.C I.f_math_bits_Len [v8] h fun v9 h1 =>
  S.C I.f_slices_pdqsortOrdered_api_Loc [x0, (Value.int IntKind.i64 0), v4, v9] h1 fun v10 h2 =>
  R (.tuple #[]) h2

def F_slices_Compact_api_Loc_api_Loc (S : Sys) (I : Ids) (s0 : Value) (h : Hp) (R : Value → Hp → Prop) : Prop :=
  Vb (lnS s0) fun v7 =>
  Vb (bin .lss v7 (Value.int IntKind.i64 2)) fun v8 =>
  Br v8 (
    R s0 h) (
    Lp1 (Value.int IntKind.i64 1) h fun k3 h1 again0 =>
    Vb (lnS s0) fun v12 =>
    Vb (bin .lss k3 v12) fun v13 =>
    Br v13 (
      Vb (ixs 1 s0 k3) fun v18 =>
      Vb (ldc v18 h1) fun v19 =>
      Vb (bin .sub k3 (Value.int IntKind.i64 1)) fun v22 =>
      Vb (ixs 1 s0 v22) fun v23 =>
      Vb (ldc v23 h1) fun v24 =>
      Vb (bin .eql v19 v24) fun v25 =>
      Br v25 (
        Vb (slc 1 s0 (some k3) none none) fun v28 =>
        Lp2 k3 (Value.int IntKind.i64 1) h1 fun k3_1 k25 h2 again1 =>
        Vb (lnS v28) fun v31 =>
        Vb (bin .lss k25 v31) fun v32 =>
        Br v32 (
          Jn1 (fun k3_2 h3 =>
              Vb (bin .add k25 (Value.int IntKind.i64 1)) fun v34 =>
              again1 k3_2 v34 h3) fun J0 =>
          Vb (ixs 1 v28 k25) fun v37 =>
          Vb (ldc v37 h2) fun v38 =>
          Vb (bin .sub k25 (Value.int IntKind.i64 1)) fun v41 =>
          Vb (ixs 1 v28 v41) fun v42 =>
          Vb (ldc v42 h2) fun v43 =>
          Vb (bin .neq v38 v43) fun v44 =>
          Br v44 (
            Vb (ixs 1 v28 k25) fun v49 =>
            Vb (ldc v49 h2) fun v50 =>
            Vb (ixs 1 s0 k3_1) fun v51 =>
            Sb (sto 1 v51 v50 h2) fun h4 =>
            Vb (bin .add k3_1 (Value.int IntKind.i64 1)) fun v53 =>
            J0 v53 h4) (
            J0 k3_1 h2)) (
          Vb (slc 1 s0 (some k3_1) none none) fun v56 =>
          Eb (clrS #[Value.int IntKind.i64 0] v56 h2) fun _ h5 =>
          Vb (slc 1 s0 none (some k3_1) none) fun v59 =>
          R v59 h5)) (
        Vb (bin .add k3 (Value.int IntKind.i64 1)) fun v15 =>
        again0 v15 h1)) (
      R s0 h1))

def F_space_Space_reads (S : Sys) (I : Ids) (s0 at1 : Value) (h : Hp) (R : Value → Hp → Prop) : Prop :=
  S.C I.f_space_Space_Ended [s0] h fun v8 h1 =>
  Br v8 (
    R (Value.bool false) h1) (
    Vb (nck s0) fun v11 =>
    Vb (fa 0 v11) fun v12 =>
    Vb (ldc v12 h1) fun v13 =>
    Vb (lkm (.int .i64) (Value.agg #[Value.int IntKind.i64 0, Value.int IntKind.u32 0, Value.int IntKind.u32 0]) true v13 at1 h1) fun v15 =>
    Vb (ext 0 v15) fun v16 =>
    Vb (ext 1 v15) fun v17 =>
    Eb (nw #[Value.int IntKind.i64 0, Value.int IntKind.u32 0, Value.int IntKind.u32 0] I.t_api_Word h1) fun v5 h2 =>
    Sb (sto 3 v5 v16 h2) fun h3 =>
    Vb (uno .not v17) fun v19 =>
    Br v19 (
      Vb (nck s0) fun v23 =>
      Vb (fa 4 v23) fun v24 =>
      Sb (sto 1 v24 (Value.bool true) h3) fun h4 =>
      Vb (nck s0) fun v25 =>
      Vb (fa 3 v25) fun v26 =>
      Sb (sto 1 v26 at1 h4) fun h5 =>
      R (Value.bool false) h5) (
      Vb (nck s0) fun v28 =>
      Vb (fa 1 v28) fun v29 =>
      Vb (ldc v29 h3) fun v30 =>
      Sb (mup (.int .i64) v30 at1 (Value.bool true) h3) fun h6 =>
      R (Value.bool true) h6))

def F_space_Space_Back (S : Sys) (I : Ids) (s0 mark1 : Value) (h : Hp) (R : Value → Hp → Prop) : Prop :=
  Jn1 (fun v19 h1 =>
      Br v19 (
        Vb (nck s0) fun v22 =>
        Vb (fa 2 v22) fun v23 =>
        Vb (ldc v23 h1) fun v24 =>
        Vb (slc 2 v24 none (some mark1) (some mark1)) fun v27 =>
        Vb (nck s0) fun v28 =>
        Vb (fa 2 v28) fun v29 =>
        Sb (sto 1 v29 v27 h1) fun h2 =>
        R (.tuple #[]) h2) (
        R (.tuple #[]) h1)) fun J0 =>
  S.C I.f_space_Space_Ended [s0] h fun v5 h3 =>
  Vb (uno .not v5) fun v6 =>
  Br v6 (
    Vb (bin .geq mark1 (Value.int IntKind.i64 0)) fun v9 =>
    Br v9 (
      Vb (nck s0) fun v14 =>
      Vb (fa 2 v14) fun v15 =>
      Vb (ldc v15 h3) fun v16 =>
      Vb (lnS v16) fun v17 =>
      Vb (bin .leq mark1 v17) fun v18 =>
      J0 v18 h3) (
      J0 (Value.bool false) h3)) (
    J0 (Value.bool false) h3)

def F_pool_Pool_add (S : Sys) (I : Ids) (p0 s1 count2 n3 : Value) (h : Hp) (R : Value → Hp → Prop) : Prop :=
  Eb (nw (Value.cells p0) I.t_pool_Pool h) fun p4 h1 =>
  Vb (fa 0 p4) fun v9 =>
  Vb (ldc v9 h1) fun v10 =>
  Vb (bin .add v10 count2) fun v12 =>
  Vb (fa 0 p4) fun v14 =>
  Vb (ldc v14 h1) fun v15 =>
  Vb (bin .add v15 count2) fun v17 =>
  S.C I.f_space_Space_Get [s1, v17] h1 fun v18 h2 =>
  ldc v9 h2 = some v10 ∧
  Vb (bin .add v18 n3) fun v20 =>
  S.C I.f_space_Space_Put [s1, v12, v20] h2 fun v21 h3 =>
  R (.tuple #[]) h3

def F_space_Space_last (S : Sys) (I : Ids) (s0 at1 : Value) (h : Hp) (R : Value → Hp → Prop) : Prop :=
  Vb (nck s0) fun v7 =>
  Vb (fa 2 v7) fun v8 =>
  Vb (ldc v8 h) fun v9 =>
  Vb (lnS v9) fun v10 =>
  Vb (bin .sub v10 (Value.int IntKind.i64 1)) fun v11 =>
  Lp1 v11 h fun i5 h1 again0 =>
  Vb (bin .geq i5 (Value.int IntKind.i64 0)) fun v13 =>
  Br v13 (
    Vb (nck s0) fun v17 =>
    Vb (fa 2 v17) fun v18 =>
    Vb (ldc v18 h1) fun v19 =>
    Vb (ixs 2 v19 i5) fun v21 =>
    Vb (fa 0 v21) fun v22 =>
    Vb (ldc v22 h1) fun v23 =>
    Vb (bin .eql v23 at1) fun v25 =>
    Br v25 (
      R i5 h1) (
      Vb (bin .sub i5 (Value.int IntKind.i64 1)) fun v15 =>
      again0 v15 h1)) (
    R (Value.int IntKind.i64 (-1)) h1)

def F_entry_wrong (S : Sys) (I : Ids) (x0 : Value) (h : Hp) (R : Value → Hp → Prop) : Prop :=
  Eb (nw (Value.cells x0) I.t_api_Entry h) fun x1 h1 =>
  Jn1 (fun v3 h2 =>
      Br v3 (
        R (Value.int IntKind.i64 3) h2) (
        Vb (fa 1 x1) fun v13 =>
        Vb (lda 3 v13 h2) fun v14 =>
        S.C I.f_word_Plain [v14] h2 fun v15 h3 =>
        Vb (uno .not v15) fun v16 =>
        Br v16 (
          R (Value.int IntKind.i64 13) h3) (
          Jn1 (fun v17 h4 =>
              Br v17 (
                R (Value.int IntKind.i64 9) h4) (
                Jn1 (fun v26 h5 =>
                    Br v26 (
                      R (Value.int IntKind.i64 4) h5) (
                      R (Value.int IntKind.i64 0) h5)) fun J2 =>
                Vb (fa 5 x1) fun v27 =>
                Vb (ldc v27 h4) fun v28 =>
                Vb (uno .not v28) fun v29 =>
                Br v29 (
                  Vb (fa 4 x1) fun v31 =>
                  Vb (ldc v31 h4) fun v32 =>
                  Vb (fa 1 x1) fun v33 =>
                  Vb (fa 0 v33) fun v34 =>
                  Vb (ldc v34 h4) fun v35 =>
                  Vb (bin .neq v32 v35) fun v36 =>
                  J2 v36 h4) (
                  J2 (Value.bool false) h4))) fun J1 =>
          Vb (fa 5 x1) fun v18 =>
          Vb (ldc v18 h3) fun v19 =>
          Br v19 (
            Vb (fa 1 x1) fun v21 =>
            Vb (fa 1 v21) fun v22 =>
            Vb (ldc v22 h3) fun v23 =>
            Vb (bin .eql v23 (Value.int IntKind.u32 4294967295)) fun v24 =>
            J1 v24 h3) (
            J1 (Value.bool false) h3)))) fun J0 =>
  Vb (fa 0 x1) fun v4 =>
  Vb (ldc v4 h1) fun v5 =>
  Vb (bin .lss v5 (Value.int IntKind.i64 0)) fun v6 =>
  Br v6 (
    J0 (Value.bool true) h1) (
    Vb (fa 0 x1) fun v8 =>
    Vb (ldc v8 h1) fun v9 =>
    Vb (bin .geq v9 (Value.int IntKind.i64 4096)) fun v10 =>
    J0 v10 h1)

def F_slices_ContainsFunc_api_Entry_api_Entry (S : Sys) (I : Ids) (s0 f1 : Value) (h : Hp) (R : Value → Hp → Prop) : Prop :=
  S.C I.f_slices_IndexFunc_api_Entry_api_Entry [s0, f1] h fun v7 h1 =>
  Vb (bin .geq v7 (Value.int IntKind.i64 0)) fun v8 =>
  R v8 h1

def F_entry_Check_1 (S : Sys) (I : Ids) (y0 v1 : Value) (h : Hp) (R : Value → Hp → Prop) : Prop :=
  Eb (nw (Value.cells y0) I.t_api_Entry h) fun y2 h1 =>
  Vb (fa 0 y2) fun v4 =>
  Vb (ldc v4 h1) fun v5 =>
  Vb (fa 0 v1) fun v6 =>
  Vb (ldc v6 h1) fun v7 =>
  Vb (bin .eql v5 v7) fun v8 =>
  R v8 h1

def F_slices_pdqsortOrdered_api_Loc (S : Sys) (I : Ids) (data0 a1 b2 limit3 : Value) (h : Hp) (R : Value → Hp → Prop) : Prop :=
  Lp5 a1 b2 limit3 (Value.bool true) (Value.bool true) h fun a1_1 b2_1 limit3_1 wasBalanced8 wasPartitioned9 h1 again0 =>
  Vb (bin .sub b2_1 a1_1) fun v21 =>
  Vb (bin .leq v21 (Value.int IntKind.i64 12)) fun v23 =>
  Br v23 (
    S.C I.f_slices_insertionSortOrdered_api_Loc [data0, a1_1, b2_1] h1 fun v27 h2 =>
    R (.tuple #[]) h2) (
    Vb (bin .eql limit3_1 (Value.int IntKind.i64 0)) fun v29 =>
    Br v29 (
      S.C I.f_slices_heapSortOrdered_api_Loc [data0, a1_1, b2_1] h1 fun v33 h3 =>
      R (.tuple #[]) h3) (
      Jn1 (fun limit3_2 h4 =>
          S.C I.f_slices_choosePivotOrdered_api_Loc [data0, a1_1, b2_1] h4 fun v46 h5 =>
          Vb (ext 0 v46) fun v47 =>
          Vb (ext 1 v46) fun v48 =>
          Jn2 (fun pivot11 hint12 h6 =>
              Jn0 (fun h7 =>
                  Jn1 (fun v87 h8 =>
                      Br v87 (
                        S.C I.f_slices_partitionEqualOrdered_api_Loc [data0, a1_1, b2_1, pivot11] h8 fun v92 h9 =>
                        again0 v92 b2_1 limit3_2 wasBalanced8 wasPartitioned9 h9) (
                        S.C I.f_slices_partitionOrdered_api_Loc [data0, a1_1, b2_1, pivot11] h8 fun v99 h10 =>
                        Vb (ext 0 v99) fun v100 =>
                        Vb (ext 1 v99) fun v101 =>
                        Vb (bin .sub v100 a1_1) fun v105 =>
                        Vb (bin .sub b2_1 v100) fun v108 =>
                        Vb (bin .quo v21 (Value.int IntKind.i64 8)) fun v110 =>
                        Vb (bin .lss v105 v108) fun v113 =>
                        Br v113 (
                          Vb (bin .geq v105 v110) fun v116 =>
                          S.C I.f_slices_pdqsortOrdered_api_Loc [data0, a1_1, v100, limit3_2] h10 fun v121 h11 =>
                          Vb (bin .add v100 (Value.int IntKind.i64 1)) fun v123 =>
                          again0 v123 b2_1 limit3_2 v116 v101 h11) (
                          Vb (bin .geq v108 v110) fun v126 =>
                          Vb (bin .add v100 (Value.int IntKind.i64 1)) fun v129 =>
                          S.C I.f_slices_pdqsortOrdered_api_Loc [data0, v129, b2_1, limit3_2] h10 fun v132 h12 =>
                          again0 a1_1 v100 limit3_2 v126 v101 h12))) fun J3 =>
                  Vb (bin .gtr a1_1 (Value.int IntKind.i64 0)) fun v74 =>
                  Br v74 (
                    Vb (bin .sub a1_1 (Value.int IntKind.i64 1)) fun v78 =>
                    Vb (ixs 1 data0 v78) fun v79 =>
                    Vb (ldc v79 h7) fun v80 =>
                    Vb (ixs 1 data0 pivot11) fun v83 =>
                    Vb (ldc v83 h7) fun v84 =>
                    S.C I.f_cmp_Less_api_Loc [v80, v84] h7 fun v85 h13 =>
                    Vb (uno .not v85) fun v86 =>
                    J3 v86 h13) (
                    J3 (Value.bool false) h7)) fun J2 =>
              Jn1 (fun v68 h14 =>
                  Br v68 (
                    S.C I.f_slices_partialInsertionSortOrdered_api_Loc [data0, a1_1, b2_1] h14 fun v72 h15 =>
                    Br v72 (
                      R (.tuple #[]) h15) (
                      J2 h15)) (
                    J2 h14)) fun J4 =>
              Br wasBalanced8 (
                Br wasPartitioned9 (
                  Vb (bin .eql hint12 (Value.int IntKind.i64 1)) fun v67 =>
                  J4 v67 h6) (
                  J4 (Value.bool false) h6)) (
                J4 (Value.bool false) h6)) fun J1 =>
          Vb (bin .eql v48 (Value.int IntKind.i64 2)) fun v50 =>
          Br v50 (
            S.C I.f_slices_reverseRangeOrdered_api_Loc [data0, a1_1, b2_1] h5 fun v54 h16 =>
            Vb (bin .sub b2_1 (Value.int IntKind.i64 1)) fun v56 =>
            Vb (bin .sub v47 a1_1) fun v59 =>
            Vb (bin .sub v56 v59) fun v60 =>
            J1 v60 (Value.int IntKind.i64 1) h16) (
            J1 v47 v48 h5)) fun J0 =>
      Vb (uno .not wasBalanced8) fun v35 =>
      Br v35 (
        S.C I.f_slices_breakPatternsOrdered_api_Loc [data0, a1_1, b2_1] h1 fun v39 h17 =>
        Vb (bin .sub limit3_1 (Value.int IntKind.i64 1)) fun v41 =>
        J0 v41 h17) (
        J0 limit3_1 h1)))

def F_math_bits_Len (S : Sys) (I : Ids) (x0 : Value) (h : Hp) (R : Value → Hp → Prop) : Prop :=
  S.C I.f_math_bits_Len64 [x0] h fun v7 h1 =>
  R v7 h1

def F_word_Plain (S : Sys) (I : Ids) (w0 : Value) (h : Hp) (R : Value → Hp → Prop) : Prop :=
  Eb (nw (Value.cells w0) I.t_api_Word h) fun w1 h1 =>
  Vb (lda 3 w1 h1) fun v3 =>
  S.C I.f_word_kind [v3] h1 fun v4 h2 =>
  Vb (bin .eql v4 (Value.int IntKind.i64 0)) fun v5 =>
  R v5 h2

def F_slices_IndexFunc_api_Entry_api_Entry (S : Sys) (I : Ids) (s0 f1 : Value) (h : Hp) (R : Value → Hp → Prop) : Prop :=
  Vb (lnS s0) fun v7 =>
  Lp1 (Value.int IntKind.i64 0) h fun v8 h1 again0 =>
  Vb (bin .lss v8 v7) fun v9 =>
  Br v9 (
    Vb (ixs 6 s0 v8) fun v14 =>
    Vb (lda 6 v14 h1) fun v15 =>
    Cv S.C S.Y f1 [v15] h1 fun v16 h2 =>
    Br v16 (
      R v8 h2) (
      Vb (bin .add v8 (Value.int IntKind.i64 1)) fun v18 =>
      again0 v18 h2)) (
    R (Value.int IntKind.i64 (-1)) h1)

def F_slices_insertionSortOrdered_api_Loc (S : Sys) (I : Ids) (data0 a1 b2 : Value) (h : Hp) (R : Value → Hp → Prop) : Prop :=
  Vb (bin .add a1 (Value.int IntKind.i64 1)) fun v9 =>
  Lp1 v9 h fun i6 h1 again0 =>
  Vb (bin .lss i6 b2) fun v12 =>
  Br v12 (
    Lp1 i6 h1 fun j7 h2 again1 =>
    Jn1 (fun v30 h3 =>
        Br v30 (
          Vb (bin .sub j7 (Value.int IntKind.i64 1)) fun v37 =>
          Vb (bin .sub j7 (Value.int IntKind.i64 1)) fun v40 =>
          Vb (ixs 1 data0 v40) fun v41 =>
          Vb (ldc v41 h3) fun v42 =>
          Vb (ixs 1 data0 j7) fun v45 =>
          Vb (ldc v45 h3) fun v46 =>
          Vb (ixs 1 data0 j7) fun v47 =>
          Sb (sto 1 v47 v42 h3) fun h4 =>
          Vb (ixs 1 data0 v37) fun v48 =>
          Sb (sto 1 v48 v46 h4) fun h5 =>
          Vb (bin .sub j7 (Value.int IntKind.i64 1)) fun v32 =>
          again1 v32 h5) (
          Vb (bin .add i6 (Value.int IntKind.i64 1)) fun v14 =>
          again0 v14 h3)) fun J0 =>
    Vb (bin .gtr j7 a1) fun v18 =>
    Br v18 (
      Vb (ixs 1 data0 j7) fun v22 =>
      Vb (ldc v22 h2) fun v23 =>
      Vb (bin .sub j7 (Value.int IntKind.i64 1)) fun v26 =>
      Vb (ixs 1 data0 v26) fun v27 =>
      Vb (ldc v27 h2) fun v28 =>
      S.C I.f_cmp_Less_api_Loc [v23, v28] h2 fun v29 h6 =>
      J0 v29 h6) (
      J0 (Value.bool false) h2)) (
    R (.tuple #[]) h1)

def F_slices_heapSortOrdered_api_Loc (S : Sys) (I : Ids) (data0 a1 b2 : Value) (h : Hp) (R : Value → Hp → Prop) : Prop :=
  Vb (bin .sub b2 a1) fun v14 =>
  Vb (bin .sub v14 (Value.int IntKind.i64 1)) fun v16 =>
  Vb (bin .quo v16 (Value.int IntKind.i64 2)) fun v17 =>
  Lp1 v17 h fun i9 h1 again0 =>
  Vb (bin .geq i9 (Value.int IntKind.i64 0)) fun v19 =>
  Br v19 (
    S.C I.f_slices_siftDownOrdered_api_Loc [data0, i9, v14, a1] h1 fun v26 h2 =>
    Vb (bin .sub i9 (Value.int IntKind.i64 1)) fun v21 =>
    again0 v21 h2) (
    Vb (bin .sub v14 (Value.int IntKind.i64 1)) fun v28 =>
    Lp1 v28 h1 fun i10 h3 again1 =>
    Vb (bin .geq i10 (Value.int IntKind.i64 0)) fun v30 =>
    Br v30 (
      Vb (bin .add a1 i10) fun v38 =>
      Vb (bin .add a1 i10) fun v42 =>
      Vb (ixs 1 data0 v42) fun v43 =>
      Vb (ldc v43 h3) fun v44 =>
      Vb (ixs 1 data0 a1) fun v47 =>
      Vb (ldc v47 h3) fun v48 =>
      Vb (ixs 1 data0 a1) fun v49 =>
      Sb (sto 1 v49 v44 h3) fun h4 =>
      Vb (ixs 1 data0 v38) fun v50 =>
      Sb (sto 1 v50 v48 h4) fun h5 =>
      S.C I.f_slices_siftDownOrdered_api_Loc [data0, (Value.int IntKind.i64 0), i10, a1] h5 fun v55 h6 =>
      Vb (bin .sub i10 (Value.int IntKind.i64 1)) fun v32 =>
      again1 v32 h6) (
      R (.tuple #[]) h3))

def F_slices_breakPatternsOrdered_api_Loc (S : Sys) (I : Ids) (data0 a1 b2 : Value) (h : Hp) (R : Value → Hp → Prop) : Prop :=
  Vb (bin .sub b2 a1) fun v13 =>
  Vb (bin .geq v13 (Value.int IntKind.i64 8)) fun v15 =>
  Br v15 (
    Vb (cvi .u64 v13) fun v17 =>
    Eb (nw #[Value.int IntKind.u64 0] I.t_slices_xorshift h) fun random7 h1 =>
    Sb (sto 1 random7 v17 h1) fun h2 =>
    S.C I.f_slices_nextPowerOfTwo [v13] h2 fun v19 h3 =>
    Vb (bin .quo v13 (Value.int IntKind.i64 4)) fun v22 =>
    Vb (bin .mul v22 (Value.int IntKind.i64 2)) fun v23 =>
    Vb (bin .add a1 v23) fun v24 =>
    Vb (bin .sub v24 (Value.int IntKind.i64 1)) fun v25 =>
    Lp1 v25 h3 fun idx9 h4 again0 =>
    Vb (bin .quo v13 (Value.int IntKind.i64 4)) fun v29 =>
    Vb (bin .mul v29 (Value.int IntKind.i64 2)) fun v30 =>
    Vb (bin .add a1 v30) fun v31 =>
    Vb (bin .add v31 (Value.int IntKind.i64 1)) fun v32 =>
    Vb (bin .leq idx9 v32) fun v33 =>
    Br v33 (
      S.C I.f_slices_xorshift_Next [random7] h4 fun v36 h5 =>
      Vb (bin .sub v19 (Value.int IntKind.u64 1)) fun v38 =>
      Vb (bin .and v36 v38) fun v39 =>
      Vb (cvi .i64 v39) fun v40 =>
      Jn1 (fun other10 h6 =>
          Vb (bin .add a1 other10) fun v52 =>
          Vb (bin .add a1 other10) fun v56 =>
          Vb (ixs 1 data0 v56) fun v57 =>
          Vb (ldc v57 h6) fun v58 =>
          Vb (ixs 1 data0 idx9) fun v61 =>
          Vb (ldc v61 h6) fun v62 =>
          Vb (ixs 1 data0 idx9) fun v63 =>
          Sb (sto 1 v63 v58 h6) fun h7 =>
          Vb (ixs 1 data0 v52) fun v64 =>
          Sb (sto 1 v64 v62 h7) fun h8 =>
          Vb (bin .add idx9 (Value.int IntKind.i64 1)) fun v35 =>
          again0 v35 h8) fun J0 =>
      Vb (bin .geq v40 v13) fun v43 =>
      Br v43 (
        Vb (bin .sub v40 v13) fun v46 =>
        J0 v46 h5) (
        J0 v40 h5)) (
      R (.tuple #[]) h4)) (
    R (.tuple #[]) h)

def F_slices_choosePivotOrdered_api_Loc (S : Sys) (I : Ids) (data0 a1 b2 : Value) (h : Hp) (R : Value → Hp → Prop) : Prop :=
  Vb (bin .sub b2 a1) fun v15 =>
  Eb (nw #[Value.int IntKind.i64 0] I.t_int h) fun swaps9 h1 =>
  Vb (bin .quo v15 (Value.int IntKind.i64 4)) fun v18 =>
  Vb (bin .mul v18 (Value.int IntKind.i64 1)) fun v19 =>
  Vb (bin .add a1 v19) fun v20 =>
  Vb (bin .quo v15 (Value.int IntKind.i64 4)) fun v23 =>
  Vb (bin .mul v23 (Value.int IntKind.i64 2)) fun v24 =>
  Vb (bin .add a1 v24) fun v25 =>
  Vb (bin .quo v15 (Value.int IntKind.i64 4)) fun v28 =>
  Vb (bin .mul v28 (Value.int IntKind.i64 3)) fun v29 =>
  Vb (bin .add a1 v29) fun v30 =>
  Jn1 (fun j11 h2 =>
      Vb (ldc swaps9 h2) fun v49 =>
      Vb (bin .eql v49 (Value.int IntKind.i64 0)) fun v52 =>
      Br v52 (
        R (.tuple #[j11, (Value.int IntKind.i64 1)]) h2) (
        Vb (bin .eql v49 (Value.int IntKind.i64 12)) fun v55 =>
        Br v55 (
          R (.tuple #[j11, (Value.int IntKind.i64 2)]) h2) (
          R (.tuple #[j11, (Value.int IntKind.i64 0)]) h2))) fun J0 =>
  Vb (bin .geq v15 (Value.int IntKind.i64 8)) fun v32 =>
  Br v32 (
    Jn3 (fun i10 j11_1 k12 h3 =>
        S.C I.f_slices_medianOrdered_api_Loc [data0, i10, j11_1, k12, swaps9] h3 fun v48 h4 =>
        J0 v48 h4) fun J1 =>
    Vb (bin .geq v15 (Value.int IntKind.i64 50)) fun v34 =>
    Br v34 (
      S.C I.f_slices_medianAdjacentOrdered_api_Loc [data0, v20, swaps9] h1 fun v37 h5 =>
      S.C I.f_slices_medianAdjacentOrdered_api_Loc [data0, v25, swaps9] h5 fun v40 h6 =>
      S.C I.f_slices_medianAdjacentOrdered_api_Loc [data0, v30, swaps9] h6 fun v43 h7 =>
      J1 v37 v40 v43 h7) (
      J1 v20 v25 v30 h1)) (
    J0 v25 h1)

def F_slices_reverseRangeOrdered_api_Loc (S : Sys) (I : Ids) (data0 a1 b2 : Value) (h : Hp) (R : Value → Hp → Prop) : Prop :=
  Vb (bin .sub b2 (Value.int IntKind.i64 1)) fun v10 =>
  Lp2 a1 v10 h fun i6 j7 h1 again0 =>
  Vb (bin .lss i6 j7) fun v13 =>
  Br v13 (
    Vb (ixs 1 data0 j7) fun v20 =>
    Vb (ldc v20 h1) fun v21 =>
    Vb (ixs 1 data0 i6) fun v24 =>
    Vb (ldc v24 h1) fun v25 =>
    Vb (ixs 1 data0 i6) fun v26 =>
    Sb (sto 1 v26 v21 h1) fun h2 =>
    Vb (ixs 1 data0 j7) fun v27 =>
    Sb (sto 1 v27 v25 h2) fun h3 =>
    Vb (bin .add i6 (Value.int IntKind.i64 1)) fun v29 =>
    Vb (bin .sub j7 (Value.int IntKind.i64 1)) fun v31 =>
    again0 v29 v31 h3) (
    R (.tuple #[]) h1)

def F_slices_partialInsertionSortOrdered_api_Loc (S : Sys) (I : Ids) (data0 a1 b2 : Value) (h : Hp) (R : Value → Hp → Prop) : Prop :=
  Vb (bin .add a1 (Value.int IntKind.i64 1)) fun v12 =>
  Lp2 v12 (Value.int IntKind.i64 0) h fun i7 j8 h1 again0 =>
  Vb (bin .lss j8 (Value.int IntKind.i64 5)) fun v14 =>
  Br v14 (
    Jn1 (fun i7_1 h2 =>
        Vb (bin .add j8 (Value.int IntKind.i64 1)) fun v16 =>
        again0 i7_1 v16 h2) fun J0 =>
    Lp1 i7 h1 fun i7_2 h3 again1 =>
    Jn1 (fun v32 h4 =>
        Br v32 (
          Vb (bin .add i7_2 (Value.int IntKind.i64 1)) fun v34 =>
          again1 v34 h4) (
          Vb (bin .eql i7_2 b2) fun v37 =>
          Br v37 (
            R (Value.bool true) h4) (
            Vb (bin .sub b2 a1) fun v40 =>
            Vb (bin .lss v40 (Value.int IntKind.i64 50)) fun v41 =>
            Br v41 (
              R (Value.bool false) h4) (
              Vb (bin .sub i7_2 (Value.int IntKind.i64 1)) fun v46 =>
              Vb (bin .sub i7_2 (Value.int IntKind.i64 1)) fun v49 =>
              Vb (ixs 1 data0 v49) fun v50 =>
              Vb (ldc v50 h4) fun v51 =>
              Vb (ixs 1 data0 i7_2) fun v54 =>
              Vb (ldc v54 h4) fun v55 =>
              Vb (ixs 1 data0 i7_2) fun v56 =>
              Sb (sto 1 v56 v51 h4) fun h5 =>
              Vb (ixs 1 data0 v46) fun v57 =>
              Sb (sto 1 v57 v55 h5) fun h6 =>
              Jn0 (fun h7 =>
                  Vb (bin .sub b2 i7_2) fun v97 =>
                  Vb (bin .geq v97 (Value.int IntKind.i64 2)) fun v98 =>
                  Br v98 (
                    Vb (bin .add i7_2 (Value.int IntKind.i64 1)) fun v100 =>
                    Lp1 v100 h7 fun j10 h8 again2 =>
                    Vb (bin .lss j10 b2) fun v103 =>
                    Br v103 (
                      Vb (ixs 1 data0 j10) fun v108 =>
                      Vb (ldc v108 h8) fun v109 =>
                      Vb (bin .sub j10 (Value.int IntKind.i64 1)) fun v112 =>
                      Vb (ixs 1 data0 v112) fun v113 =>
                      Vb (ldc v113 h8) fun v114 =>
                      S.C I.f_cmp_Less_api_Loc [v109, v114] h8 fun v115 h9 =>
                      Vb (uno .not v115) fun v116 =>
                      Br v116 (
                        J0 i7_2 h9) (
                        Vb (bin .sub j10 (Value.int IntKind.i64 1)) fun v121 =>
                        Vb (bin .sub j10 (Value.int IntKind.i64 1)) fun v124 =>
                        Vb (ixs 1 data0 v124) fun v125 =>
                        Vb (ldc v125 h9) fun v126 =>
                        Vb (ixs 1 data0 j10) fun v129 =>
                        Vb (ldc v129 h9) fun v130 =>
                        Vb (ixs 1 data0 j10) fun v131 =>
                        Sb (sto 1 v131 v126 h9) fun h10 =>
                        Vb (ixs 1 data0 v121) fun v132 =>
                        Sb (sto 1 v132 v130 h10) fun h11 =>
                        Vb (bin .add j10 (Value.int IntKind.i64 1)) fun v105 =>
                        again2 v105 h11)) (
                      J0 i7_2 h8)) (
                    J0 i7_2 h7)) fun J2 =>
              Vb (bin .sub i7_2 a1) fun v60 =>
              Vb (bin .geq v60 (Value.int IntKind.i64 2)) fun v61 =>
              Br v61 (
                Vb (bin .sub i7_2 (Value.int IntKind.i64 1)) fun v63 =>
                Lp1 v63 h6 fun j9 h12 again3 =>
                Vb (bin .geq j9 (Value.int IntKind.i64 1)) fun v65 =>
                Br v65 (
                  Vb (ixs 1 data0 j9) fun v70 =>
                  Vb (ldc v70 h12) fun v71 =>
                  Vb (bin .sub j9 (Value.int IntKind.i64 1)) fun v74 =>
                  Vb (ixs 1 data0 v74) fun v75 =>
                  Vb (ldc v75 h12) fun v76 =>
                  S.C I.f_cmp_Less_api_Loc [v71, v76] h12 fun v77 h13 =>
                  Vb (uno .not v77) fun v78 =>
                  Br v78 (
                    J2 h13) (
                    Vb (bin .sub j9 (Value.int IntKind.i64 1)) fun v83 =>
                    Vb (bin .sub j9 (Value.int IntKind.i64 1)) fun v86 =>
                    Vb (ixs 1 data0 v86) fun v87 =>
                    Vb (ldc v87 h13) fun v88 =>
                    Vb (ixs 1 data0 j9) fun v91 =>
                    Vb (ldc v91 h13) fun v92 =>
                    Vb (ixs 1 data0 j9) fun v93 =>
                    Sb (sto 1 v93 v88 h13) fun h14 =>
                    Vb (ixs 1 data0 v83) fun v94 =>
                    Sb (sto 1 v94 v92 h14) fun h15 =>
                    Vb (bin .sub j9 (Value.int IntKind.i64 1)) fun v67 =>
                    again3 v67 h15)) (
                  J2 h12)) (
                J2 h6))))) fun J1 =>
    Vb (bin .lss i7_2 b2) fun v19 =>
    Br v19 (
      Vb (ixs 1 data0 i7_2) fun v23 =>
      Vb (ldc v23 h3) fun v24 =>
      Vb (bin .sub i7_2 (Value.int IntKind.i64 1)) fun v27 =>
      Vb (ixs 1 data0 v27) fun v28 =>
      Vb (ldc v28 h3) fun v29 =>
      S.C I.f_cmp_Less_api_Loc [v24, v29] h3 fun v30 h16 =>
      Vb (uno .not v30) fun v31 =>
      J1 v31 h16) (
      J1 (Value.bool false) h3)) (
    R (Value.bool false) h1)

def F_cmp_Less_api_Loc (S : Sys) (I : Ids) (x0 y1 : Value) (h : Hp) (R : Value → Hp → Prop) : Prop :=
  Jn1 (fun v4 h1 =>
      R v4 h1) fun J0 =>
  S.C I.f_cmp_isNaN_api_Loc [x0] h fun v6 h2 =>
  Br v6 (
    S.C I.f_cmp_isNaN_api_Loc [y1] h2 fun v9 h3 =>
    Vb (uno .not v9) fun v10 =>
    Br v10 (
      J0 (Value.bool true) h3) (
      Vb (bin .lss x0 y1) fun v15 =>
      J0 v15 h3)) (
    Vb (bin .lss x0 y1) fun v15_1 =>
    J0 v15_1 h2)

def F_slices_partitionEqualOrdered_api_Loc (S : Sys) (I : Ids) (data0 a1 b2 pivot3 : Value) (h : Hp) (R : Value → Hp → Prop) : Prop :=
  Vb (ixs 1 data0 pivot3) fun v17 =>
  Vb (ldc v17 h) fun v18 =>
  Vb (ixs 1 data0 a1) fun v21 =>
  Vb (ldc v21 h) fun v22 =>
  Vb (ixs 1 data0 a1) fun v23 =>
  Sb (sto 1 v23 v18 h) fun h1 =>
  Vb (ixs 1 data0 pivot3) fun v24 =>
  Sb (sto 1 v24 v22 h1) fun h2 =>
  Vb (bin .add a1 (Value.int IntKind.i64 1)) fun v26 =>
  Vb (bin .sub b2 (Value.int IntKind.i64 1)) fun v28 =>
  Lp2 v26 v28 h2 fun i9 j10 h3 again0 =>
  Lp1 i9 h3 fun i9_1 h4 again1 =>
  Jn1 (fun v43 h5 =>
      Br v43 (
        Vb (bin .add i9_1 (Value.int IntKind.i64 1)) fun v45 =>
        again1 v45 h5) (
        Lp1 j10 h5 fun j10_1 h6 again2 =>
        Jn1 (fun v59 h7 =>
            Br v59 (
              Vb (bin .sub j10_1 (Value.int IntKind.i64 1)) fun v61 =>
              again2 v61 h7) (
              Vb (bin .gtr i9_1 j10_1) fun v64 =>
              Br v64 (
                R i9_1 h7) (
                Vb (ixs 1 data0 j10_1) fun v71 =>
                Vb (ldc v71 h7) fun v72 =>
                Vb (ixs 1 data0 i9_1) fun v75 =>
                Vb (ldc v75 h7) fun v76 =>
                Vb (ixs 1 data0 i9_1) fun v77 =>
                Sb (sto 1 v77 v72 h7) fun h8 =>
                Vb (ixs 1 data0 j10_1) fun v78 =>
                Sb (sto 1 v78 v76 h8) fun h9 =>
                Vb (bin .add i9_1 (Value.int IntKind.i64 1)) fun v80 =>
                Vb (bin .sub j10_1 (Value.int IntKind.i64 1)) fun v82 =>
                again0 v80 v82 h9))) fun J1 =>
        Vb (bin .leq i9_1 j10_1) fun v48 =>
        Br v48 (
          Vb (ixs 1 data0 a1) fun v52 =>
          Vb (ldc v52 h6) fun v53 =>
          Vb (ixs 1 data0 j10_1) fun v56 =>
          Vb (ldc v56 h6) fun v57 =>
          S.C I.f_cmp_Less_api_Loc [v53, v57] h6 fun v58 h10 =>
          J1 v58 h10) (
          J1 (Value.bool false) h6))) fun J0 =>
  Vb (bin .leq i9_1 j10) fun v31 =>
  Br v31 (
    Vb (ixs 1 data0 a1) fun v35 =>
    Vb (ldc v35 h4) fun v36 =>
    Vb (ixs 1 data0 i9_1) fun v39 =>
    Vb (ldc v39 h4) fun v40 =>
    S.C I.f_cmp_Less_api_Loc [v36, v40] h4 fun v41 h11 =>
    Vb (uno .not v41) fun v42 =>
    J0 v42 h11) (
    J0 (Value.bool false) h4)

def F_slices_partitionOrdered_api_Loc (S : Sys) (I : Ids) (data0 a1 b2 pivot3 : Value) (h : Hp) (R : Value → Hp → Prop) : Prop :=
  Vb (ixs 1 data0 pivot3) fun v18 =>
  Vb (ldc v18 h) fun v19 =>
  Vb (ixs 1 data0 a1) fun v22 =>
  Vb (ldc v22 h) fun v23 =>
  Vb (ixs 1 data0 a1) fun v24 =>
  Sb (sto 1 v24 v19 h) fun h1 =>
  Vb (ixs 1 data0 pivot3) fun v25 =>
  Sb (sto 1 v25 v23 h1) fun h2 =>
  Vb (bin .add a1 (Value.int IntKind.i64 1)) fun v27 =>
  Vb (bin .sub b2 (Value.int IntKind.i64 1)) fun v29 =>
  Lp1 v27 h2 fun i10 h3 again0 =>
  Jn1 (fun v43 h4 =>
      Br v43 (
        Vb (bin .add i10 (Value.int IntKind.i64 1)) fun v45 =>
        again0 v45 h4) (
        Lp1 v29 h4 fun j11 h5 again1 =>
        Jn1 (fun v60 h6 =>
            Br v60 (
              Vb (bin .sub j11 (Value.int IntKind.i64 1)) fun v62 =>
              again1 v62 h6) (
              Vb (bin .gtr i10 j11) fun v65 =>
              Br v65 (
                Vb (ixs 1 data0 a1) fun v72 =>
                Vb (ldc v72 h6) fun v73 =>
                Vb (ixs 1 data0 j11) fun v76 =>
                Vb (ldc v76 h6) fun v77 =>
                Vb (ixs 1 data0 j11) fun v78 =>
                Sb (sto 1 v78 v73 h6) fun h7 =>
                Vb (ixs 1 data0 a1) fun v79 =>
                Sb (sto 1 v79 v77 h7) fun h8 =>
                R (.tuple #[j11, (Value.bool true)]) h8) (
                Vb (ixs 1 data0 j11) fun v87 =>
                Vb (ldc v87 h6) fun v88 =>
                Vb (ixs 1 data0 i10) fun v91 =>
                Vb (ldc v91 h6) fun v92 =>
                Vb (ixs 1 data0 i10) fun v93 =>
                Sb (sto 1 v93 v88 h6) fun h9 =>
                Vb (ixs 1 data0 j11) fun v94 =>
                Sb (sto 1 v94 v92 h9) fun h10 =>
                Vb (bin .add i10 (Value.int IntKind.i64 1)) fun v96 =>
                Vb (bin .sub j11 (Value.int IntKind.i64 1)) fun v98 =>
                Lp2 v96 v98 h10 fun i10_1 j11_1 h11 again2 =>
                Lp1 i10_1 h11 fun i10_2 h12 again3 =>
                Jn1 (fun v112 h13 =>
                    Br v112 (
                      Vb (bin .add i10_2 (Value.int IntKind.i64 1)) fun v114 =>
                      again3 v114 h13) (
                      Lp1 j11_1 h13 fun j11_2 h14 again4 =>
                      Jn1 (fun v129 h15 =>
                          Br v129 (
                            Vb (bin .sub j11_2 (Value.int IntKind.i64 1)) fun v131 =>
                            again4 v131 h15) (
                            Vb (bin .gtr i10_2 j11_2) fun v134 =>
                            Br v134 (
                              Vb (ixs 1 data0 a1) fun v159 =>
                              Vb (ldc v159 h15) fun v160 =>
                              Vb (ixs 1 data0 j11_2) fun v163 =>
                              Vb (ldc v163 h15) fun v164 =>
                              Vb (ixs 1 data0 j11_2) fun v165 =>
                              Sb (sto 1 v165 v160 h15) fun h16 =>
                              Vb (ixs 1 data0 a1) fun v166 =>
                              Sb (sto 1 v166 v164 h16) fun h17 =>
                              R (.tuple #[j11_2, (Value.bool false)]) h17) (
                              Vb (ixs 1 data0 j11_2) fun v141 =>
                              Vb (ldc v141 h15) fun v142 =>
                              Vb (ixs 1 data0 i10_2) fun v145 =>
                              Vb (ldc v145 h15) fun v146 =>
                              Vb (ixs 1 data0 i10_2) fun v147 =>
                              Sb (sto 1 v147 v142 h15) fun h18 =>
                              Vb (ixs 1 data0 j11_2) fun v148 =>
                              Sb (sto 1 v148 v146 h18) fun h19 =>
                              Vb (bin .add i10_2 (Value.int IntKind.i64 1)) fun v150 =>
                              Vb (bin .sub j11_2 (Value.int IntKind.i64 1)) fun v152 =>
                              again2 v150 v152 h19))) fun J3 =>
                      Vb (bin .leq i10_2 j11_2) fun v117 =>
                      Br v117 (
                        Vb (ixs 1 data0 j11_2) fun v121 =>
                        Vb (ldc v121 h14) fun v122 =>
                        Vb (ixs 1 data0 a1) fun v125 =>
                        Vb (ldc v125 h14) fun v126 =>
                        S.C I.f_cmp_Less_api_Loc [v122, v126] h14 fun v127 h20 =>
                        Vb (uno .not v127) fun v128 =>
                        J3 v128 h20) (
                        J3 (Value.bool false) h14))) fun J2 =>
                Vb (bin .leq i10_2 j11_1) fun v101 =>
                Br v101 (
                  Vb (ixs 1 data0 i10_2) fun v105 =>
                  Vb (ldc v105 h12) fun v106 =>
                  Vb (ixs 1 data0 a1) fun v109 =>
                  Vb (ldc v109 h12) fun v110 =>
                  S.C I.f_cmp_Less_api_Loc [v106, v110] h12 fun v111 h21 =>
                  J2 v111 h21) (
                  J2 (Value.bool false) h12)))) fun J1 =>
        Vb (bin .leq i10 j11) fun v48 =>
        Br v48 (
          Vb (ixs 1 data0 j11) fun v52 =>
          Vb (ldc v52 h5) fun v53 =>
          Vb (ixs 1 data0 a1) fun v56 =>
          Vb (ldc v56 h5) fun v57 =>
          S.C I.f_cmp_Less_api_Loc [v53, v57] h5 fun v58 h22 =>
          Vb (uno .not v58) fun v59 =>
          J1 v59 h22) (
          J1 (Value.bool false) h5))) fun J0 =>
  Vb (bin .leq i10 v29) fun v32 =>
  Br v32 (
    Vb (ixs 1 data0 i10) fun v36 =>
    Vb (ldc v36 h3) fun v37 =>
    Vb (ixs 1 data0 a1) fun v40 =>
    Vb (ldc v40 h3) fun v41 =>
    S.C I.f_cmp_Less_api_Loc [v37, v41] h3 fun v42 h23 =>
    J0 v42 h23) (
    J0 (Value.bool false) h3)

def F_math_bits_Len32 (S : Sys) (I : Ids) (x0 : Value) (h : Hp) (R : Value → Hp → Prop) : Prop :=
  Jn2 (fun x0_1 n2 h1 =>
      Jn2 (fun x0_2 n2_1 h2 =>
          Vb (cvi .u8 x0_2) fun v15 =>
          Vb (idst (Value.string { data := (List.toArray (List.append (List.append [0, 1, 2, 2, 3, 3, 3, 3, 4, 4, 4, 4, 4, 4, 4, 4, 5, 5, 5, 5, 5, 5, 5, 5, 5, 5, 5, 5, 5, 5, 5, 5, 6, 6, 6, 6, 6, 6, 6, 6, 6, 6, 6, 6, 6, 6, 6, 6, 6, 6, 6, 6, 6, 6, 6, 6, 6, 6, 6, 6, 6, 6, 6, 6] [7, 7, 7, 7, 7, 7, 7, 7, 7, 7, 7, 7, 7, 7, 7, 7, 7, 7, 7, 7, 7, 7, 7, 7, 7, 7, 7, 7, 7, 7, 7, 7, 7, 7, 7, 7, 7, 7, 7, 7, 7, 7, 7, 7, 7, 7, 7, 7, 7, 7, 7, 7, 7, 7, 7, 7, 7, 7, 7, 7, 7, 7, 7, 7]) (List.append [8, 8, 8, 8, 8, 8, 8, 8, 8, 8, 8, 8, 8, 8, 8, 8, 8, 8, 8, 8, 8, 8, 8, 8, 8, 8, 8, 8, 8, 8, 8, 8, 8, 8, 8, 8, 8, 8, 8, 8, 8, 8, 8, 8, 8, 8, 8, 8, 8, 8, 8, 8, 8, 8, 8, 8, 8, 8, 8, 8, 8, 8, 8, 8] [8, 8, 8, 8, 8, 8, 8, 8, 8, 8, 8, 8, 8, 8, 8, 8, 8, 8, 8, 8, 8, 8, 8, 8, 8, 8, 8, 8, 8, 8, 8, 8, 8, 8, 8, 8, 8, 8, 8, 8, 8, 8, 8, 8, 8, 8, 8, 8, 8, 8, 8, 8, 8, 8, 8, 8, 8, 8, 8, 8, 8, 8, 8, 8]))) }) v15) fun v16 =>
          Vb (cvi .i64 v16) fun v17 =>
          Vb (bin .add n2_1 v17) fun v18 =>
          R v18 h2) fun J1 =>
      Vb (bin .geq x0_1 (Value.int IntKind.u32 256)) fun v8 =>
      Br v8 (
        Vb (bin .shr x0_1 (Value.int IntKind.u64 8)) fun v10 =>
        Vb (bin .add n2 (Value.int IntKind.i64 8)) fun v12 =>
        J1 v10 v12 h1) (
        J1 x0_1 n2 h1)) fun J0 =>
  Vb (bin .geq x0 (Value.int IntKind.u32 65536)) fun v4 =>
  Br v4 (
    Vb (bin .shr x0 (Value.int IntKind.u64 16)) fun v6 =>
    J0 v6 (Value.int IntKind.i64 16) h) (
    J0 x0 (Value.int IntKind.i64 0) h)

def F_math_bits_Len64 (S : Sys) (I : Ids) (x0 : Value) (h : Hp) (R : Value → Hp → Prop) : Prop :=
  Jn2 (fun x0_1 n2 h1 =>
      Jn2 (fun x0_2 n2_1 h2 =>
          Jn2 (fun x0_3 n2_2 h3 =>
              Vb (cvi .u8 x0_3) fun v21 =>
              Vb (idst (Value.string { data := (List.toArray (List.append (List.append [0, 1, 2, 2, 3, 3, 3, 3, 4, 4, 4, 4, 4, 4, 4, 4, 5, 5, 5, 5, 5, 5, 5, 5, 5, 5, 5, 5, 5, 5, 5, 5, 6, 6, 6, 6, 6, 6, 6, 6, 6, 6, 6, 6, 6, 6, 6, 6, 6, 6, 6, 6, 6, 6, 6, 6, 6, 6, 6, 6, 6, 6, 6, 6] [7, 7, 7, 7, 7, 7, 7, 7, 7, 7, 7, 7, 7, 7, 7, 7, 7, 7, 7, 7, 7, 7, 7, 7, 7, 7, 7, 7, 7, 7, 7, 7, 7, 7, 7, 7, 7, 7, 7, 7, 7, 7, 7, 7, 7, 7, 7, 7, 7, 7, 7, 7, 7, 7, 7, 7, 7, 7, 7, 7, 7, 7, 7, 7]) (List.append [8, 8, 8, 8, 8, 8, 8, 8, 8, 8, 8, 8, 8, 8, 8, 8, 8, 8, 8, 8, 8, 8, 8, 8, 8, 8, 8, 8, 8, 8, 8, 8, 8, 8, 8, 8, 8, 8, 8, 8, 8, 8, 8, 8, 8, 8, 8, 8, 8, 8, 8, 8, 8, 8, 8, 8, 8, 8, 8, 8, 8, 8, 8, 8] [8, 8, 8, 8, 8, 8, 8, 8, 8, 8, 8, 8, 8, 8, 8, 8, 8, 8, 8, 8, 8, 8, 8, 8, 8, 8, 8, 8, 8, 8, 8, 8, 8, 8, 8, 8, 8, 8, 8, 8, 8, 8, 8, 8, 8, 8, 8, 8, 8, 8, 8, 8, 8, 8, 8, 8, 8, 8, 8, 8, 8, 8, 8, 8]))) }) v21) fun v22 =>
              Vb (cvi .i64 v22) fun v23 =>
              Vb (bin .add n2_2 v23) fun v24 =>
              R v24 h3) fun J2 =>
          Vb (bin .geq x0_2 (Value.int IntKind.u64 256)) fun v14 =>
          Br v14 (
            Vb (bin .shr x0_2 (Value.int IntKind.u64 8)) fun v16 =>
            Vb (bin .add n2_1 (Value.int IntKind.i64 8)) fun v18 =>
            J2 v16 v18 h2) (
            J2 x0_2 n2_1 h2)) fun J1 =>
      Vb (bin .geq x0_1 (Value.int IntKind.u64 65536)) fun v8 =>
      Br v8 (
        Vb (bin .shr x0_1 (Value.int IntKind.u64 16)) fun v10 =>
        Vb (bin .add n2 (Value.int IntKind.i64 16)) fun v12 =>
        J1 v10 v12 h1) (
        J1 x0_1 n2 h1)) fun J0 =>
  Vb (bin .geq x0 (Value.int IntKind.u64 4294967296)) fun v4 =>
  Br v4 (
    Vb (bin .shr x0 (Value.int IntKind.u64 32)) fun v6 =>
    J0 v6 (Value.int IntKind.i64 32) h) (
    J0 x0 (Value.int IntKind.i64 0) h)

def F_word_kind (S : Sys) (I : Ids) (w0 : Value) (h : Hp) (R : Value → Hp → Prop) : Prop :=
  Eb (nw (Value.cells w0) I.t_api_Word h) fun w1 h1 =>
  Vb (fa 2 w1) fun v6 =>
  Vb (ldc v6 h1) fun v7 =>
  S.C I.f_word_Who [v7] h1 fun v8 h2 =>
  Vb (ext 0 v8) fun v9 =>
  Vb (ext 1 v8) fun v10 =>
  Vb (fa 2 w1) fun v12 =>
  Vb (ldc v12 h2) fun v13 =>
  Vb (bin .eql v13 (Value.int IntKind.u32 0)) fun v14 =>
  Br v14 (
    R (Value.int IntKind.i64 0) h2) (
    Vb (bin .gtr v9 (Value.int IntKind.i64 0)) fun v17 =>
    Br v17 (
      R (Value.int IntKind.i64 1) h2) (
      R (Value.int IntKind.i64 2) h2))

def F_slices_siftDownOrdered_api_Loc (S : Sys) (I : Ids) (data0 lo1 hi2 first3 : Value) (h : Hp) (R : Value → Hp → Prop) : Prop :=
  Lp1 lo1 h fun root8 h1 again0 =>
  Vb (bin .mul (Value.int IntKind.i64 2) root8) fun v12 =>
  Vb (bin .add v12 (Value.int IntKind.i64 1)) fun v13 =>
  Vb (bin .geq v13 hi2) fun v16 =>
  Br v16 (
    R (.tuple #[]) h1) (
    Jn1 (fun child9 h2 =>
        Vb (bin .add first3 root8) fun v42 =>
        Vb (ixs 1 data0 v42) fun v43 =>
        Vb (ldc v43 h2) fun v44 =>
        Vb (bin .add first3 child9) fun v48 =>
        Vb (ixs 1 data0 v48) fun v49 =>
        Vb (ldc v49 h2) fun v50 =>
        S.C I.f_cmp_Less_api_Loc [v44, v50] h2 fun v51 h3 =>
        Vb (uno .not v51) fun v52 =>
        Br v52 (
          R (.tuple #[]) h3) (
          Vb (bin .add first3 root8) fun v56 =>
          Vb (bin .add first3 child9) fun v60 =>
          Vb (bin .add first3 child9) fun v64 =>
          Vb (ixs 1 data0 v64) fun v65 =>
          Vb (ldc v65 h3) fun v66 =>
          Vb (bin .add first3 root8) fun v70 =>
          Vb (ixs 1 data0 v70) fun v71 =>
          Vb (ldc v71 h3) fun v72 =>
          Vb (ixs 1 data0 v56) fun v73 =>
          Sb (sto 1 v73 v66 h3) fun h4 =>
          Vb (ixs 1 data0 v60) fun v74 =>
          Sb (sto 1 v74 v72 h4) fun h5 =>
          again0 child9 h5)) fun J0 =>
    Jn1 (fun v36 h6 =>
        Br v36 (
          Vb (bin .add v13 (Value.int IntKind.i64 1)) fun v38 =>
          J0 v38 h6) (
          J0 v13 h6)) fun J1 =>
    Vb (bin .add v13 (Value.int IntKind.i64 1)) fun v18 =>
    Vb (bin .lss v18 hi2) fun v20 =>
    Br v20 (
      Vb (bin .add first3 v13) fun v25 =>
      Vb (ixs 1 data0 v25) fun v26 =>
      Vb (ldc v26 h1) fun v27 =>
      Vb (bin .add first3 v13) fun v31 =>
      Vb (bin .add v31 (Value.int IntKind.i64 1)) fun v32 =>
      Vb (ixs 1 data0 v32) fun v33 =>
      Vb (ldc v33 h1) fun v34 =>
      S.C I.f_cmp_Less_api_Loc [v27, v34] h1 fun v35 h7 =>
      J1 v35 h7) (
      J1 (Value.bool false) h1))

def F_slices_nextPowerOfTwo (S : Sys) (I : Ids) (length0 : Value) (h : Hp) (R : Value → Hp → Prop) : Prop :=
  Vb (cvi .u64 length0) fun v4 =>
  S.C I.f_math_bits_Len [v4] h fun v5 h1 =>
  Vb (bin .shl (Value.int IntKind.u64 1) v5) fun v6 =>
  R v6 h1

def F_slices_xorshift_Next (S : Sys) (I : Ids) (r0 : Value) (h : Hp) (R : Value → Hp → Prop) : Prop :=
  Vb (nck r0) fun v4 =>
  Vb (ldc v4 h) fun v5 =>
  Vb (nck r0) fun v7 =>
  Vb (ldc v7 h) fun v8 =>
  Vb (bin .shl v8 (Value.int IntKind.u64 13)) fun v9 =>
  Vb (bin .xor v5 v9) fun v10 =>
  Vb (nck r0) fun v11 =>
  Sb (sto 1 v11 v10 h) fun h1 =>
  Vb (nck r0) fun v13 =>
  Vb (ldc v13 h1) fun v14 =>
  Vb (nck r0) fun v16 =>
  Vb (ldc v16 h1) fun v17 =>
  Vb (bin .shr v17 (Value.int IntKind.u64 7)) fun v18 =>
  Vb (bin .xor v14 v18) fun v19 =>
  Vb (nck r0) fun v20 =>
  Sb (sto 1 v20 v19 h1) fun h2 =>
  Vb (nck r0) fun v22 =>
  Vb (ldc v22 h2) fun v23 =>
  Vb (nck r0) fun v25 =>
  Vb (ldc v25 h2) fun v26 =>
  Vb (bin .shl v26 (Value.int IntKind.u64 17)) fun v27 =>
  Vb (bin .xor v23 v27) fun v28 =>
  Vb (nck r0) fun v29 =>
  Sb (sto 1 v29 v28 h2) fun h3 =>
  Vb (nck r0) fun v31 =>
  Vb (ldc v31 h3) fun v32 =>
  R v32 h3

def F_slices_medianAdjacentOrdered_api_Loc (S : Sys) (I : Ids) (data0 a1 swaps2 : Value) (h : Hp) (R : Value → Hp → Prop) : Prop :=
  Vb (bin .sub a1 (Value.int IntKind.i64 1)) fun v9 =>
  Vb (bin .add a1 (Value.int IntKind.i64 1)) fun v12 =>
  S.C I.f_slices_medianOrdered_api_Loc [data0, v9, a1, v12, swaps2] h fun v14 h1 =>
  R v14 h1

def F_slices_medianOrdered_api_Loc (S : Sys) (I : Ids) (data0 a1 b2 c3 swaps4 : Value) (h : Hp) (R : Value → Hp → Prop) : Prop :=
  S.C I.f_slices_order2Ordered_api_Loc [data0, a1, b2, swaps4] h fun v16 h1 =>
  Vb (ext 0 v16) fun v17 =>
  Vb (ext 1 v16) fun v18 =>
  S.C I.f_slices_order2Ordered_api_Loc [data0, v18, c3, swaps4] h1 fun v24 h2 =>
  Vb (ext 0 v24) fun v25 =>
  Vb (ext 1 v24) fun v26 =>
  S.C I.f_slices_order2Ordered_api_Loc [data0, v17, v25, swaps4] h2 fun v32 h3 =>
  Vb (ext 0 v32) fun v33 =>
  Vb (ext 1 v32) fun v34 =>
  R v34 h3

def F_cmp_isNaN_api_Loc (S : Sys) (I : Ids) (x0 : Value) (h : Hp) (R : Value → Hp → Prop) : Prop :=
  Vb (bin .neq x0 x0) fun v5 =>
  R v5 h

def F_word_Who (S : Sys) (I : Ids) (ref0 : Value) (h : Hp) (R : Value → Hp → Prop) : Prop :=
  Vb (bin .shr ref0 (Value.int IntKind.u64 24)) fun v9 =>
  Vb (cvi .i64 v9) fun v10 =>
  Vb (bin .and ref0 (Value.int IntKind.u32 16777215)) fun v12 =>
  Vb (cvi .i64 v12) fun v13 =>
  S.C I.f_word_Ref [v10, v13] h fun v17 h1 =>
  Vb (ext 0 v17) fun v18 =>
  Vb (ext 1 v17) fun v19 =>
  Vb (bin .neq v19 (Value.int IntKind.i64 0)) fun v21 =>
  Br v21 (
    R (.tuple #[(Value.int IntKind.i64 0), (Value.int IntKind.i64 0)]) h1) (
    R (.tuple #[v10, v13]) h1)

def F_slices_order2Ordered_api_Loc (S : Sys) (I : Ids) (data0 a1 b2 swaps3 : Value) (h : Hp) (R : Value → Hp → Prop) : Prop :=
  Vb (ixs 1 data0 b2) fun v12 =>
  Vb (ldc v12 h) fun v13 =>
  Vb (ixs 1 data0 a1) fun v16 =>
  Vb (ldc v16 h) fun v17 =>
  S.C I.f_cmp_Less_api_Loc [v13, v17] h fun v18 h1 =>
  Br v18 (
    Vb (nck swaps3) fun v20 =>
    Vb (ldc v20 h1) fun v21 =>
    Vb (bin .add v21 (Value.int IntKind.i64 1)) fun v22 =>
    Vb (nck swaps3) fun v23 =>
    Sb (sto 1 v23 v22 h1) fun h2 =>
    R (.tuple #[b2, a1]) h2) (
    R (.tuple #[a1, b2]) h1)

def F_word_Ref (S : Sys) (I : Ids) (who0 seq1 : Value) (h : Hp) (R : Value → Hp → Prop) : Prop :=
  Jn1 (fun v19 h1 =>
      Br v19 (
        R (.tuple #[(Value.int IntKind.u32 0), (Value.int IntKind.i64 3)]) h1) (
        Vb (cvi .u32 who0) fun v21 =>
        Vb (bin .shl v21 (Value.int IntKind.u64 24)) fun v22 =>
        Vb (cvi .u32 seq1) fun v24 =>
        Vb (bin .or v22 v24) fun v25 =>
        R (.tuple #[v25, (Value.int IntKind.i64 0)]) h1)) fun J0 =>
  Vb (bin .lss who0 (Value.int IntKind.i64 1)) fun v7 =>
  Br v7 (
    J0 (Value.bool true) h) (
    Vb (bin .gtr who0 (Value.int IntKind.i64 72)) fun v10 =>
    Br v10 (
      J0 (Value.bool true) h) (
      Vb (bin .lss seq1 (Value.int IntKind.i64 1)) fun v14 =>
      Br v14 (
        J0 (Value.bool true) h) (
        Vb (bin .gtr seq1 (Value.int IntKind.i64 16777215)) fun v18 =>
        J0 v18 h)))

end Go.En
