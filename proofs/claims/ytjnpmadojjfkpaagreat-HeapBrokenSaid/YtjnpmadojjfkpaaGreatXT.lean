/-
  Clean texts of 118 functions: what each of them does, printed by program out of the translation.
-/
import Derived.Test.YtjnpmadojjfkpaaGreatXB
namespace Go.En
/-- the numbers of functions and types -/
structure Ids where
  f_simulcastlaw38_HeapPlays : Nat
  f_simulcastlaw38_HeapSorts : Nat
  f_simulcastlaw38_HeapStands : Nat
  f_simulcastlaw38_HeapHandles : Nat
  f_simulcastlaw38_HeapFew : Nat
  f_simulcastlaw38_HeapBroken : Nat
  f_simulcastlaw38_HeapMerges : Nat
  f_simulcastlaw38_great : Nat
  f_simulcastlaw38_awake : Nat
  f_simulcastlaw38_played : Nat
  f_simulcastlaw33_World_Done : Nat
  f_simulcastlaw38_HeapSorts_1 : Nat
  f_heap_Heap_Walk : Nat
  f_simulcastlaw38_HeapSorts_2 : Nat
  f_heap_Heap_Push : Nat
  f_simulcastlaw38_HeapSorts_3 : Nat
  f_heap_Heap_Pop : Nat
  f_simulcastlaw38_odd : Nat
  f_simulcastlaw38_HeapStands_1 : Nat
  f_simulcastlaw38_state_row : Nat
  f_pool_Pool_Node : Nat
  f_simulcastref38_Find : Nat
  f_simulcastlaw38_HeapHandles_1 : Nat
  f_heap_Heap_Lower : Nat
  f_simulcastlaw38_HeapHandles_2 : Nat
  f_heap_Heap_Drop : Nat
  f_simulcastlaw33_Alike : Nat
  f_simulcastlaw38_step : Nat
  f_simulcastlaw33_Fresh : Nat
  f_simulcastlaw38_made : Nat
  f_simulcastlaw38_HeapBroken_1 : Nat
  f_simulcastlaw38_HeapBroken_2 : Nat
  f_heap_Heap_Min : Nat
  f_space_New : Nat
  f_heap_Heap_Len : Nat
  f_pool_Pool_Left : Nat
  f_space_Space_Ended : Nat
  f_simulcastlaw38_awake_1 : Nat
  f_slices_Equal_int64_int64 : Nat
  f_simulcastlaw38_is : Nat
  f_space_Space_Entries : Nat
  f_space_Space_Writes : Nat
  f_space_Space_Get : Nat
  f_heap_work_many : Nat
  f_heap_work_item : Nat
  f_slices_SortStableFunc_api_Loc_api_Loc : Nat
  f_heap_Heap_Walk_1 : Nat
  f_heap_work_key : Nat
  f_heap_ahead : Nat
  f_heap_work_get : Nat
  f_heap_work_none : Nat
  f_heap_work_end : Nat
  f_space_Space_Mark : Nat
  f_heap_work_root : Nat
  f_heap_work_take : Nat
  f_space_Space_Put : Nat
  f_heap_work_put : Nat
  f_heap_work_add : Nat
  f_heap_work_rise : Nat
  f_heap_work_remove : Nat
  f_pool_Pool_Check : Nat
  f_heap_work_find : Nat
  f_simulcastlaw38_step_1 : Nat
  f_simulcastref38_Without : Nat
  f_simulcastref38_Put : Nat
  f_simulcastref38_Nodes : Nat
  f_slices_Clone_int64_int64 : Nat
  f_simulcastlaw38_is_1 : Nat
  f_space_Space_Reads : Nat
  f_space_Space_value : Nat
  f_entry_Check : Nat
  f_slices_Sort_api_Loc_api_Loc : Nat
  f_slices_Compact_api_Loc_api_Loc : Nat
  f_space_Space_reads : Nat
  f_heap_work_row : Nat
  f_heap_work_node : Nat
  f_slices_stableCmpFunc_api_Loc : Nat
  f_space_Space_Back : Nat
  f_pool_Pool_Take : Nat
  f_heap_work_lay : Nat
  f_heap_work_sink : Nat
  f_heap_work_give : Nat
  f_simulcastref38_ahead : Nat
  f_space_Space_last : Nat
  f_entry_wrong : Nat
  f_slices_ContainsFunc_api_Entry_api_Entry : Nat
  f_entry_Check_1 : Nat
  f_slices_pdqsortOrdered_api_Loc : Nat
  f_math_bits_Len : Nat
  f_slices_insertionSortCmpFunc_api_Loc : Nat
  f_slices_symMergeCmpFunc_api_Loc : Nat
  f_pool_Pool_add : Nat
  f_pool_Pool_Give : Nat
  f_word_Plain : Nat
  f_slices_IndexFunc_api_Entry_api_Entry : Nat
  f_slices_insertionSortOrdered_api_Loc : Nat
  f_slices_heapSortOrdered_api_Loc : Nat
  f_slices_breakPatternsOrdered_api_Loc : Nat
  f_slices_choosePivotOrdered_api_Loc : Nat
  f_slices_reverseRangeOrdered_api_Loc : Nat
  f_slices_partialInsertionSortOrdered_api_Loc : Nat
  f_cmp_Less_api_Loc : Nat
  f_slices_partitionEqualOrdered_api_Loc : Nat
  f_slices_partitionOrdered_api_Loc : Nat
  f_math_bits_Len32 : Nat
  f_math_bits_Len64 : Nat
  f_slices_rotateCmpFunc_api_Loc : Nat
  f_word_kind : Nat
  f_slices_siftDownOrdered_api_Loc : Nat
  f_slices_nextPowerOfTwo : Nat
  f_slices_xorshift_Next : Nat
  f_slices_medianAdjacentOrdered_api_Loc : Nat
  f_slices_medianOrdered_api_Loc : Nat
  f_cmp_isNaN_api_Loc : Nat
  f_slices_swapRangeCmpFunc_api_Loc : Nat
  f_word_Who : Nat
  f_slices_order2Ordered_api_Loc : Nat
  f_word_Ref : Nat
  t_int64 : Nat
  t_int : Nat
  t_bool : Nat
  t_api_Loc : Nat
  t_pool_Pool : Nat
  t_heap_Heap : Nat
  t_s_int64 : Nat
  t_simulcastlaw38_state : Nat
  t_s_2_int64 : Nat
  t_api_Errno : Nat
  t_2_int64 : Nat
  t_2_int8 : Nat
  t_api_Word : Nat
  t_simulcastref38_Item : Nat
  t_simulcastlaw38_Call : Nat
  t_api_Entry : Nat
  t_p_heap_work : Nat
  t_heap_work : Nat
  t_heap_key : Nat
  t_space_Space : Nat
  t_space_put : Nat
  t_slices_xorshift : Nat

def F_simulcastlaw38_HeapPlays (S : Sys) (I : Ids) (n0 l1 : Value) (h : Hp) (R : Value → Hp → Prop) : Prop :=
  S.C I.f_simulcastlaw38_great [l1] h fun v8 h1 =>
  Br v8 (
    S.C I.f_simulcastlaw38_awake [] h1 fun v9 h2 =>
    R v9 h2) (
    S.C I.f_simulcastlaw38_played [n0, l1] h1 fun v13 h3 =>
    Vb (ext 0 v13) fun v14 =>
    Vb (ext 1 v13) fun v15 =>
    Eb (nw #[Value.map none, Value.int IntKind.i64 0, Value.int IntKind.i64 0, Value.int IntKind.i64 0, Value.int IntKind.i64 0, Value.slice none 0 0, Value.slice none 0 0] I.t_simulcastlaw38_state h3) fun v5 h4 =>
    Sb (sto 7 v5 v14 h4) fun h5 =>
    Jn1 (fun v4 h6 =>
        R v4 h6) fun J0 =>
    Br v15 (
      S.C I.f_simulcastlaw38_awake [] h5 fun v18 h7 =>
      J0 v18 h7) (
      J0 (Value.bool false) h5))

def F_simulcastlaw38_HeapSorts (S : Sys) (I : Ids) (n0 l1 more2 : Value) (h : Hp) (R : Value → Hp → Prop) : Prop :=
  Jn1 (fun v37 h1 =>
      Br v37 (
        S.C I.f_simulcastlaw38_awake [] h1 fun v38 h2 =>
        R v38 h2) (
        S.C I.f_simulcastlaw38_played [n0, l1] h1 fun v42 h3 =>
        Vb (ext 0 v42) fun v43 =>
        Vb (ext 1 v42) fun v44 =>
        Eb (nw #[Value.map none, Value.int IntKind.i64 0, Value.int IntKind.i64 0, Value.int IntKind.i64 0, Value.int IntKind.i64 0, Value.slice none 0 0, Value.slice none 0 0] I.t_simulcastlaw38_state h3) fun x7 h4 =>
        Sb (sto 7 x7 v43 h4) fun h5 =>
        Vb (uno .not v44) fun v46 =>
        Br v46 (
          R (Value.bool false) h5) (
          Eb (mmk h5) fun v47 h6 =>
          Eb (nw #[Value.slice none 0 0] I.t_s_2_int64 h6) fun walk10 h7 =>
          Vb (fa 0 x7) fun v48 =>
          Vb (ldc v48 h7) fun v49 =>
          Vb (some (.func (.func I.f_simulcastlaw38_HeapSorts_1) #[] #[x7, walk10])) fun v50 =>
          S.C I.f_simulcastlaw33_World_Done [v49, v50] h7 fun v51 h8 =>
          Vb (ldc walk10 h8) fun v52 =>
          Vb (lnS v52) fun v53 =>
          Lp1 (Value.int IntKind.i64 0) h8 fun v54 h9 again0 =>
          Vb (bin .lss v54 v53) fun v55 =>
          Br v55 (
            Vb (ixs 2 v52 v54) fun v56 =>
            Vb (lda 2 v56 h9) fun v57 =>
            Eb (nw #[Value.int IntKind.i64 0, Value.int IntKind.i64 0] I.t_2_int64 h9) fun p12 h10 =>
            Sb (sto 2 p12 v57 h10) fun h11 =>
            Vb (ixa 2 1 p12 (Value.int IntKind.i64 1)) fun v59 =>
            Vb (ldc v59 h11) fun v60 =>
            Vb (lkm (.int .i64) (Value.int IntKind.i64 0) false v47 v60 h11) fun v61 =>
            Vb (bin .add v61 (Value.int IntKind.i64 1)) fun v62 =>
            Sb (mup (.int .i64) v47 v60 v62 h11) fun h12 =>
            Vb (bin .add v54 (Value.int IntKind.i64 1)) fun v63 =>
            again0 v63 h12) (
            Vb (fa 0 x7) fun v64 =>
            Vb (ldc v64 h9) fun v65 =>
            Vb (lnS more2) fun v67 =>
            Lp2 v65 (Value.int IntKind.i64 0) h9 fun w13 v68 h13 again1 =>
            Vb (bin .lss v68 v67) fun v69 =>
            Br v69 (
              Jn1 (fun w13_1 h14 =>
                  Vb (bin .add v68 (Value.int IntKind.i64 1)) fun v99 =>
                  again1 w13_1 v99 h14) fun J1 =>
              Vb (ixs 2 more2 v68) fun v71 =>
              Vb (lda 2 v71 h13) fun v72 =>
              Eb (nw #[Value.int IntKind.i8 0, Value.int IntKind.i8 0] I.t_2_int8 h13) fun m15 h15 =>
              Sb (sto 2 m15 v72 h15) fun h16 =>
              Vb (bin .add (Value.int IntKind.i64 1099511627776) v68) fun v74 =>
              Eb (nw #[Value.int IntKind.i64 0] I.t_int64 h16) fun v16 h17 =>
              Sb (sto 1 v16 v74 h17) fun h18 =>
              Eb (nw #[Value.int IntKind.i64 0] I.t_api_Errno h18) fun e17 h19 =>
              Vb (some (.func (.func I.f_simulcastlaw38_HeapSorts_2) #[] #[x7, m15, v16, e17])) fun v77 =>
              S.C I.f_simulcastlaw33_World_Done [w13, v77] h19 fun v78 h20 =>
              Vb (ext 0 v78) fun v79 =>
              Vb (ext 1 v78) fun v80 =>
              Vb (ext 2 v78) fun v81 =>
              Jn1 (fun v91 h21 =>
                  Br v91 (
                    R (Value.bool false) h21) (
                    Vb (ldc e17 h21) fun v93 =>
                    Vb (bin .eql v93 (Value.int IntKind.i64 0)) fun v94 =>
                    Br v94 (
                      Vb (ldc v16 h21) fun v96 =>
                      Vb (lkm (.int .i64) (Value.int IntKind.i64 0) false v47 v96 h21) fun v97 =>
                      Vb (bin .add v97 (Value.int IntKind.i64 1)) fun v98 =>
                      Sb (mup (.int .i64) v47 v96 v98 h21) fun h22 =>
                      J1 v79 h22) (
                      J1 v79 h21))) fun J2 =>
              Vb (uno .not v81) fun v83 =>
              Br v83 (
                J2 (Value.bool true) h20) (
                Vb (ldc e17 h20) fun v85 =>
                Vb (bin .neq v85 (Value.int IntKind.i64 0)) fun v86 =>
                Br v86 (
                  Vb (ldc e17 h20) fun v88 =>
                  Vb (bin .neq v88 (Value.int IntKind.i64 9)) fun v89 =>
                  J2 v89 h20) (
                  J2 (Value.bool false) h20))) (
              Vb (bldA 1 #[Value.int IntKind.i64 0, Value.int IntKind.i64 0] []) fun v100 =>
              Eb (nw #[Value.int IntKind.i64 0, Value.int IntKind.i64 0] I.t_2_int64 h13) fun last21 h23 =>
              Sb (sto 2 last21 v100 h23) fun h24 =>
              Lp2 w13 (Value.int IntKind.i64 0) h24 fun w13_2 i22 h25 again2 =>
              Vb (lkm (.int .i64) (Value.agg #[Value.int IntKind.i64 0, Value.int IntKind.u32 0, Value.int IntKind.u32 0]) false w13_2 (Value.int IntKind.i64 16) h25) fun v102 =>
              Vb (fdc 0 v102) fun v103 =>
              Vb (bin .gtr v103 (Value.int IntKind.i64 0)) fun v104 =>
              Br v104 (
                Eb (nw #[Value.int IntKind.i64 0] I.t_int64 h25) fun p23 h26 =>
                Eb (nw #[Value.int IntKind.i64 0] I.t_int64 h26) fun v24 h27 =>
                Eb (nw #[Value.int IntKind.i64 0] I.t_api_Errno h27) fun e25 h28 =>
                Vb (some (.func (.func I.f_simulcastlaw38_HeapSorts_3) #[] #[x7, p23, v24, e25])) fun v109 =>
                S.C I.f_simulcastlaw33_World_Done [w13_2, v109] h28 fun v110 h29 =>
                Vb (ext 0 v110) fun v111 =>
                Vb (ext 1 v110) fun v112 =>
                Vb (ext 2 v110) fun v113 =>
                Jn1 (fun v129 h30 =>
                    Br v129 (
                      R (Value.bool false) h30) (
                      Jn1 (fun v163 h31 =>
                          Br v163 (
                            R (Value.bool false) h31) (
                            Jn1 (fun v171 h32 =>
                                Br v171 (
                                  R (Value.bool false) h32) (
                                  Vb (ldc v24 h32) fun v173 =>
                                  Vb (lkm (.int .i64) (Value.int IntKind.i64 0) false v47 v173 h32) fun v174 =>
                                  Vb (bin .sub v174 (Value.int IntKind.i64 1)) fun v175 =>
                                  Sb (mup (.int .i64) v47 v173 v175 h32) fun h33 =>
                                  Vb (ldc p23 h33) fun v176 =>
                                  Vb (ldc v24 h33) fun v177 =>
                                  Vb (bldA 1 #[Value.int IntKind.i64 0, Value.int IntKind.i64 0] [(0, v176), (1, v177)]) fun v178 =>
                                  Sb (sto 2 last21 v178 h33) fun h34 =>
                                  Vb (bin .add i22 (Value.int IntKind.i64 1)) fun v106 =>
                                  again2 v111 v106 h34)) fun J5 =>
                            Vb (bin .gtr i22 (Value.int IntKind.i64 0)) fun v165 =>
                            Br v165 (
                              Vb (ldc p23 h31) fun v167 =>
                              Vb (ixa 2 1 last21 (Value.int IntKind.i64 0)) fun v168 =>
                              Vb (ldc v168 h31) fun v169 =>
                              Vb (bin .lss v167 v169) fun v170 =>
                              J5 v170 h31) (
                              J5 (Value.bool false) h31))) fun J4 =>
                      Vb (bin .gtr i22 (Value.int IntKind.i64 0)) fun v131 =>
                      Br v131 (
                        Vb (ldc p23 h30) fun v133 =>
                        Vb (ixa 2 1 last21 (Value.int IntKind.i64 0)) fun v134 =>
                        Vb (ldc v134 h30) fun v135 =>
                        Vb (bin .lss v133 v135) fun v136 =>
                        Br v136 (
                          S.C I.f_simulcastlaw38_odd [l1] h30 fun v161 h35 =>
                          Vb (uno .not v161) fun v162 =>
                          J4 v162 h35) (
                          Vb (ldc p23 h30) fun v138 =>
                          Vb (ixa 2 1 last21 (Value.int IntKind.i64 0)) fun v139 =>
                          Vb (ldc v139 h30) fun v140 =>
                          Vb (bin .eql v138 v140) fun v141 =>
                          Br v141 (
                            Vb (ldc v24 h30) fun v143 =>
                            Vb (bin .geq v143 (Value.int IntKind.i64 1099511627776)) fun v144 =>
                            Br v144 (
                              Vb (ixa 2 1 last21 (Value.int IntKind.i64 1)) fun v147 =>
                              Vb (ldc v147 h30) fun v148 =>
                              Vb (bin .geq v148 (Value.int IntKind.i64 1099511627776)) fun v149 =>
                              Br v149 (
                                Vb (ldc v24 h30) fun v152 =>
                                Vb (ixa 2 1 last21 (Value.int IntKind.i64 1)) fun v153 =>
                                Vb (ldc v153 h30) fun v154 =>
                                Vb (bin .lss v152 v154) fun v155 =>
                                Br v155 (
                                  S.C I.f_simulcastlaw38_odd [l1] h30 fun v161_1 h36 =>
                                  Vb (uno .not v161_1) fun v162_1 =>
                                  J4 v162_1 h36) (
                                  J4 (Value.bool false) h30)) (
                                J4 (Value.bool false) h30)) (
                              J4 (Value.bool false) h30)) (
                            J4 (Value.bool false) h30))) (
                        J4 (Value.bool false) h30))) fun J3 =>
                Vb (uno .not v113) fun v115 =>
                Br v115 (
                  J3 (Value.bool true) h29) (
                  Vb (ldc e25 h29) fun v117 =>
                  Vb (bin .neq v117 (Value.int IntKind.i64 0)) fun v118 =>
                  Br v118 (
                    J3 (Value.bool true) h29) (
                    Vb (bin .gtr i22 (Value.int IntKind.i64 40)) fun v122 =>
                    Br v122 (
                      J3 (Value.bool true) h29) (
                      Vb (ldc v24 h29) fun v126 =>
                      Vb (lkm (.int .i64) (Value.int IntKind.i64 0) false v47 v126 h29) fun v127 =>
                      Vb (bin .eql v127 (Value.int IntKind.i64 0)) fun v128 =>
                      J3 v128 h29)))) (
                Eb (rng v47 h25) fun v181 h37 =>
                Lp0 h37 fun h38 again3 =>
                Nx v181 h38 fun v182 h39 =>
                Vb (ext 0 v182) fun v183 =>
                Br v183 (
                  Vb (ent v181 h39) fun v184 =>
                  Vb (ext 1 v184) fun v185 =>
                  Vb (bin .neq v185 (Value.int IntKind.i64 0)) fun v187 =>
                  Br v187 (
                    R (Value.bool false) h39) (
                    again3 h39)) (
                  Jn1 (fun v6 h40 =>
                      R v6 h40) fun J6 =>
                  Vb (lkm (.int .i64) (Value.agg #[Value.int IntKind.i64 0, Value.int IntKind.u32 0, Value.int IntKind.u32 0]) false w13_2 (Value.int IntKind.i64 23) h39) fun v189 =>
                  Vb (fdc 0 v189) fun v190 =>
                  Vb (bin .eql v190 (Value.int IntKind.i64 0)) fun v191 =>
                  Br v191 (
                    S.C I.f_simulcastlaw38_awake [] h39 fun v193 h41 =>
                    J6 v193 h41) (
                    J6 (Value.bool false) h39)))))))) fun J0 =>
  S.C I.f_simulcastlaw38_great [l1] h fun v32 h42 =>
  Br v32 (
    J0 (Value.bool true) h42) (
    Vb (lnS more2) fun v35 =>
    Vb (bin .gtr v35 (Value.int IntKind.i64 20)) fun v36 =>
    J0 v36 h42)

def F_simulcastlaw38_HeapStands (S : Sys) (I : Ids) (n0 l1 : Value) (h : Hp) (R : Value → Hp → Prop) : Prop :=
  S.C I.f_simulcastlaw38_great [l1] h fun v22 h1 =>
  Br v22 (
    S.C I.f_simulcastlaw38_awake [] h1 fun v23 h2 =>
    R v23 h2) (
    S.C I.f_simulcastlaw38_played [n0, l1] h1 fun v27 h3 =>
    Vb (ext 0 v27) fun v28 =>
    Vb (ext 1 v27) fun v29 =>
    Eb (nw #[Value.map none, Value.int IntKind.i64 0, Value.int IntKind.i64 0, Value.int IntKind.i64 0, Value.int IntKind.i64 0, Value.slice none 0 0, Value.slice none 0 0] I.t_simulcastlaw38_state h3) fun x5 h4 =>
    Sb (sto 7 x5 v28 h4) fun h5 =>
    Vb (uno .not v29) fun v31 =>
    Br v31 (
      R (Value.bool false) h5) (
      Vb (some (.func (.func I.f_simulcastlaw38_HeapStands_1) #[] #[x5])) fun v32 =>
      Vb (fa 5 x5) fun v33 =>
      Vb (ldc v33 h5) fun v34 =>
      Vb (lnS v34) fun v35 =>
      Lp1 (Value.int IntKind.i64 1) h5 fun i9 h6 again0 =>
      Vb (bin .leq i9 v35) fun v38 =>
      Br v38 (
        Cv S.C S.Y v32 [i9] h6 fun v44 h7 =>
        Vb (ext 0 v44) fun v45 =>
        Vb (ext 1 v44) fun v46 =>
        Eb (nw #[Value.int IntKind.i64 0, Value.int IntKind.i64 0] I.t_2_int64 h7) fun it11 h8 =>
        Sb (sto 2 it11 v46 h8) fun h9 =>
        Vb (fa 1 x5) fun v48 =>
        Vb (fa 0 v48) fun v49 =>
        Vb (lda 3 v49 h9) fun v50 =>
        S.C I.f_pool_Pool_Node [v50, v45] h9 fun v52 h10 =>
        Vb (ext 0 v52) fun v53 =>
        Vb (ext 1 v52) fun v54 =>
        Jn1 (fun v66 h11 =>
            Br v66 (
              R (Value.bool false) h11) (
              Vb (bin .mul (Value.int IntKind.i64 2) i9) fun v68 =>
              Lp1 v68 h11 fun k14 h12 again1 =>
              Jn1 (fun v78 h13 =>
                  Br v78 (
                    Cv S.C S.Y v32 [k14] h13 fun v84 h14 =>
                    Vb (ext 0 v84) fun v85 =>
                    Vb (ext 1 v84) fun v86 =>
                    Eb (nw #[Value.int IntKind.i64 0, Value.int IntKind.i64 0] I.t_2_int64 h14) fun other16 h15 =>
                    Sb (sto 2 other16 v86 h15) fun h16 =>
                    Jn1 (fun v105 h17 =>
                        Br v105 (
                          R (Value.bool false) h17) (
                          Vb (bin .add k14 (Value.int IntKind.i64 1)) fun v80 =>
                          again1 v80 h17)) fun J2 =>
                    Vb (ixa 2 1 other16 (Value.int IntKind.i64 0)) fun v87 =>
                    Vb (ldc v87 h16) fun v88 =>
                    Vb (ixa 2 1 it11 (Value.int IntKind.i64 0)) fun v89 =>
                    Vb (ldc v89 h16) fun v90 =>
                    Vb (bin .lss v88 v90) fun v91 =>
                    Br v91 (
                      J2 (Value.bool true) h16) (
                      Vb (ixa 2 1 other16 (Value.int IntKind.i64 0)) fun v93 =>
                      Vb (ldc v93 h16) fun v94 =>
                      Vb (ixa 2 1 it11 (Value.int IntKind.i64 0)) fun v95 =>
                      Vb (ldc v95 h16) fun v96 =>
                      Vb (bin .eql v94 v96) fun v97 =>
                      Br v97 (
                        Vb (ixa 2 1 other16 (Value.int IntKind.i64 1)) fun v99 =>
                        Vb (ldc v99 h16) fun v100 =>
                        Vb (ixa 2 1 it11 (Value.int IntKind.i64 1)) fun v101 =>
                        Vb (ldc v101 h16) fun v102 =>
                        Vb (bin .leq v100 v102) fun v103 =>
                        J2 v103 h16) (
                        J2 (Value.bool false) h16))) (
                    Vb (bin .add i9 (Value.int IntKind.i64 1)) fun v40 =>
                    again0 v40 h13)) fun J1 =>
              Vb (bin .mul (Value.int IntKind.i64 2) i9) fun v71 =>
              Vb (bin .add v71 (Value.int IntKind.i64 1)) fun v72 =>
              Vb (bin .leq k14 v72) fun v73 =>
              Br v73 (
                Vb (bin .leq k14 v35) fun v77 =>
                J1 v77 h12) (
                J1 (Value.bool false) h12))) fun J0 =>
        Vb (uno .not v54) fun v56 =>
        Br v56 (
          J0 (Value.bool true) h10) (
          Vb (fa 0 x5) fun v58 =>
          Vb (ldc v58 h10) fun v59 =>
          Vb (bin .add v45 (Value.int IntKind.i64 3)) fun v61 =>
          Vb (lkm (.int .i64) (Value.agg #[Value.int IntKind.i64 0, Value.int IntKind.u32 0, Value.int IntKind.u32 0]) false v59 v61 h10) fun v62 =>
          Vb (fdc 0 v62) fun v63 =>
          Vb (bin .neq v63 i9) fun v65 =>
          J0 v65 h10)) (
        Lp1 (Value.int IntKind.i64 0) h6 fun v106 h18 again2 =>
        Vb (bin .lss v106 (Value.int IntKind.i64 4)) fun v107 =>
        Br v107 (
          Vb (fa 0 x5) fun v109 =>
          Vb (ldc v109 h18) fun v110 =>
          Vb (bin .add (Value.int IntKind.i64 19) v106) fun v112 =>
          Vb (lkm (.int .i64) (Value.agg #[Value.int IntKind.i64 0, Value.int IntKind.u32 0, Value.int IntKind.u32 0]) false v110 v112 h18) fun v113 =>
          Vb (fdc 0 v113) fun v114 =>
          Vb (bin .neq v114 (Value.int IntKind.i64 0)) fun v115 =>
          Vb (bin .mul (Value.int IntKind.i64 8) v106) fun v117 =>
          Vb (bin .lss v117 v35) fun v119 =>
          Vb (neg? (eqB v115 v119)) fun v120 =>
          Br v120 (
            R (Value.bool false) h18) (
            Vb (bin .add v106 (Value.int IntKind.i64 1)) fun v121 =>
            again2 v121 h18)) (
          Vb (fa 6 x5) fun v122 =>
          Vb (ldc v122 h18) fun v123 =>
          Vb (lnS v123) fun v124 =>
          Lp1 (Value.int IntKind.i64 0) h18 fun v125 h19 again3 =>
          Vb (bin .lss v125 v124) fun v126 =>
          Br v126 (
            Vb (ixs 1 v123 v125) fun v128 =>
            Vb (ldc v128 h19) fun v129 =>
            Vb (fa 5 x5) fun v130 =>
            Vb (ldc v130 h19) fun v131 =>
            S.C I.f_simulcastref38_Find [v131, v125] h19 fun v133 h20 =>
            Jn1 (fun v164 h21 =>
                Br v164 (
                  R (Value.bool false) h21) (
                  Vb (bin .add v125 (Value.int IntKind.i64 1)) fun v165 =>
                  again3 v165 h21)) fun J3 =>
            Vb (bin .geq v133 (Value.int IntKind.i64 0)) fun v135 =>
            Br v135 (
              Vb (fa 0 x5) fun v137 =>
              Vb (ldc v137 h20) fun v138 =>
              Vb (lkm (.int .i64) (Value.agg #[Value.int IntKind.i64 0, Value.int IntKind.u32 0, Value.int IntKind.u32 0]) false v138 v129 h20) fun v140 =>
              Vb (fdc 0 v140) fun v141 =>
              Vb (fa 5 x5) fun v142 =>
              Vb (ldc v142 h20) fun v143 =>
              Vb (ixs 4 v143 v133) fun v145 =>
              Vb (fa 0 v145) fun v146 =>
              Vb (ldc v146 h20) fun v147 =>
              Vb (bin .neq v141 v147) fun v148 =>
              Br v148 (
                J3 (Value.bool true) h20) (
                Vb (fa 0 x5) fun v150 =>
                Vb (ldc v150 h20) fun v151 =>
                Vb (bin .add v129 (Value.int IntKind.i64 1)) fun v153 =>
                Vb (lkm (.int .i64) (Value.agg #[Value.int IntKind.i64 0, Value.int IntKind.u32 0, Value.int IntKind.u32 0]) false v151 v153 h20) fun v154 =>
                Vb (fdc 0 v154) fun v155 =>
                Vb (fa 5 x5) fun v156 =>
                Vb (ldc v156 h20) fun v157 =>
                Vb (ixs 4 v157 v133) fun v159 =>
                Vb (fa 1 v159) fun v160 =>
                Vb (ldc v160 h20) fun v161 =>
                Vb (bin .neq v155 v161) fun v162 =>
                J3 v162 h20)) (
              J3 (Value.bool false) h20)) (
            S.C I.f_simulcastlaw38_awake [] h19 fun v166 h22 =>
            R v166 h22)))))

def F_simulcastlaw38_HeapHandles (S : Sys) (I : Ids) (n0 l1 x2 : Value) (h : Hp) (R : Value → Hp → Prop) : Prop :=
  Eb (nw (Value.cells x2) I.t_int64 h) fun x5 h1 =>
  S.C I.f_simulcastlaw38_great [l1] h1 fun v20 h2 =>
  Br v20 (
    S.C I.f_simulcastlaw38_awake [] h2 fun v21 h3 =>
    R v21 h3) (
    S.C I.f_simulcastlaw38_played [n0, l1] h2 fun v25 h4 =>
    Vb (ext 0 v25) fun v26 =>
    Vb (ext 1 v25) fun v27 =>
    Eb (nw #[Value.map none, Value.int IntKind.i64 0, Value.int IntKind.i64 0, Value.int IntKind.i64 0, Value.int IntKind.i64 0, Value.slice none 0 0, Value.slice none 0 0] I.t_simulcastlaw38_state h4) fun x7 h5 =>
    Sb (sto 7 x7 v26 h5) fun h6 =>
    Vb (uno .not v27) fun v29 =>
    Br v29 (
      R (Value.bool false) h6) (
      Lp2 (Value.bool false) (Value.int IntKind.i64 1) h6 fun right9 i10 h7 again0 =>
      Vb (fa 5 x7) fun v31 =>
      Vb (ldc v31 h7) fun v32 =>
      Vb (lnS v32) fun v33 =>
      Vb (bin .leq i10 v33) fun v34 =>
      Br v34 (
        Jn1 (fun right9_1 h8 =>
            Vb (bin .add i10 (Value.int IntKind.i64 1)) fun v36 =>
            again0 right9_1 v36 h8) fun J0 =>
        Br right9 (
          J0 (Value.bool true) h7) (
          Vb (fa 0 x7) fun v39 =>
          Vb (ldc v39 h7) fun v40 =>
          Vb (lda 7 x7 h7) fun v41 =>
          Vb (ldc x5 h7) fun v46 =>
          S.C I.f_simulcastlaw38_state_row [v41, i10] h7 fun v43 h9 =>
          ldc x5 h9 = some v46 ∧
          ldc v39 h9 = some v40 ∧
          Vb (lkm (.int .i64) (Value.agg #[Value.int IntKind.i64 0, Value.int IntKind.u32 0, Value.int IntKind.u32 0]) false v40 v43 h9) fun v44 =>
          Vb (fdc 0 v44) fun v45 =>
          Vb (bin .eql v45 v46) fun v47 =>
          J0 v47 h9)) (
        Eb (nw #[Value.int IntKind.i64 0] I.t_api_Errno h7) fun e11 h10 =>
        Eb (nw #[Value.int IntKind.i64 0] I.t_api_Errno h10) fun f12 h11 =>
        Vb (fa 0 x7) fun v50 =>
        Vb (ldc v50 h11) fun v51 =>
        Vb (some (.func (.func I.f_simulcastlaw38_HeapHandles_1) #[] #[x7, x5, e11])) fun v52 =>
        S.C I.f_simulcastlaw33_World_Done [v51, v52] h11 fun v53 h12 =>
        Vb (ext 0 v53) fun v54 =>
        Vb (ext 1 v53) fun v55 =>
        Vb (ext 2 v53) fun v56 =>
        Vb (fa 0 x7) fun v58 =>
        Vb (ldc v58 h12) fun v59 =>
        Vb (some (.func (.func I.f_simulcastlaw38_HeapHandles_2) #[] #[x7, x5, f12])) fun v60 =>
        S.C I.f_simulcastlaw33_World_Done [v59, v60] h12 fun v61 h13 =>
        Vb (ext 0 v61) fun v62 =>
        Vb (ext 1 v61) fun v63 =>
        Vb (ext 2 v61) fun v64 =>
        Jn1 (fun v82 h14 =>
            Br v82 (
              R (Value.bool false) h14) (
              Jn1 (fun v6 h15 =>
                  R v6 h15) fun J2 =>
              Br right9 (
                S.C I.f_simulcastlaw38_awake [] h14 fun v105 h16 =>
                J2 v105 h16) (
                Vb (ldc e11 h14) fun v85 =>
                Vb (bin .eql v85 (Value.int IntKind.i64 10)) fun v86 =>
                Br v86 (
                  Vb (ldc f12 h14) fun v88 =>
                  Vb (bin .eql v88 (Value.int IntKind.i64 10)) fun v89 =>
                  Br v89 (
                    Vb (fa 0 x7) fun v93 =>
                    Vb (ldc v93 h14) fun v94 =>
                    S.C I.f_simulcastlaw33_Alike [v54, v94] h14 fun v95 h17 =>
                    Br v95 (
                      Vb (fa 0 x7) fun v99 =>
                      Vb (ldc v99 h17) fun v100 =>
                      S.C I.f_simulcastlaw33_Alike [v62, v100] h17 fun v101 h18 =>
                      Br v101 (
                        S.C I.f_simulcastlaw38_awake [] h18 fun v105_1 h19 =>
                        J2 v105_1 h19) (
                        J2 (Value.bool false) h18)) (
                      J2 (Value.bool false) h17)) (
                    J2 (Value.bool false) h14)) (
                  J2 (Value.bool false) h14)))) fun J1 =>
        Vb (uno .not v56) fun v66 =>
        Br v66 (
          J1 (Value.bool true) h13) (
          Vb (uno .not v64) fun v69 =>
          Br v69 (
            J1 (Value.bool true) h13) (
            Vb (ldc e11 h13) fun v73 =>
            Vb (bin .eql v73 (Value.int IntKind.i64 0)) fun v74 =>
            Vb (neg? (eqB right9 v74)) fun v75 =>
            Br v75 (
              J1 (Value.bool true) h13) (
              Vb (ldc f12 h13) fun v79 =>
              Vb (bin .eql v79 (Value.int IntKind.i64 0)) fun v80 =>
              Vb (neg? (eqB right9 v80)) fun v81 =>
              J1 v81 h13))))))

def F_simulcastlaw38_HeapFew (S : Sys) (I : Ids) (n0 l1 c2 : Value) (h : Hp) (R : Value → Hp → Prop) : Prop :=
  Eb (nw (Value.cells c2) I.t_simulcastlaw38_Call h) fun c5 h1 =>
  S.C I.f_simulcastlaw38_great [l1] h1 fun v15 h2 =>
  Br v15 (
    S.C I.f_simulcastlaw38_awake [] h2 fun v16 h3 =>
    R v16 h3) (
    Vb (fa 0 c5) fun v17 =>
    Vb (ldc v17 h2) fun v18 =>
    Vb (bin .rem v18 (Value.int IntKind.u8 4)) fun v19 =>
    Vb (fa 0 c5) fun v20 =>
    Sb (sto 1 v20 v19 h2) fun h4 =>
    S.C I.f_simulcastlaw38_played [n0, l1] h4 fun v24 h5 =>
    Vb (ext 0 v24) fun v25 =>
    Vb (ext 1 v24) fun v26 =>
    Eb (nw #[Value.map none, Value.int IntKind.i64 0, Value.int IntKind.i64 0, Value.int IntKind.i64 0, Value.int IntKind.i64 0, Value.slice none 0 0, Value.slice none 0 0] I.t_simulcastlaw38_state h5) fun x7 h6 =>
    Sb (sto 7 x7 v25 h6) fun h7 =>
    Vb (lda 7 x7 h7) fun v28 =>
    Vb (lda 4 c5 h7) fun v29 =>
    S.C I.f_simulcastlaw38_step [v28, v29] h7 fun v30 h8 =>
    Vb (ext 0 v30) fun v31 =>
    Vb (ext 1 v30) fun v32 =>
    Eb (nw #[Value.map none, Value.int IntKind.i64 0, Value.int IntKind.i64 0, Value.int IntKind.i64 0, Value.int IntKind.i64 0, Value.slice none 0 0, Value.slice none 0 0] I.t_simulcastlaw38_state h8) fun y9 h9 =>
    Sb (sto 7 y9 v31 h9) fun h10 =>
    Jn1 (fun v38 h11 =>
        Br v38 (
          R (Value.bool false) h11) (
          Lp2 (Value.int IntKind.i64 0) (Value.int IntKind.i64 1) h11 fun moved11 i12 h12 again0 =>
          Vb (fa 5 x7) fun v40 =>
          Vb (ldc v40 h12) fun v41 =>
          Vb (lnS v41) fun v42 =>
          Vb (bin .leq i12 v42) fun v43 =>
          Br v43 (
            Jn1 (fun moved11_1 h13 =>
                Vb (bin .add i12 (Value.int IntKind.i64 1)) fun v45 =>
                again0 moved11_1 v45 h13) fun J1 =>
            Vb (fa 0 x7) fun v46 =>
            Vb (ldc v46 h12) fun v47 =>
            Vb (lda 7 x7 h12) fun v48 =>
            S.C I.f_simulcastlaw38_state_row [v48, i12] h12 fun v50 h14 =>
            ldc v46 h14 = some v47 ∧
            Vb (lkm (.int .i64) (Value.agg #[Value.int IntKind.i64 0, Value.int IntKind.u32 0, Value.int IntKind.u32 0]) false v47 v50 h14) fun v51 =>
            Vb (fdc 0 v51) fun v52 =>
            Jn1 (fun v70 h15 =>
                Br v70 (
                  Vb (bin .add moved11 (Value.int IntKind.i64 1)) fun v72 =>
                  J1 v72 h15) (
                  J1 moved11 h15)) fun J2 =>
            Vb (fa 0 y9) fun v53 =>
            Vb (ldc v53 h14) fun v54 =>
            Vb (bin .add v52 (Value.int IntKind.i64 3)) fun v56 =>
            Vb (lkm (.int .i64) (Value.agg #[Value.int IntKind.i64 0, Value.int IntKind.u32 0, Value.int IntKind.u32 0]) false v54 v56 h14) fun v57 =>
            Vb (fdc 0 v57) fun v58 =>
            Vb (bin .neq v58 i12) fun v60 =>
            Br v60 (
              Vb (fa 0 c5) fun v62 =>
              Vb (ldc v62 h14) fun v63 =>
              Vb (bin .eql v63 (Value.int IntKind.u8 3)) fun v64 =>
              Br v64 (
                Vb (bin .eql i12 (Value.int IntKind.i64 1)) fun v67 =>
                Vb (uno .not v67) fun v69 =>
                J2 v69 h14) (
                Vb (uno .not (Value.bool false)) fun v69_1 =>
                J2 v69_1 h14)) (
              J2 (Value.bool false) h14)) (
            Jn1 (fun v6 h16 =>
                R v6 h16) fun J3 =>
            Vb (bin .leq moved11 (Value.int IntKind.i64 6)) fun v74 =>
            Br v74 (
              S.C I.f_simulcastlaw38_awake [] h12 fun v76 h17 =>
              J3 v76 h17) (
              J3 (Value.bool false) h12)))) fun J0 =>
    Vb (uno .not v26) fun v34 =>
    Br v34 (
      J0 (Value.bool true) h10) (
      Vb (uno .not v32) fun v37 =>
      J0 v37 h10))

def F_simulcastlaw38_HeapBroken (S : Sys) (I : Ids) (vals0 n1 c2 : Value) (h : Hp) (R : Value → Hp → Prop) : Prop :=
  Eb (nw (Value.cells c2) I.t_simulcastlaw38_Call h) fun c5 h1 =>
  Vb (lnS vals0) fun v22 =>
  Vb (bin .gtr v22 (Value.int IntKind.i64 384)) fun v23 =>
  Br v23 (
    S.C I.f_simulcastlaw38_awake [] h1 fun v24 h2 =>
    R v24 h2) (
    S.C I.f_simulcastlaw33_Fresh [(Value.int IntKind.i64 384)] h1 fun v25 h3 =>
    Vb (lnS vals0) fun v27 =>
    Lp1 (Value.int IntKind.i64 0) h3 fun v28 h4 again0 =>
    Vb (bin .lss v28 v27) fun v29 =>
    Br v29 (
      Vb (ixs 1 vals0 v28) fun v31 =>
      Vb (ldc v31 h4) fun v32 =>
      Vb (bldS [(0, 1), (1, 1), (2, 1)] #[Value.int IntKind.i64 0, Value.int IntKind.u32 0, Value.int IntKind.u32 0] [(0, v32)]) fun v36 =>
      Sb (mup (.int .i64) v25 v28 v36 h4) fun h5 =>
      Vb (bin .add v28 (Value.int IntKind.i64 1)) fun v37 =>
      again0 v37 h5) (
      S.C I.f_simulcastlaw38_made [n1] h4 fun v39 h6 =>
      Eb (nw #[Value.int IntKind.i64 0, Value.int IntKind.i64 0, Value.int IntKind.i64 0, Value.int IntKind.i64 0] I.t_heap_Heap h6) fun x10 h7 =>
      Sb (sto 4 x10 v39 h7) fun h8 =>
      Eb (nw #[Value.int IntKind.i64 0] I.t_api_Errno h8) fun e11 h9 =>
      Eb (nw #[Value.int IntKind.i64 0] I.t_api_Errno h9) fun f12 h10 =>
      Eb (nw #[Value.int IntKind.i64 0] I.t_api_Errno h10) fun g13 h11 =>
      Eb (nw #[Value.slice none 0 0] I.t_s_2_int64 h11) fun l14 h12 =>
      Vb (some (.func (.func I.f_simulcastlaw38_HeapBroken_1) #[] #[c5, x10, e11])) fun v42 =>
      S.C I.f_simulcastlaw33_World_Done [v25, v42] h12 fun v43 h13 =>
      Vb (ext 0 v43) fun v44 =>
      Vb (ext 1 v43) fun v45 =>
      Vb (ext 2 v43) fun v46 =>
      Vb (some (.func (.func I.f_simulcastlaw38_HeapBroken_2) #[] #[x10, l14, f12, g13])) fun v49 =>
      S.C I.f_simulcastlaw33_World_Done [v25, v49] h13 fun v50 h14 =>
      Vb (ext 0 v50) fun v51 =>
      Vb (ext 1 v50) fun v52 =>
      Vb (ext 2 v50) fun v53 =>
      Jn1 (fun v6 h15 =>
          R v6 h15) fun J0 =>
      Br v46 (
        Br v53 (
          Vb (ldc e11 h14) fun v59 =>
          Vb (bin .eql v59 (Value.int IntKind.i64 0)) fun v60 =>
          Br v60 (
            S.C I.f_simulcastlaw33_Alike [v25, v51] h14 fun v70 h16 =>
            Br v70 (
              Vb (ldc f12 h16) fun v73 =>
              Vb (bin .eql v73 (Value.int IntKind.i64 0)) fun v74 =>
              Br v74 (
                Vb (ldc g13 h16) fun v82 =>
                Vb (bin .neq v82 (Value.int IntKind.i64 0)) fun v83 =>
                Br v83 (
                  S.C I.f_simulcastlaw38_awake [] h16 fun v92 h17 =>
                  J0 v92 h17) (
                  Vb (lkm (.int .i64) (Value.agg #[Value.int IntKind.i64 0, Value.int IntKind.u32 0, Value.int IntKind.u32 0]) false v25 (Value.int IntKind.i64 16) h16) fun v86 =>
                  Vb (fdc 0 v86) fun v87 =>
                  Vb (bin .gtr v87 (Value.int IntKind.i64 0)) fun v88 =>
                  Br v88 (
                    S.C I.f_simulcastlaw38_awake [] h16 fun v92_1 h18 =>
                    J0 v92_1 h18) (
                    J0 (Value.bool false) h16))) (
                Vb (ldc l14 h16) fun v76 =>
                Vb (lnS v76) fun v77 =>
                Vb (bin .eql v77 (Value.int IntKind.i64 0)) fun v78 =>
                Br v78 (
                  Vb (ldc g13 h16) fun v82_1 =>
                  Vb (bin .neq v82_1 (Value.int IntKind.i64 0)) fun v83_1 =>
                  Br v83_1 (
                    S.C I.f_simulcastlaw38_awake [] h16 fun v92_2 h19 =>
                    J0 v92_2 h19) (
                    Vb (lkm (.int .i64) (Value.agg #[Value.int IntKind.i64 0, Value.int IntKind.u32 0, Value.int IntKind.u32 0]) false v25 (Value.int IntKind.i64 16) h16) fun v86_1 =>
                    Vb (fdc 0 v86_1) fun v87_1 =>
                    Vb (bin .gtr v87_1 (Value.int IntKind.i64 0)) fun v88_1 =>
                    Br v88_1 (
                      S.C I.f_simulcastlaw38_awake [] h16 fun v92_3 h20 =>
                      J0 v92_3 h20) (
                      J0 (Value.bool false) h16))) (
                  J0 (Value.bool false) h16))) (
              J0 (Value.bool false) h16)) (
            S.C I.f_simulcastlaw33_Alike [v25, v44] h14 fun v64 h21 =>
            Br v64 (
              S.C I.f_simulcastlaw33_Alike [v25, v51] h21 fun v70_1 h22 =>
              Br v70_1 (
                Vb (ldc f12 h22) fun v73_1 =>
                Vb (bin .eql v73_1 (Value.int IntKind.i64 0)) fun v74_1 =>
                Br v74_1 (
                  Vb (ldc g13 h22) fun v82_2 =>
                  Vb (bin .neq v82_2 (Value.int IntKind.i64 0)) fun v83_2 =>
                  Br v83_2 (
                    S.C I.f_simulcastlaw38_awake [] h22 fun v92_4 h23 =>
                    J0 v92_4 h23) (
                    Vb (lkm (.int .i64) (Value.agg #[Value.int IntKind.i64 0, Value.int IntKind.u32 0, Value.int IntKind.u32 0]) false v25 (Value.int IntKind.i64 16) h22) fun v86_2 =>
                    Vb (fdc 0 v86_2) fun v87_2 =>
                    Vb (bin .gtr v87_2 (Value.int IntKind.i64 0)) fun v88_2 =>
                    Br v88_2 (
                      S.C I.f_simulcastlaw38_awake [] h22 fun v92_5 h24 =>
                      J0 v92_5 h24) (
                      J0 (Value.bool false) h22))) (
                  Vb (ldc l14 h22) fun v76_1 =>
                  Vb (lnS v76_1) fun v77_1 =>
                  Vb (bin .eql v77_1 (Value.int IntKind.i64 0)) fun v78_1 =>
                  Br v78_1 (
                    Vb (ldc g13 h22) fun v82_3 =>
                    Vb (bin .neq v82_3 (Value.int IntKind.i64 0)) fun v83_3 =>
                    Br v83_3 (
                      S.C I.f_simulcastlaw38_awake [] h22 fun v92_6 h25 =>
                      J0 v92_6 h25) (
                      Vb (lkm (.int .i64) (Value.agg #[Value.int IntKind.i64 0, Value.int IntKind.u32 0, Value.int IntKind.u32 0]) false v25 (Value.int IntKind.i64 16) h22) fun v86_3 =>
                      Vb (fdc 0 v86_3) fun v87_3 =>
                      Vb (bin .gtr v87_3 (Value.int IntKind.i64 0)) fun v88_3 =>
                      Br v88_3 (
                        S.C I.f_simulcastlaw38_awake [] h22 fun v92_7 h26 =>
                        J0 v92_7 h26) (
                        J0 (Value.bool false) h22))) (
                    J0 (Value.bool false) h22))) (
                J0 (Value.bool false) h22)) (
              J0 (Value.bool false) h21))) (
          J0 (Value.bool false) h14)) (
        J0 (Value.bool false) h14)))

def F_simulcastlaw38_HeapMerges (S : Sys) (I : Ids) (items0 turn1 : Value) (h : Hp) (R : Value → Hp → Prop) : Prop :=
  Vb (lnS items0) fun v21 =>
  Vb (bin .gtr v21 (Value.int IntKind.i64 16)) fun v22 =>
  Br v22 (
    S.C I.f_simulcastlaw38_awake [] h fun v23 h1 =>
    R v23 h1) (
    Vb (bldS [(0, 1), (1, 1), (2, 1)] #[Value.int IntKind.i64 0, Value.int IntKind.i64 0, Value.int IntKind.i64 0] [(0, (Value.int IntKind.i64 1)), (1, (Value.int IntKind.i64 64)), (2, (Value.int IntKind.i64 40))]) fun v24 =>
    Vb (bldS [(0, 3), (3, 1)] #[Value.int IntKind.i64 0, Value.int IntKind.i64 0, Value.int IntKind.i64 0, Value.int IntKind.i64 0] [(0, v24), (1, (Value.int IntKind.i64 16))]) fun v25 =>
    Eb (nw #[Value.int IntKind.i64 0, Value.int IntKind.i64 0, Value.int IntKind.i64 0, Value.int IntKind.i64 0] I.t_heap_Heap h) fun a5 h2 =>
    Sb (sto 4 a5 v25 h2) fun h3 =>
    Vb (lda 4 a5 h3) fun v26 =>
    Eb (nw #[Value.int IntKind.i64 0, Value.int IntKind.i64 0, Value.int IntKind.i64 0, Value.int IntKind.i64 0] I.t_heap_Heap h3) fun b6 h4 =>
    Sb (sto 4 b6 v26 h4) fun h5 =>
    Vb (fa 3 b6) fun v27 =>
    Sb (sto 1 v27 (Value.int IntKind.i64 24) h5) fun h6 =>
    S.C I.f_simulcastlaw33_Fresh [(Value.int IntKind.i64 384)] h6 fun v28 h7 =>
    S.C I.f_space_New [v28] h7 fun v29 h8 =>
    Vb (lnS items0) fun v31 =>
    Lp1 (Value.int IntKind.i64 0) h8 fun v32 h9 again0 =>
    Vb (bin .lss v32 v31) fun v33 =>
    Br v33 (
      Vb (cvi .i64 turn1) fun v38 =>
      Vb (bin .add v32 v38) fun v39 =>
      Vb (lnS items0) fun v41 =>
      Vb (bin .rem v39 v41) fun v42 =>
      Vb (ixs 2 items0 v42) fun v43 =>
      Vb (lda 2 v43 h9) fun v44 =>
      Eb (nw #[Value.int IntKind.i8 0, Value.int IntKind.i8 0] I.t_2_int8 h9) fun x9 h10 =>
      Sb (sto 2 x9 v44 h10) fun h11 =>
      Vb (lda 4 a5 h11) fun v46 =>
      Vb (ixs 2 items0 v32) fun v50 =>
      Vb (ixa 2 1 v50 (Value.int IntKind.i64 0)) fun v51 =>
      Vb (ldc v51 h11) fun v52 =>
      Vb (cvi .i64 v52) fun v53 =>
      Vb (ixs 2 items0 v32) fun v56 =>
      Vb (ixa 2 1 v56 (Value.int IntKind.i64 1)) fun v57 =>
      Vb (ldc v57 h11) fun v58 =>
      Vb (cvi .i64 v58) fun v59 =>
      S.C I.f_heap_Heap_Push [v46, v29, v53, v59] h11 fun v60 h12 =>
      Vb (ext 0 v60) fun v61 =>
      Vb (ext 1 v60) fun v62 =>
      Vb (lda 4 b6 h12) fun v64 =>
      Vb (ixa 2 1 x9 (Value.int IntKind.i64 0)) fun v66 =>
      Vb (ldc v66 h12) fun v67 =>
      Vb (cvi .i64 v67) fun v68 =>
      Vb (ixa 2 1 x9 (Value.int IntKind.i64 1)) fun v69 =>
      Vb (ldc v69 h12) fun v70 =>
      Vb (cvi .i64 v70) fun v71 =>
      S.C I.f_heap_Heap_Push [v64, v29, v68, v71] h12 fun v72 h13 =>
      Vb (ext 0 v72) fun v73 =>
      Vb (ext 1 v72) fun v74 =>
      Jn1 (fun v80 h14 =>
          Br v80 (
            R (Value.bool false) h14) (
            Vb (bin .add v32 (Value.int IntKind.i64 1)) fun v81 =>
            again0 v81 h14)) fun J0 =>
      Vb (bin .neq v62 (Value.int IntKind.i64 0)) fun v76 =>
      Br v76 (
        J0 (Value.bool true) h13) (
        Vb (bin .neq v74 (Value.int IntKind.i64 0)) fun v79 =>
        J0 v79 h13)) (
      Vb (lnS items0) fun v83 =>
      Lp1 (Value.int IntKind.i64 0) h9 fun v84 h15 again1 =>
      Vb (bin .lss v84 v83) fun v85 =>
      Br v85 (
        Vb (lda 4 a5 h15) fun v87 =>
        S.C I.f_heap_Heap_Pop [v87, v29] h15 fun v89 h16 =>
        Vb (ext 0 v89) fun v90 =>
        Vb (ext 1 v89) fun v91 =>
        Vb (ext 2 v89) fun v92 =>
        Vb (lda 4 b6 h16) fun v94 =>
        S.C I.f_heap_Heap_Pop [v94, v29] h16 fun v96 h17 =>
        Vb (ext 0 v96) fun v97 =>
        Vb (ext 1 v96) fun v98 =>
        Vb (ext 2 v96) fun v99 =>
        Jn1 (fun v110 h18 =>
            Br v110 (
              R (Value.bool false) h18) (
              Vb (bin .add v84 (Value.int IntKind.i64 1)) fun v111 =>
              again1 v111 h18)) fun J1 =>
        Vb (bin .neq v92 (Value.int IntKind.i64 0)) fun v101 =>
        Br v101 (
          J1 (Value.bool true) h17) (
          Vb (bin .neq v99 (Value.int IntKind.i64 0)) fun v104 =>
          Br v104 (
            J1 (Value.bool true) h17) (
            Vb (bin .neq v90 v97) fun v109 =>
            J1 v109 h17))) (
        Jn1 (fun v4 h19 =>
            R v4 h19) fun J2 =>
        Vb (lda 4 a5 h15) fun v112 =>
        S.C I.f_heap_Heap_Len [v112, v29] h15 fun v114 h20 =>
        Vb (bin .eql v114 (Value.int IntKind.i64 0)) fun v115 =>
        Br v115 (
          Vb (lda 4 b6 h20) fun v117 =>
          S.C I.f_heap_Heap_Len [v117, v29] h20 fun v119 h21 =>
          Vb (bin .eql v119 (Value.int IntKind.i64 0)) fun v120 =>
          Br v120 (
            Vb (fa 0 a5) fun v123 =>
            Vb (lda 3 v123 h21) fun v124 =>
            S.C I.f_pool_Pool_Left [v124, v29] h21 fun v126 h22 =>
            Vb (bin .eql v126 (Value.int IntKind.i64 40)) fun v127 =>
            Br v127 (
              S.C I.f_space_Space_Ended [v29] h22 fun v131 h23 =>
              Vb (uno .not v131) fun v132 =>
              Br v132 (
                S.C I.f_simulcastlaw38_awake [] h23 fun v135 h24 =>
                J2 v135 h24) (
                J2 (Value.bool false) h23)) (
              J2 (Value.bool false) h22)) (
            J2 (Value.bool false) h21)) (
          J2 (Value.bool false) h20))))

def F_simulcastlaw38_great (S : Sys) (I : Ids) (l0 : Value) (h : Hp) (R : Value → Hp → Prop) : Prop :=
  Vb (lnS l0) fun v4 =>
  Vb (bin .gtr v4 (Value.int IntKind.i64 50)) fun v5 =>
  R v5 h

def F_simulcastlaw38_awake (S : Sys) (I : Ids) (h : Hp) (R : Value → Hp → Prop) : Prop :=
  Vb (bldS [(0, 1), (1, 1), (2, 1), (3, 1)] #[Value.int IntKind.u8 0, Value.int IntKind.u8 0, Value.int IntKind.i64 0, Value.int IntKind.i64 0] [(2, (Value.int IntKind.i64 5)), (3, (Value.int IntKind.i64 50))]) fun v8 =>
  Vb (bldS [(0, 1), (1, 1), (2, 1), (3, 1)] #[Value.int IntKind.u8 0, Value.int IntKind.u8 0, Value.int IntKind.i64 0, Value.int IntKind.i64 0] [(2, (Value.int IntKind.i64 3)), (3, (Value.int IntKind.i64 30))]) fun v9 =>
  Vb (bldS [(0, 1), (1, 1), (2, 1), (3, 1)] #[Value.int IntKind.u8 0, Value.int IntKind.u8 0, Value.int IntKind.i64 0, Value.int IntKind.i64 0] [(2, (Value.int IntKind.i64 5)), (3, (Value.int IntKind.i64 51))]) fun v10 =>
  Vb (bldS [(0, 1), (1, 1), (2, 1), (3, 1)] #[Value.int IntKind.u8 0, Value.int IntKind.u8 0, Value.int IntKind.i64 0, Value.int IntKind.i64 0] [(0, (Value.int IntKind.u8 4)), (1, (Value.int IntKind.u8 2)), (2, (Value.int IntKind.i64 1))]) fun v11 =>
  Eb (bsl #[Value.int IntKind.u8 0, Value.int IntKind.u8 0, Value.int IntKind.i64 0, Value.int IntKind.i64 0] 4 4 I.t_simulcastlaw38_Call [(0, v8), (1, v9), (2, v10), (3, v11)] h) fun v12 h1 =>
  S.C I.f_simulcastlaw38_played [(Value.int IntKind.u8 20), v12] h1 fun v13 h2 =>
  Vb (ext 0 v13) fun v14 =>
  Vb (ext 1 v13) fun v15 =>
  Eb (nw #[Value.map none, Value.int IntKind.i64 0, Value.int IntKind.i64 0, Value.int IntKind.i64 0, Value.int IntKind.i64 0, Value.slice none 0 0, Value.slice none 0 0] I.t_simulcastlaw38_state h2) fun x1 h3 =>
  Sb (sto 7 x1 v14 h3) fun h4 =>
  Vb (uno .not v15) fun v17 =>
  Br v17 (
    R (Value.bool false) h4) (
    Eb (nw #[Value.slice none 0 0] I.t_s_int64 h4) fun got3 h5 =>
    Lp1 (Value.int IntKind.i64 0) h5 fun v18 h6 again0 =>
    Vb (bin .lss v18 (Value.int IntKind.i64 3)) fun v19 =>
    Br v19 (
      Vb (fa 0 x1) fun v21 =>
      Vb (ldc v21 h6) fun v22 =>
      Vb (some (.func (.func I.f_simulcastlaw38_awake_1) #[] #[x1, got3])) fun v23 =>
      S.C I.f_simulcastlaw33_World_Done [v22, v23] h6 fun v24 h7 =>
      Vb (ext 0 v24) fun v25 =>
      Vb (ext 1 v24) fun v26 =>
      Vb (ext 2 v24) fun v27 =>
      Vb (uno .not v27) fun v29 =>
      Br v29 (
        R (Value.bool false) h7) (
        Vb (fa 0 x1) fun v31 =>
        Sb (sto 1 v31 v25 h7) fun h8 =>
        Vb (bin .add v18 (Value.int IntKind.i64 1)) fun v32 =>
        again0 v32 h8)) (
      Jn1 (fun v0 h9 =>
          R v0 h9) fun J0 =>
      Vb (ldc got3 h6) fun v33 =>
      Eb (bsl #[Value.int IntKind.i64 0] 1 6 I.t_int64 [(0, (Value.int IntKind.i64 1)), (1, (Value.int IntKind.i64 51)), (2, (Value.int IntKind.i64 3)), (3, (Value.int IntKind.i64 30)), (4, (Value.int IntKind.i64 5)), (5, (Value.int IntKind.i64 50))] h6) fun v34 h10 =>
      S.C I.f_slices_Equal_int64_int64 [v33, v34] h10 fun v35 h11 =>
      Br v35 (
        Vb (fa 0 x1) fun v37 =>
        Vb (ldc v37 h11) fun v38 =>
        Vb (lkm (.int .i64) (Value.agg #[Value.int IntKind.i64 0, Value.int IntKind.u32 0, Value.int IntKind.u32 0]) false v38 (Value.int IntKind.i64 16) h11) fun v39 =>
        Vb (fdc 0 v39) fun v40 =>
        Vb (bin .eql v40 (Value.int IntKind.i64 0)) fun v41 =>
        Br v41 (
          Vb (fa 0 x1) fun v44 =>
          Vb (ldc v44 h11) fun v45 =>
          Vb (lkm (.int .i64) (Value.agg #[Value.int IntKind.i64 0, Value.int IntKind.u32 0, Value.int IntKind.u32 0]) false v45 (Value.int IntKind.i64 23) h11) fun v46 =>
          Vb (fdc 0 v46) fun v47 =>
          Vb (bin .eql v47 (Value.int IntKind.i64 0)) fun v48 =>
          J0 v48 h11) (
          J0 (Value.bool false) h11)) (
        J0 (Value.bool false) h11)))

def F_simulcastlaw38_played (S : Sys) (I : Ids) (n0 l1 : Value) (h : Hp) (R : Value → Hp → Prop) : Prop :=
  Eb (nw #[Value.map none, Value.int IntKind.i64 0, Value.int IntKind.i64 0, Value.int IntKind.i64 0, Value.int IntKind.i64 0, Value.slice none 0 0, Value.slice none 0 0] I.t_simulcastlaw38_state h) fun v4 h1 =>
  S.C I.f_simulcastlaw33_Fresh [(Value.int IntKind.i64 384)] h1 fun v11 h2 =>
  S.C I.f_simulcastlaw38_made [n0] h2 fun v13 h3 =>
  Vb (bldS [(0, 1), (1, 4), (5, 1), (6, 1)] #[Value.map none, Value.int IntKind.i64 0, Value.int IntKind.i64 0, Value.int IntKind.i64 0, Value.int IntKind.i64 0, Value.slice none 0 0, Value.slice none 0 0] [(0, v11), (1, v13)]) fun v14 =>
  Eb (nw #[Value.map none, Value.int IntKind.i64 0, Value.int IntKind.i64 0, Value.int IntKind.i64 0, Value.int IntKind.i64 0, Value.slice none 0 0, Value.slice none 0 0] I.t_simulcastlaw38_state h3) fun x6 h4 =>
  Sb (sto 7 x6 v14 h4) fun h5 =>
  Vb (lnS l1) fun v16 =>
  Lp1 (Value.int IntKind.i64 0) h5 fun v17 h6 again0 =>
  Vb (bin .lss v17 v16) fun v18 =>
  Br v18 (
    Vb (ixs 4 l1 v17) fun v19 =>
    Vb (lda 4 v19 h6) fun v20 =>
    Eb (nw #[Value.int IntKind.u8 0, Value.int IntKind.u8 0, Value.int IntKind.i64 0, Value.int IntKind.i64 0] I.t_simulcastlaw38_Call h6) fun c8 h7 =>
    Sb (sto 4 c8 v20 h7) fun h8 =>
    Vb (lda 7 x6 h8) fun v22 =>
    Vb (lda 4 c8 h8) fun v23 =>
    S.C I.f_simulcastlaw38_step [v22, v23] h8 fun v24 h9 =>
    Vb (ext 0 v24) fun v25 =>
    Vb (ext 1 v24) fun v26 =>
    Eb (nw #[Value.map none, Value.int IntKind.i64 0, Value.int IntKind.i64 0, Value.int IntKind.i64 0, Value.int IntKind.i64 0, Value.slice none 0 0, Value.slice none 0 0] I.t_simulcastlaw38_state h9) fun next9 h10 =>
    Sb (sto 7 next9 v25 h10) fun h11 =>
    Jn1 (fun v33 h12 =>
        Br v33 (
          Vb (lda 7 x6 h12) fun v34 =>
          Sb (sto 7 v4 v34 h12) fun h13 =>
          Vb (lda 7 v4 h13) fun r0 =>
          R (.tuple #[r0, (Value.bool false)]) h13) (
          Vb (lda 7 next9 h12) fun v35 =>
          Sb (sto 7 x6 v35 h12) fun h14 =>
          Vb (bin .add v17 (Value.int IntKind.i64 1)) fun v36 =>
          again0 v36 h14)) fun J0 =>
    Vb (uno .not v26) fun v28 =>
    Br v28 (
      J0 (Value.bool true) h11) (
      Vb (lda 7 next9 h11) fun v30 =>
      S.C I.f_simulcastlaw38_is [v30] h11 fun v31 h15 =>
      Vb (uno .not v31) fun v32 =>
      J0 v32 h15)) (
    Vb (lda 7 x6 h6) fun v37 =>
    Sb (sto 7 v4 v37 h6) fun h16 =>
    Vb (lda 7 v4 h16) fun r0 =>
    R (.tuple #[r0, (Value.bool true)]) h16)

def F_simulcastlaw33_World_Done (S : Sys) (I : Ids) (w0 do1 : Value) (h : Hp) (R : Value → Hp → Prop) : Prop :=
  S.C I.f_space_New [w0] h fun v20 h1 =>
  Cv S.C S.Y do1 [v20] h1 fun v23 h2 =>
  S.C I.f_space_Space_Entries [v20] h2 fun v26 h3 =>
  Vb (ext 0 v26) fun v27 =>
  Vb (ext 1 v26) fun v28 =>
  Eb (mmk h3) fun v29 h4 =>
  Eb (rng w0 h4) fun v31 h5 =>
  Lp0 h5 fun h6 again0 =>
  Nx v31 h6 fun v32 h7 =>
  Vb (ext 0 v32) fun v33 =>
  Br v33 (
    Vb (ent v31 h7) fun v34 =>
    Vb (ext 0 v34) fun v35 =>
    Vb (ext 1 v34) fun v36 =>
    Eb (nw #[Value.int IntKind.i64 0, Value.int IntKind.u32 0, Value.int IntKind.u32 0] I.t_api_Word h7) fun x12 h8 =>
    Sb (sto 3 x12 v36 h8) fun h9 =>
    Vb (lda 3 x12 h9) fun v39 =>
    Sb (mup (.int .i64) v29 v35 v39 h9) fun h10 =>
    again0 h10) (
    Vb (lnS v27) fun v41 =>
    Lp1 (Value.int IntKind.i64 0) h7 fun v42 h11 again1 =>
    Vb (bin .lss v42 v41) fun v43 =>
    Br v43 (
      Jn0 (fun h12 =>
          Vb (bin .add v42 (Value.int IntKind.i64 1)) fun v77 =>
          again1 v77 h12) fun J0 =>
      Vb (ixs 6 v27 v42) fun v44 =>
      Vb (lda 6 v44 h11) fun v45 =>
      Eb (nw #[Value.int IntKind.i64 0, Value.int IntKind.i64 0, Value.int IntKind.u32 0, Value.int IntKind.u32 0, Value.int IntKind.i64 0, Value.bool false] I.t_api_Entry h11) fun x14 h13 =>
      Sb (sto 6 x14 v45 h13) fun h14 =>
      Vb (fa 0 x14) fun v48 =>
      Vb (ldc v48 h14) fun v49 =>
      Vb (lkm (.int .i64) (Value.agg #[Value.int IntKind.i64 0, Value.int IntKind.u32 0, Value.int IntKind.u32 0]) true v29 v49 h14) fun v50 =>
      Vb (ext 0 v50) fun v51 =>
      Vb (ext 1 v50) fun v52 =>
      Eb (nw #[Value.int IntKind.i64 0, Value.int IntKind.u32 0, Value.int IntKind.u32 0] I.t_api_Word h14) fun v15 h15 =>
      Sb (sto 3 v15 v51 h15) fun h16 =>
      Jn1 (fun v63 h17 =>
          Br v63 (
            R (.tuple #[w0, (Value.slice none 0 0), (Value.bool false)]) h17) (
            Vb (fa 5 x14) fun v65 =>
            Vb (ldc v65 h17) fun v66 =>
            Br v66 (
              Vb (fa 0 x14) fun v68 =>
              Vb (ldc v68 h17) fun v69 =>
              Vb (fa 4 x14) fun v70 =>
              Vb (ldc v70 h17) fun v71 =>
              Vb (fa 1 x14) fun v72 =>
              Vb (fa 1 v72) fun v73 =>
              Vb (ldc v73 h17) fun v74 =>
              Vb (bin .add v74 (Value.int IntKind.u32 1)) fun v75 =>
              Vb (bldS [(0, 1), (1, 1), (2, 1)] #[Value.int IntKind.i64 0, Value.int IntKind.u32 0, Value.int IntKind.u32 0] [(0, v71), (1, v75)]) fun v76 =>
              Sb (mup (.int .i64) v29 v69 v76 h17) fun h18 =>
              J0 h18) (
              J0 h17))) fun J1 =>
      Vb (uno .not v52) fun v54 =>
      Br v54 (
        J1 (Value.bool true) h16) (
        Vb (fa 1 x14) fun v56 =>
        Vb (lda 3 v56 h16) fun v57 =>
        Vb (fa 0 x14) fun v59 =>
        Vb (ldc v59 h16) fun v60 =>
        Vb (lkm (.int .i64) (Value.agg #[Value.int IntKind.i64 0, Value.int IntKind.u32 0, Value.int IntKind.u32 0]) false w0 v60 h16) fun v61 =>
        Vb (neg? (eqA [true, true, true] v57 v61)) fun v62 =>
        J1 v62 h16)) (
      Jn0 (fun h19 =>
          Jn3 (fun v4 v5 v6 h20 =>
              R (.tuple #[v4, v5, v6]) h20) fun J3 =>
          Vb (bin .eql v28 (Value.int IntKind.i64 0)) fun v102 =>
          Br v102 (
            S.C I.f_space_Space_Ended [v20] h19 fun v109 h21 =>
            Vb (uno .not v109) fun v110 =>
            J3 v29 v27 v110 h21) (
            Vb (bin .eql v28 (Value.int IntKind.i64 15)) fun v105 =>
            Br v105 (
              S.C I.f_space_Space_Ended [v20] h19 fun v109_1 h22 =>
              Vb (uno .not v109_1) fun v110_1 =>
              J3 v29 v27 v110_1 h22) (
              J3 v29 v27 (Value.bool false) h19))) fun J2 =>
      Vb (bin .eql v28 (Value.int IntKind.i64 15)) fun v79 =>
      Br v79 (
        S.C I.f_space_Space_Writes [v20] h11 fun v81 h23 =>
        Vb (lnS v81) fun v82 =>
        Lp1 (Value.int IntKind.i64 0) h23 fun v83 h24 again2 =>
        Vb (bin .lss v83 v82) fun v84 =>
        Br v84 (
          Vb (ixs 1 v81 v83) fun v85 =>
          Vb (ldc v85 h24) fun v86 =>
          Vb (lkm (.int .i64) (Value.agg #[Value.int IntKind.i64 0, Value.int IntKind.u32 0, Value.int IntKind.u32 0]) false w0 v86 h24) fun v94 =>
          Vb (fdc 1 v94) fun v95 =>
          Vb (bin .add v95 (Value.int IntKind.u32 1)) fun v96 =>
          S.C I.f_space_Space_Get [v20, v86] h24 fun v91 h25 =>
          lkm (.int .i64) (Value.agg #[Value.int IntKind.i64 0, Value.int IntKind.u32 0, Value.int IntKind.u32 0]) false w0 v86 h25 = some v94 ∧
          Vb (bldS [(0, 1), (1, 1), (2, 1)] #[Value.int IntKind.i64 0, Value.int IntKind.u32 0, Value.int IntKind.u32 0] [(0, v91), (1, v96)]) fun v97 =>
          Sb (mup (.int .i64) v29 v86 v97 h25) fun h26 =>
          Vb (bin .add v83 (Value.int IntKind.i64 1)) fun v98 =>
          again2 v98 h26) (
          J2 h24)) (
        J2 h11)))

def F_simulcastlaw38_HeapSorts_1 (S : Sys) (I : Ids) (s0 v1 v2 : Value) (h : Hp) (R : Value → Hp → Prop) : Prop :=
  Vb (fa 1 v1) fun v5 =>
  Vb (lda 4 v5 h) fun v6 =>
  S.C I.f_heap_Heap_Walk [v6, s0] h fun v8 h1 =>
  Vb (ext 0 v8) fun v9 =>
  Vb (ext 1 v8) fun v10 =>
  Sb (sto 1 v2 v9 h1) fun h2 =>
  R (.tuple #[]) h2

def F_heap_Heap_Walk (S : Sys) (I : Ids) (x0 s1 : Value) (h : Hp) (R : Value → Hp → Prop) : Prop :=
  Eb (nw (Value.cells x0) I.t_heap_Heap h) fun x2 h1 =>
  Vb (lda 4 x2 h1) fun v14 =>
  Vb (bldS [(0, 4), (4, 1), (5, 1)] #[Value.int IntKind.i64 0, Value.int IntKind.i64 0, Value.int IntKind.i64 0, Value.int IntKind.i64 0, Value.pointer none, Value.bool false] [(0, v14), (1, s1)]) fun v16 =>
  Eb (nw (Value.cells v16) I.t_heap_work h1) fun v17 h2 =>
  Eb (nw #[Value.pointer none] I.t_p_heap_work h2) fun w6 h3 =>
  Sb (sto 1 w6 v17 h3) fun h4 =>
  Vb (ldc w6 h4) fun v19 =>
  S.C I.f_heap_work_many [v19] h4 fun v20 h5 =>
  Vb (ext 0 v20) fun v21 =>
  Vb (ext 1 v20) fun v22 =>
  Vb (uno .not v22) fun v24 =>
  Br v24 (
    R (.tuple #[(Value.slice none 0 0), (Value.int IntKind.i64 24)]) h5) (
    Lp2 (Value.slice none 0 0) (Value.int IntKind.i64 1) h5 fun items9 at10 h6 again0 =>
    Jn1 (fun v34 h7 =>
        Br v34 (
          Vb (ldc w6 h7) fun v38 =>
          S.C I.f_heap_work_item [v38, at10] h7 fun v40 h8 =>
          Eb (bsl #[Value.int IntKind.i64 0] 1 1 I.t_api_Loc [(0, v40)] h8) fun v41 h9 =>
          Ap I.t_api_Loc #[Value.int IntKind.i64 0] 1 8 items9 v41 h9 fun v42 h10 =>
          Vb (bin .add at10 (Value.int IntKind.i64 1)) fun v36 =>
          again0 v42 v36 h10) (
          Vb (ldc w6 h7) fun v43 =>
          Vb (nck v43) fun v44 =>
          Vb (fa 5 v44) fun v45 =>
          Vb (ldc v45 h7) fun v46 =>
          Br v46 (
            R (.tuple #[(Value.slice none 0 0), (Value.int IntKind.i64 24)]) h7) (
            Vb (some (.func (.func I.f_heap_Heap_Walk_1) #[] #[w6])) fun v48 =>
            S.C I.f_slices_SortStableFunc_api_Loc_api_Loc [items9, v48] h7 fun v49 h11 =>
            Vb (lnS items9) fun v51 =>
            Lp2 (Value.slice none 0 0) (Value.int IntKind.i64 0) h11 fun out11 v52 h12 again1 =>
            Vb (bin .lss v52 v51) fun v53 =>
            Br v53 (
              Vb (ixs 1 items9 v52) fun v54 =>
              Vb (ldc v54 h12) fun v55 =>
              Vb (ldc w6 h12) fun v57 =>
              Vb (ldc w6 h12) fun v60 =>
              S.C I.f_heap_work_get [v57, v55, (Value.int IntKind.i64 0)] h12 fun v59 h13 =>
              ldc w6 h13 = some v60 ∧
              S.C I.f_heap_work_get [v60, v55, (Value.int IntKind.i64 1)] h13 fun v62 h14 =>
              Vb (bldA 1 #[Value.int IntKind.i64 0, Value.int IntKind.i64 0] [(0, v59), (1, v62)]) fun v63 =>
              Eb (bsl #[Value.int IntKind.i64 0, Value.int IntKind.i64 0] 2 1 I.t_2_int64 [(0, v63)] h14) fun v64 h15 =>
              Ap I.t_2_int64 #[Value.int IntKind.i64 0, Value.int IntKind.i64 0] 2 16 out11 v64 h15 fun v65 h16 =>
              Vb (bin .add v52 (Value.int IntKind.i64 1)) fun v66 =>
              again1 v65 v66 h16) (
              R (.tuple #[out11, (Value.int IntKind.i64 0)]) h12)))) fun J0 =>
    Vb (bin .leq at10 v21) fun v27 =>
    Br v27 (
      Vb (ldc w6 h6) fun v29 =>
      Vb (nck v29) fun v30 =>
      Vb (fa 5 v30) fun v31 =>
      Vb (ldc v31 h6) fun v32 =>
      Vb (uno .not v32) fun v33 =>
      J0 v33 h6) (
      J0 (Value.bool false) h6))

def F_simulcastlaw38_HeapSorts_2 (S : Sys) (I : Ids) (s0 v1 v2 v3 v4 : Value) (h : Hp) (R : Value → Hp → Prop) : Prop :=
  Vb (fa 1 v1) fun v7 =>
  Vb (lda 4 v7 h) fun v8 =>
  Vb (ixa 2 1 v2 (Value.int IntKind.i64 0)) fun v10 =>
  Vb (ldc v10 h) fun v11 =>
  Vb (cvi .i64 v11) fun v12 =>
  Vb (ldc v3 h) fun v13 =>
  S.C I.f_heap_Heap_Push [v8, s0, v12, v13] h fun v14 h1 =>
  Vb (ext 0 v14) fun v15 =>
  Vb (ext 1 v14) fun v16 =>
  Sb (sto 1 v4 v16 h1) fun h2 =>
  R (.tuple #[]) h2

def F_heap_Heap_Push (S : Sys) (I : Ids) (x0 s1 priority2 v3 : Value) (h : Hp) (R : Value → Hp → Prop) : Prop :=
  Eb (nw (Value.cells x0) I.t_heap_Heap h) fun x4 h1 =>
  Eb (nw #[Value.int IntKind.i64 0] I.t_int64 h1) fun handle8 h2 =>
  Eb (nw #[Value.int IntKind.i64 0] I.t_api_Errno h2) fun e9 h3 =>
  Vb (lda 4 x4 h3) fun v16 =>
  Vb (bldS [(0, 4), (4, 1), (5, 1)] #[Value.int IntKind.i64 0, Value.int IntKind.i64 0, Value.int IntKind.i64 0, Value.int IntKind.i64 0, Value.pointer none, Value.bool false] [(0, v16), (1, s1)]) fun v18 =>
  Eb (nw (Value.cells v18) I.t_heap_work h3) fun v19 h4 =>
  S.C I.f_space_Space_Mark [s1] h4 fun v23 h5 =>
  S.C I.f_heap_work_many [v19] h5 fun v26 h6 =>
  Vb (ext 0 v26) fun v27 =>
  Vb (ext 1 v26) fun v28 =>
  Vb (bin .eql v27 (Value.int IntKind.i64 32)) fun v31 =>
  Br v31 (
    Sb (sto 1 handle8 (Value.int IntKind.i64 0) h6) fun h7 =>
    Sb (sto 1 e9 (Value.int IntKind.i64 9) h7) fun h8 =>
    S.D I.f_heap_work_end [v19, v23, e9] h8 fun h9 =>
    S.D I.f_heap_work_none [v19, handle8, e9] h9 fun h10 =>
    Vb (ldc handle8 h10) fun r0 =>
    Vb (ldc e9 h10) fun r1 =>
    R (.tuple #[r0, r1]) h10) (
    Vb (uno .not v28) fun v34 =>
    Br v34 (
      Sb (sto 1 handle8 (Value.int IntKind.i64 0) h6) fun h11 =>
      Sb (sto 1 e9 (Value.int IntKind.i64 24) h11) fun h12 =>
      S.D I.f_heap_work_end [v19, v23, e9] h12 fun h13 =>
      S.D I.f_heap_work_none [v19, handle8, e9] h13 fun h14 =>
      Vb (ldc handle8 h14) fun r0 =>
      Vb (ldc e9 h14) fun r1 =>
      R (.tuple #[r0, r1]) h14) (
      S.C I.f_heap_work_root [v19, (Value.int IntKind.i64 1)] h6 fun v37 h15 =>
      Vb (bin .geq v37 (Value.int IntKind.i64 4611686018427387904)) fun v38 =>
      Br v38 (
        Sb (sto 1 handle8 (Value.int IntKind.i64 0) h15) fun h16 =>
        Sb (sto 1 e9 (Value.int IntKind.i64 9) h16) fun h17 =>
        S.D I.f_heap_work_end [v19, v23, e9] h17 fun h18 =>
        S.D I.f_heap_work_none [v19, handle8, e9] h18 fun h19 =>
        Vb (ldc handle8 h19) fun r0 =>
        Vb (ldc e9 h19) fun r1 =>
        R (.tuple #[r0, r1]) h19) (
        S.C I.f_heap_work_take [v19] h15 fun v41 h20 =>
        Vb (ext 0 v41) fun v42 =>
        Vb (ext 1 v41) fun v43 =>
        Sb (sto 1 e9 v43 h20) fun h21 =>
        Vb (ldc e9 h21) fun v44 =>
        Vb (bin .neq v44 (Value.int IntKind.i64 0)) fun v45 =>
        Br v45 (
          Vb (ldc e9 h21) fun v46 =>
          Sb (sto 1 handle8 (Value.int IntKind.i64 0) h21) fun h22 =>
          Sb (sto 1 e9 v46 h22) fun h23 =>
          S.D I.f_heap_work_end [v19, v23, e9] h23 fun h24 =>
          S.D I.f_heap_work_none [v19, handle8, e9] h24 fun h25 =>
          Vb (ldc handle8 h25) fun r0 =>
          Vb (ldc e9 h25) fun r1 =>
          R (.tuple #[r0, r1]) h25) (
          Jn0 (fun h26 =>
              S.C I.f_heap_work_put [v19, v42, (Value.int IntKind.i64 0), priority2] h26 fun v73 h27 =>
              S.C I.f_heap_work_put [v19, v42, (Value.int IntKind.i64 1), v3] h27 fun v77 h28 =>
              S.C I.f_heap_work_root [v19, (Value.int IntKind.i64 1)] h28 fun v81 h29 =>
              S.C I.f_heap_work_put [v19, v42, (Value.int IntKind.i64 2), v81] h29 fun v82 h30 =>
              S.C I.f_heap_work_add [v19, (Value.int IntKind.i64 1), (Value.int IntKind.i64 1)] h30 fun v84 h31 =>
              S.C I.f_heap_work_add [v19, (Value.int IntKind.i64 0), (Value.int IntKind.i64 1)] h31 fun v86 h32 =>
              Vb (bin .add v27 (Value.int IntKind.i64 1)) fun v89 =>
              S.C I.f_heap_work_rise [v19, v89, v42] h32 fun v91 h33 =>
              Sb (sto 1 handle8 v42 h33) fun h34 =>
              Sb (sto 1 e9 (Value.int IntKind.i64 0) h34) fun h35 =>
              S.D I.f_heap_work_end [v19, v23, e9] h35 fun h36 =>
              S.D I.f_heap_work_none [v19, handle8, e9] h36 fun h37 =>
              Vb (ldc handle8 h37) fun r0 =>
              Vb (ldc e9 h37) fun r1 =>
              R (.tuple #[r0, r1]) h37) fun J0 =>
          Vb (bin .rem v27 (Value.int IntKind.i64 8)) fun v48 =>
          Vb (bin .eql v48 (Value.int IntKind.i64 0)) fun v49 =>
          Br v49 (
            S.C I.f_heap_work_take [v19] h21 fun v52 h38 =>
            Vb (ext 0 v52) fun v53 =>
            Vb (ext 1 v52) fun v54 =>
            Vb (bin .neq v54 (Value.int IntKind.i64 0)) fun v56 =>
            Br v56 (
              Sb (sto 1 handle8 (Value.int IntKind.i64 0) h38) fun h39 =>
              Sb (sto 1 e9 v54 h39) fun h40 =>
              S.D I.f_heap_work_end [v19, v23, e9] h40 fun h41 =>
              S.D I.f_heap_work_none [v19, handle8, e9] h41 fun h42 =>
              Vb (ldc handle8 h42) fun r0 =>
              Vb (ldc e9 h42) fun r1 =>
              R (.tuple #[r0, r1]) h42) (
              Vb (nck v19) fun v60 =>
              Vb (fa 0 v60) fun v61 =>
              Vb (fa 3 v61) fun v62 =>
              Vb (ldc v62 h38) fun v63 =>
              Vb (bin .quo v27 (Value.int IntKind.i64 8)) fun v65 =>
              Vb (bin .add (Value.int IntKind.i64 3) v65) fun v66 =>
              Vb (bin .add v63 v66) fun v67 =>
              S.C I.f_space_Space_Put [s1, v67, v53] h38 fun v69 h43 =>
              J0 h43)) (
            J0 h21)))))

def F_simulcastlaw38_HeapSorts_3 (S : Sys) (I : Ids) (s0 v1 v2 v3 v4 : Value) (h : Hp) (R : Value → Hp → Prop) : Prop :=
  Vb (fa 1 v1) fun v7 =>
  Vb (lda 4 v7 h) fun v8 =>
  S.C I.f_heap_Heap_Pop [v8, s0] h fun v10 h1 =>
  Vb (ext 0 v10) fun v11 =>
  Vb (ext 1 v10) fun v12 =>
  Vb (ext 2 v10) fun v13 =>
  Sb (sto 1 v2 v11 h1) fun h2 =>
  Sb (sto 1 v3 v12 h2) fun h3 =>
  Sb (sto 1 v4 v13 h3) fun h4 =>
  R (.tuple #[]) h4

def F_heap_Heap_Pop (S : Sys) (I : Ids) (x0 s1 : Value) (h : Hp) (R : Value → Hp → Prop) : Prop :=
  Eb (nw (Value.cells x0) I.t_heap_Heap h) fun x2 h1 =>
  Eb (nw #[Value.int IntKind.i64 0] I.t_api_Errno h1) fun e6 h2 =>
  Vb (lda 4 x2 h2) fun v10 =>
  Vb (bldS [(0, 4), (4, 1), (5, 1)] #[Value.int IntKind.i64 0, Value.int IntKind.i64 0, Value.int IntKind.i64 0, Value.int IntKind.i64 0, Value.pointer none, Value.bool false] [(0, v10), (1, s1)]) fun v12 =>
  Eb (nw (Value.cells v12) I.t_heap_work h2) fun v13 h3 =>
  S.C I.f_space_Space_Mark [s1] h3 fun v16 h4 =>
  S.C I.f_heap_work_many [v13] h4 fun v19 h5 =>
  Vb (ext 0 v19) fun v20 =>
  Vb (ext 1 v19) fun v21 =>
  Vb (bin .eql v20 (Value.int IntKind.i64 0)) fun v24 =>
  Br v24 (
    Sb (sto 1 e6 (Value.int IntKind.i64 8) h5) fun h6 =>
    S.D I.f_heap_work_end [v13, v16, e6] h6 fun h7 =>
    Vb (ldc e6 h7) fun r2 =>
    R (.tuple #[(Value.int IntKind.i64 0), (Value.int IntKind.i64 0), r2]) h7) (
    Vb (uno .not v21) fun v27 =>
    Br v27 (
      Sb (sto 1 e6 (Value.int IntKind.i64 24) h5) fun h8 =>
      S.D I.f_heap_work_end [v13, v16, e6] h8 fun h9 =>
      Vb (ldc e6 h9) fun r2 =>
      R (.tuple #[(Value.int IntKind.i64 0), (Value.int IntKind.i64 0), r2]) h9) (
      S.C I.f_heap_work_remove [v13, (Value.int IntKind.i64 1), v20] h5 fun v30 h10 =>
      Vb (ext 0 v30) fun v31 =>
      Vb (ext 1 v30) fun v32 =>
      Vb (ext 2 v30) fun v33 =>
      Sb (sto 1 e6 v33 h10) fun h11 =>
      S.D I.f_heap_work_end [v13, v16, e6] h11 fun h12 =>
      Vb (ldc e6 h12) fun r2 =>
      R (.tuple #[v31, v32, r2]) h12))

def F_simulcastlaw38_odd (S : Sys) (I : Ids) (l0 : Value) (h : Hp) (R : Value → Hp → Prop) : Prop :=
  Vb (lnS l0) fun v6 =>
  Lp1 (Value.int IntKind.i64 0) h fun v7 h1 again0 =>
  Vb (bin .lss v7 v6) fun v8 =>
  Br v8 (
    Vb (ixs 4 l0 v7) fun v9 =>
    Vb (lda 4 v9 h1) fun v10 =>
    Eb (nw #[Value.int IntKind.u8 0, Value.int IntKind.u8 0, Value.int IntKind.i64 0, Value.int IntKind.i64 0] I.t_simulcastlaw38_Call h1) fun c4 h2 =>
    Sb (sto 4 c4 v10 h2) fun h3 =>
    Vb (fa 3 c4) fun v11 =>
    Vb (ldc v11 h3) fun v12 =>
    Vb (bin .geq v12 (Value.int IntKind.i64 1099511627776)) fun v13 =>
    Br v13 (
      R (Value.bool true) h3) (
      Vb (bin .add v7 (Value.int IntKind.i64 1)) fun v14 =>
      again0 v14 h3)) (
    R (Value.bool false) h1)

def F_simulcastlaw38_HeapStands_1 (S : Sys) (I : Ids) (i0 v1 : Value) (h : Hp) (R : Value → Hp → Prop) : Prop :=
  Eb (nw #[Value.int IntKind.i64 0, Value.int IntKind.i64 0] I.t_2_int64 h) fun v4 h1 =>
  Vb (fa 0 v1) fun v6 =>
  Vb (ldc v6 h1) fun v7 =>
  Vb (lda 7 v1 h1) fun v8 =>
  S.C I.f_simulcastlaw38_state_row [v8, i0] h1 fun v10 h2 =>
  ldc v6 h2 = some v7 ∧
  Vb (lkm (.int .i64) (Value.agg #[Value.int IntKind.i64 0, Value.int IntKind.u32 0, Value.int IntKind.u32 0]) false v7 v10 h2) fun v11 =>
  Vb (fdc 0 v11) fun v12 =>
  Vb (fa 0 v1) fun v14 =>
  Vb (ldc v14 h2) fun v15 =>
  Vb (lkm (.int .i64) (Value.agg #[Value.int IntKind.i64 0, Value.int IntKind.u32 0, Value.int IntKind.u32 0]) false v15 v12 h2) fun v17 =>
  Vb (fdc 0 v17) fun v18 =>
  Vb (fa 0 v1) fun v19 =>
  Vb (ldc v19 h2) fun v20 =>
  Vb (bin .add v12 (Value.int IntKind.i64 2)) fun v22 =>
  Vb (lkm (.int .i64) (Value.agg #[Value.int IntKind.i64 0, Value.int IntKind.u32 0, Value.int IntKind.u32 0]) false v20 v22 h2) fun v23 =>
  Vb (fdc 0 v23) fun v24 =>
  Vb (bldA 1 #[Value.int IntKind.i64 0, Value.int IntKind.i64 0] [(0, v18), (1, v24)]) fun v25 =>
  Sb (sto 2 v4 v25 h2) fun h3 =>
  Vb (lda 2 v4 h3) fun r1 =>
  R (.tuple #[v12, r1]) h3

def F_simulcastlaw38_state_row (S : Sys) (I : Ids) (x0 i1 : Value) (h : Hp) (R : Value → Hp → Prop) : Prop :=
  Eb (nw (Value.cells x0) I.t_simulcastlaw38_state h) fun x2 h1 =>
  Vb (fa 0 x2) fun v5 =>
  Vb (ldc v5 h1) fun v6 =>
  Vb (bin .sub i1 (Value.int IntKind.i64 1)) fun v8 =>
  Vb (bin .quo v8 (Value.int IntKind.i64 8)) fun v9 =>
  Vb (bin .add (Value.int IntKind.i64 19) v9) fun v10 =>
  Vb (lkm (.int .i64) (Value.agg #[Value.int IntKind.i64 0, Value.int IntKind.u32 0, Value.int IntKind.u32 0]) false v6 v10 h1) fun v11 =>
  Vb (fdc 0 v11) fun v12 =>
  Vb (bin .sub i1 (Value.int IntKind.i64 1)) fun v14 =>
  Vb (bin .rem v14 (Value.int IntKind.i64 8)) fun v15 =>
  Vb (bin .add v12 v15) fun v16 =>
  R v16 h1

def F_pool_Pool_Node (S : Sys) (I : Ids) (p0 at1 : Value) (h : Hp) (R : Value → Hp → Prop) : Prop :=
  Eb (nw (Value.cells p0) I.t_pool_Pool h) fun p2 h1 =>
  Jn1 (fun v23 h2 =>
      Br v23 (
        R (.tuple #[(Value.int IntKind.i64 0), (Value.bool false)]) h2) (
        Vb (fa 1 p2) fun v25 =>
        Vb (ldc v25 h2) fun v26 =>
        Vb (bin .sub at1 v26) fun v27 =>
        Vb (bin .quo v27 (Value.int IntKind.i64 8)) fun v28 =>
        Vb (fa 2 p2) fun v30 =>
        Vb (ldc v30 h2) fun v31 =>
        Vb (bin .geq v28 v31) fun v32 =>
        Br v32 (
          R (.tuple #[(Value.int IntKind.i64 0), (Value.bool false)]) h2) (
          R (.tuple #[v28, (Value.bool true)]) h2))) fun J0 =>
  Vb (lda 3 p2 h1) fun v7 =>
  S.C I.f_pool_Pool_Check [v7] h1 fun v8 h3 =>
  Vb (bin .neq v8 (Value.int IntKind.i64 0)) fun v9 =>
  Br v9 (
    J0 (Value.bool true) h3) (
    Vb (fa 1 p2) fun v12 =>
    Vb (ldc v12 h3) fun v13 =>
    Vb (bin .lss at1 v13) fun v14 =>
    Br v14 (
      J0 (Value.bool true) h3) (
      Vb (fa 1 p2) fun v18 =>
      Vb (ldc v18 h3) fun v19 =>
      Vb (bin .sub at1 v19) fun v20 =>
      Vb (bin .rem v20 (Value.int IntKind.i64 8)) fun v21 =>
      Vb (bin .neq v21 (Value.int IntKind.i64 0)) fun v22 =>
      J0 v22 h3))

def F_simulcastref38_Find (S : Sys) (I : Ids) (l0 by1 : Value) (h : Hp) (R : Value → Hp → Prop) : Prop :=
  Lp1 (Value.int IntKind.i64 0) h fun i5 h1 again0 =>
  Vb (lnS l0) fun v8 =>
  Vb (bin .lss i5 v8) fun v9 =>
  Br v9 (
    Vb (ixs 4 l0 i5) fun v14 =>
    Vb (fa 3 v14) fun v15 =>
    Vb (ldc v15 h1) fun v16 =>
    Vb (bin .eql v16 by1) fun v18 =>
    Br v18 (
      R i5 h1) (
      Vb (bin .add i5 (Value.int IntKind.i64 1)) fun v11 =>
      again0 v11 h1)) (
    R (Value.int IntKind.i64 (-1)) h1)

def F_simulcastlaw38_HeapHandles_1 (S : Sys) (I : Ids) (s0 v1 v2 v3 : Value) (h : Hp) (R : Value → Hp → Prop) : Prop :=
  Vb (fa 1 v1) fun v5 =>
  Vb (lda 4 v5 h) fun v6 =>
  Vb (ldc v2 h) fun v8 =>
  S.C I.f_heap_Heap_Lower [v6, s0, v8, (Value.int IntKind.i64 (-9223372036854775808))] h fun v9 h1 =>
  Sb (sto 1 v3 v9 h1) fun h2 =>
  R (.tuple #[]) h2

def F_heap_Heap_Lower (S : Sys) (I : Ids) (x0 s1 handle2 priority3 : Value) (h : Hp) (R : Value → Hp → Prop) : Prop :=
  Eb (nw (Value.cells x0) I.t_heap_Heap h) fun x4 h1 =>
  Eb (nw #[Value.int IntKind.i64 0] I.t_api_Errno h1) fun e8 h2 =>
  Vb (lda 4 x4 h2) fun v13 =>
  Vb (bldS [(0, 4), (4, 1), (5, 1)] #[Value.int IntKind.i64 0, Value.int IntKind.i64 0, Value.int IntKind.i64 0, Value.int IntKind.i64 0, Value.pointer none, Value.bool false] [(0, v13), (1, s1)]) fun v15 =>
  Eb (nw (Value.cells v15) I.t_heap_work h2) fun v16 h3 =>
  S.C I.f_space_Space_Mark [s1] h3 fun v19 h4 =>
  S.C I.f_heap_work_find [v16, handle2] h4 fun v23 h5 =>
  Vb (ext 0 v23) fun v24 =>
  Vb (ext 1 v23) fun v25 =>
  Vb (ext 2 v23) fun v26 =>
  Vb (ext 3 v23) fun v27 =>
  Sb (sto 1 e8 v27 h5) fun h6 =>
  Vb (ldc e8 h6) fun v29 =>
  Vb (bin .neq v29 (Value.int IntKind.i64 0)) fun v30 =>
  Br v30 (
    Vb (ldc e8 h6) fun v31 =>
    Sb (sto 1 e8 v31 h6) fun h7 =>
    S.D I.f_heap_work_end [v16, v19, e8] h7 fun h8 =>
    Vb (ldc e8 h8) fun r0 =>
    R r0 h8) (
    S.C I.f_heap_work_get [v16, v24, (Value.int IntKind.i64 0)] h6 fun v36 h9 =>
    Vb (bin .gtr priority3 v36) fun v37 =>
    Br v37 (
      Sb (sto 1 e8 (Value.int IntKind.i64 4) h9) fun h10 =>
      S.D I.f_heap_work_end [v16, v19, e8] h10 fun h11 =>
      Vb (ldc e8 h11) fun r0 =>
      R r0 h11) (
      S.C I.f_heap_work_put [v16, v24, (Value.int IntKind.i64 0), priority3] h9 fun v41 h12 =>
      S.C I.f_heap_work_rise [v16, v25, v24] h12 fun v45 h13 =>
      Sb (sto 1 e8 (Value.int IntKind.i64 0) h13) fun h14 =>
      S.D I.f_heap_work_end [v16, v19, e8] h14 fun h15 =>
      Vb (ldc e8 h15) fun r0 =>
      R r0 h15))

def F_simulcastlaw38_HeapHandles_2 (S : Sys) (I : Ids) (s0 v1 v2 v3 : Value) (h : Hp) (R : Value → Hp → Prop) : Prop :=
  Vb (fa 1 v1) fun v6 =>
  Vb (lda 4 v6 h) fun v7 =>
  Vb (ldc v2 h) fun v9 =>
  S.C I.f_heap_Heap_Drop [v7, s0, v9] h fun v10 h1 =>
  Vb (ext 0 v10) fun v11 =>
  Vb (ext 1 v10) fun v12 =>
  Sb (sto 1 v3 v12 h1) fun h2 =>
  R (.tuple #[]) h2

def F_heap_Heap_Drop (S : Sys) (I : Ids) (x0 s1 handle2 : Value) (h : Hp) (R : Value → Hp → Prop) : Prop :=
  Eb (nw (Value.cells x0) I.t_heap_Heap h) fun x3 h1 =>
  Eb (nw #[Value.int IntKind.i64 0] I.t_api_Errno h1) fun e7 h2 =>
  Vb (lda 4 x3 h2) fun v12 =>
  Vb (bldS [(0, 4), (4, 1), (5, 1)] #[Value.int IntKind.i64 0, Value.int IntKind.i64 0, Value.int IntKind.i64 0, Value.int IntKind.i64 0, Value.pointer none, Value.bool false] [(0, v12), (1, s1)]) fun v14 =>
  Eb (nw (Value.cells v14) I.t_heap_work h2) fun v15 h3 =>
  S.C I.f_space_Space_Mark [s1] h3 fun v18 h4 =>
  S.C I.f_heap_work_find [v15, handle2] h4 fun v22 h5 =>
  Vb (ext 0 v22) fun v23 =>
  Vb (ext 1 v22) fun v24 =>
  Vb (ext 2 v22) fun v25 =>
  Vb (ext 3 v22) fun v26 =>
  Sb (sto 1 e7 v26 h5) fun h6 =>
  Vb (ldc e7 h6) fun v27 =>
  Vb (bin .neq v27 (Value.int IntKind.i64 0)) fun v28 =>
  Br v28 (
    Vb (ldc e7 h6) fun v29 =>
    Sb (sto 1 e7 v29 h6) fun h7 =>
    S.D I.f_heap_work_end [v15, v18, e7] h7 fun h8 =>
    Vb (ldc e7 h8) fun r1 =>
    R (.tuple #[(Value.int IntKind.i64 0), r1]) h8) (
    S.C I.f_heap_work_remove [v15, v24, v25] h6 fun v34 h9 =>
    Vb (ext 0 v34) fun v35 =>
    Vb (ext 1 v34) fun v36 =>
    Vb (ext 2 v34) fun v37 =>
    Sb (sto 1 e7 v37 h9) fun h10 =>
    Vb (ldc e7 h10) fun v39 =>
    Sb (sto 1 e7 v39 h10) fun h11 =>
    S.D I.f_heap_work_end [v15, v18, e7] h11 fun h12 =>
    Vb (ldc e7 h12) fun r1 =>
    R (.tuple #[v36, r1]) h12)

def F_simulcastlaw33_Alike (S : Sys) (I : Ids) (a0 b1 : Value) (h : Hp) (R : Value → Hp → Prop) : Prop :=
  Vb (lnM a0 h) fun v8 =>
  Vb (lnM b1 h) fun v10 =>
  Vb (bin .neq v8 v10) fun v11 =>
  Br v11 (
    R (Value.bool false) h) (
    Eb (rng a0 h) fun v13 h1 =>
    Lp0 h1 fun h2 again0 =>
    Nx v13 h2 fun v14 h3 =>
    Vb (ext 0 v14) fun v15 =>
    Br v15 (
      Vb (ent v13 h3) fun v16 =>
      Vb (ext 0 v16) fun v17 =>
      Vb (ext 1 v16) fun v18 =>
      Eb (nw #[Value.int IntKind.i64 0, Value.int IntKind.u32 0, Value.int IntKind.u32 0] I.t_api_Word h3) fun x6 h4 =>
      Sb (sto 3 x6 v18 h4) fun h5 =>
      Vb (lkm (.int .i64) (Value.agg #[Value.int IntKind.i64 0, Value.int IntKind.u32 0, Value.int IntKind.u32 0]) false b1 v17 h5) fun v21 =>
      Vb (fdc 0 v21) fun v22 =>
      Vb (fa 0 x6) fun v23 =>
      Vb (ldc v23 h5) fun v24 =>
      Vb (bin .neq v22 v24) fun v25 =>
      Br v25 (
        R (Value.bool false) h5) (
        again0 h5)) (
      R (Value.bool true) h3))

def F_simulcastlaw38_step (S : Sys) (I : Ids) (x0 c1 : Value) (h : Hp) (R : Value → Hp → Prop) : Prop :=
  Eb (nw (Value.cells x0) I.t_simulcastlaw38_state h) fun x2 h1 =>
  Eb (nw (Value.cells c1) I.t_simulcastlaw38_Call h1) fun c3 h2 =>
  Eb (nw #[Value.map none, Value.int IntKind.i64 0, Value.int IntKind.i64 0, Value.int IntKind.i64 0, Value.int IntKind.i64 0, Value.slice none 0 0, Value.slice none 0 0] I.t_simulcastlaw38_state h2) fun v4 h3 =>
  Eb (nw #[Value.bool false] I.t_bool h3) fun ok6 h4 =>
  Sb (sto 1 ok6 (Value.bool true) h4) fun h5 =>
  Eb (nw #[Value.int IntKind.i64 0] I.t_int64 h5) fun by7 h6 =>
  Sb (sto 1 by7 (Value.int IntKind.i64 0) h6) fun h7 =>
  Jn0 (fun h8 =>
      Vb (fa 0 x2) fun v23 =>
      Vb (ldc v23 h8) fun v24 =>
      Vb (some (.func (.func I.f_simulcastlaw38_step_1) #[] #[c3, x2, ok6, by7])) fun v25 =>
      S.C I.f_simulcastlaw33_World_Done [v24, v25] h8 fun v26 h9 =>
      Vb (ext 0 v26) fun v27 =>
      Vb (ext 1 v26) fun v28 =>
      Vb (ext 2 v26) fun v29 =>
      Vb (fa 0 x2) fun v31 =>
      Sb (sto 1 v31 v27 h9) fun h10 =>
      Jn1 (fun v5 h11 =>
          Vb (lda 7 v4 h11) fun r0 =>
          R (.tuple #[r0, v5]) h11) fun J1 =>
      Vb (lda 7 x2 h10) fun v32 =>
      Vb (ldc ok6 h10) fun v33 =>
      Br v33 (
        Sb (sto 7 v4 v32 h10) fun h12 =>
        J1 v29 h12) (
        Sb (sto 7 v4 v32 h10) fun h13 =>
        J1 (Value.bool false) h13)) fun J0 =>
  Vb (fa 6 x2) fun v11 =>
  Vb (ldc v11 h7) fun v12 =>
  Vb (lnS v12) fun v13 =>
  Vb (bin .gtr v13 (Value.int IntKind.i64 0)) fun v14 =>
  Br v14 (
    Vb (fa 1 c3) fun v15 =>
    Vb (ldc v15 h7) fun v16 =>
    Vb (cvi .i64 v16) fun v17 =>
    Vb (fa 6 x2) fun v18 =>
    Vb (ldc v18 h7) fun v19 =>
    Vb (lnS v19) fun v20 =>
    Vb (bin .rem v17 v20) fun v21 =>
    Sb (sto 1 by7 v21 h7) fun h14 =>
    J0 h14) (
    J0 h7)

def F_simulcastlaw33_Fresh (S : Sys) (I : Ids) (n0 : Value) (h : Hp) (R : Value → Hp → Prop) : Prop :=
  Eb (mmk h) fun v5 h1 =>
  Lp1 (Value.int IntKind.i64 0) h1 fun v7 h2 again0 =>
  Vb (bin .lss v7 n0) fun v8 =>
  Br v8 (
    Vb (bldS [(0, 1), (1, 1), (2, 1)] #[Value.int IntKind.i64 0, Value.int IntKind.u32 0, Value.int IntKind.u32 0] []) fun v12 =>
    Sb (mup (.int .i64) v5 v7 v12 h2) fun h3 =>
    Vb (bin .add v7 (Value.int IntKind.i64 1)) fun v13 =>
    again0 v13 h3) (
    R v5 h2)

def F_simulcastlaw38_made (S : Sys) (I : Ids) (n0 : Value) (h : Hp) (R : Value → Hp → Prop) : Prop :=
  Eb (nw #[Value.int IntKind.i64 0, Value.int IntKind.i64 0, Value.int IntKind.i64 0, Value.int IntKind.i64 0] I.t_heap_Heap h) fun v2 h1 =>
  Vb (bin .rem n0 (Value.int IntKind.u8 41)) fun v4 =>
  Vb (cvi .i64 v4) fun v5 =>
  Vb (bldS [(0, 1), (1, 1), (2, 1)] #[Value.int IntKind.i64 0, Value.int IntKind.i64 0, Value.int IntKind.i64 0] [(0, (Value.int IntKind.i64 1)), (1, (Value.int IntKind.i64 64)), (2, v5)]) fun v6 =>
  Vb (bldS [(0, 3), (3, 1)] #[Value.int IntKind.i64 0, Value.int IntKind.i64 0, Value.int IntKind.i64 0, Value.int IntKind.i64 0] [(0, v6), (1, (Value.int IntKind.i64 16))]) fun v7 =>
  Sb (sto 4 v2 v7 h1) fun h2 =>
  Vb (lda 4 v2 h2) fun r0 =>
  R r0 h2

def F_simulcastlaw38_HeapBroken_1 (S : Sys) (I : Ids) (s0 v1 v2 v3 : Value) (h : Hp) (R : Value → Hp → Prop) : Prop :=
  Vb (fa 0 v1) fun v5 =>
  Vb (ldc v5 h) fun v6 =>
  Vb (bin .rem v6 (Value.int IntKind.u8 6)) fun v7 =>
  Vb (bin .eql v7 (Value.int IntKind.u8 3)) fun v19 =>
  Br v19 (
    Vb (lda 4 v2 h) fun v21 =>
    S.C I.f_heap_Heap_Pop [v21, s0] h fun v23 h1 =>
    Vb (ext 0 v23) fun v24 =>
    Vb (ext 1 v23) fun v25 =>
    Vb (ext 2 v23) fun v26 =>
    Sb (sto 1 v3 v26 h1) fun h2 =>
    R (.tuple #[]) h2) (
    Vb (bin .eql v7 (Value.int IntKind.u8 4)) fun v28 =>
    Br v28 (
      Vb (lda 4 v2 h) fun v29 =>
      Vb (fa 3 v1) fun v31 =>
      Vb (ldc v31 h) fun v32 =>
      Vb (fa 2 v1) fun v33 =>
      Vb (ldc v33 h) fun v34 =>
      S.C I.f_heap_Heap_Lower [v29, s0, v32, v34] h fun v35 h3 =>
      Sb (sto 1 v3 v35 h3) fun h4 =>
      R (.tuple #[]) h4) (
      Vb (bin .eql v7 (Value.int IntKind.u8 5)) fun v37 =>
      Br v37 (
        Vb (lda 4 v2 h) fun v39 =>
        Vb (fa 3 v1) fun v41 =>
        Vb (ldc v41 h) fun v42 =>
        S.C I.f_heap_Heap_Drop [v39, s0, v42] h fun v43 h5 =>
        Vb (ext 0 v43) fun v44 =>
        Vb (ext 1 v43) fun v45 =>
        Sb (sto 1 v3 v45 h5) fun h6 =>
        R (.tuple #[]) h6) (
        Vb (lda 4 v2 h) fun v9 =>
        Vb (fa 2 v1) fun v11 =>
        Vb (ldc v11 h) fun v12 =>
        Vb (fa 3 v1) fun v13 =>
        Vb (ldc v13 h) fun v14 =>
        S.C I.f_heap_Heap_Push [v9, s0, v12, v14] h fun v15 h7 =>
        Vb (ext 0 v15) fun v16 =>
        Vb (ext 1 v15) fun v17 =>
        Sb (sto 1 v3 v17 h7) fun h8 =>
        R (.tuple #[]) h8)))

def F_simulcastlaw38_HeapBroken_2 (S : Sys) (I : Ids) (s0 v1 v2 v3 v4 : Value) (h : Hp) (R : Value → Hp → Prop) : Prop :=
  Vb (lda 4 v1 h) fun v7 =>
  S.C I.f_heap_Heap_Walk [v7, s0] h fun v9 h1 =>
  Vb (ext 0 v9) fun v10 =>
  Vb (ext 1 v9) fun v11 =>
  Sb (sto 1 v2 v10 h1) fun h2 =>
  Sb (sto 1 v3 v11 h2) fun h3 =>
  Vb (lda 4 v1 h3) fun v13 =>
  S.C I.f_heap_Heap_Min [v13, s0] h3 fun v15 h4 =>
  Vb (ext 0 v15) fun v16 =>
  Vb (ext 1 v15) fun v17 =>
  Vb (ext 2 v15) fun v18 =>
  Sb (sto 1 v4 v18 h4) fun h5 =>
  R (.tuple #[]) h5

def F_heap_Heap_Min (S : Sys) (I : Ids) (x0 s1 : Value) (h : Hp) (R : Value → Hp → Prop) : Prop :=
  Eb (nw (Value.cells x0) I.t_heap_Heap h) fun x2 h1 =>
  Vb (lda 4 x2 h1) fun v13 =>
  Vb (bldS [(0, 4), (4, 1), (5, 1)] #[Value.int IntKind.i64 0, Value.int IntKind.i64 0, Value.int IntKind.i64 0, Value.int IntKind.i64 0, Value.pointer none, Value.bool false] [(0, v13), (1, s1)]) fun v15 =>
  Eb (nw (Value.cells v15) I.t_heap_work h1) fun v16 h2 =>
  S.C I.f_heap_work_many [v16] h2 fun v19 h3 =>
  Vb (ext 0 v19) fun v20 =>
  Vb (ext 1 v19) fun v21 =>
  Vb (bin .eql v20 (Value.int IntKind.i64 0)) fun v23 =>
  Br v23 (
    R (.tuple #[(Value.int IntKind.i64 0), (Value.int IntKind.i64 0), (Value.int IntKind.i64 8)]) h3) (
    Vb (uno .not v21) fun v25 =>
    Br v25 (
      R (.tuple #[(Value.int IntKind.i64 0), (Value.int IntKind.i64 0), (Value.int IntKind.i64 24)]) h3) (
      S.C I.f_heap_work_item [v16, (Value.int IntKind.i64 1)] h3 fun v27 h4 =>
      S.C I.f_heap_work_get [v16, v27, (Value.int IntKind.i64 0)] h4 fun v30 h5 =>
      S.C I.f_heap_work_get [v16, v27, (Value.int IntKind.i64 1)] h5 fun v33 h6 =>
      Vb (nck v16) fun v35 =>
      Vb (fa 5 v35) fun v36 =>
      Vb (ldc v36 h6) fun v37 =>
      Br v37 (
        R (.tuple #[(Value.int IntKind.i64 0), (Value.int IntKind.i64 0), (Value.int IntKind.i64 24)]) h6) (
        R (.tuple #[v30, v33, (Value.int IntKind.i64 0)]) h6)))

def F_space_New (S : Sys) (I : Ids) (known0 : Value) (h : Hp) (R : Value → Hp → Prop) : Prop :=
  Eb (mmk h) fun v6 h1 =>
  Eb (mmk h1) fun v7 h2 =>
  Vb (bldS [(0, 1), (1, 1), (2, 1), (3, 1), (4, 1)] #[Value.map none, Value.map none, Value.slice none 0 0, Value.int IntKind.i64 0, Value.bool false] [(0, v6), (1, v7)]) fun v8 =>
  Eb (nw (Value.cells v8) I.t_space_Space h2) fun v9 h3 =>
  Eb (rng known0 h3) fun v11 h4 =>
  Lp0 h4 fun h5 again0 =>
  Nx v11 h5 fun v12 h6 =>
  Vb (ext 0 v12) fun v13 =>
  Br v13 (
    Vb (ent v11 h6) fun v14 =>
    Vb (ext 0 v14) fun v15 =>
    Vb (ext 1 v14) fun v16 =>
    Eb (nw #[Value.int IntKind.i64 0, Value.int IntKind.u32 0, Value.int IntKind.u32 0] I.t_api_Word h6) fun w5 h7 =>
    Sb (sto 3 w5 v16 h7) fun h8 =>
    Vb (fa 2 w5) fun v17 =>
    Vb (ldc v17 h8) fun v18 =>
    Vb (bin .eql v18 (Value.int IntKind.u32 0)) fun v19 =>
    Br v19 (
      Vb (nck v9) fun v21 =>
      Vb (fa 0 v21) fun v22 =>
      Vb (ldc v22 h8) fun v23 =>
      Vb (lda 3 w5 h8) fun v25 =>
      Sb (mup (.int .i64) v23 v15 v25 h8) fun h9 =>
      again0 h9) (
      again0 h8)) (
    R v9 h6)

def F_heap_Heap_Len (S : Sys) (I : Ids) (x0 s1 : Value) (h : Hp) (R : Value → Hp → Prop) : Prop :=
  Eb (nw (Value.cells x0) I.t_heap_Heap h) fun x2 h1 =>
  Vb (fa 3 x2) fun v6 =>
  Vb (ldc v6 h1) fun v7 =>
  Vb (bin .add v7 (Value.int IntKind.i64 0)) fun v8 =>
  S.C I.f_space_Space_Get [s1, v8] h1 fun v9 h2 =>
  R v9 h2

def F_pool_Pool_Left (S : Sys) (I : Ids) (p0 s1 : Value) (h : Hp) (R : Value → Hp → Prop) : Prop :=
  Eb (nw (Value.cells p0) I.t_pool_Pool h) fun p2 h1 =>
  Vb (lda 3 p2 h1) fun v5 =>
  S.C I.f_pool_Pool_Check [v5] h1 fun v6 h2 =>
  Vb (bin .neq v6 (Value.int IntKind.i64 0)) fun v7 =>
  Br v7 (
    R (Value.int IntKind.i64 0) h2) (
    Vb (fa 0 p2) fun v9 =>
    Vb (ldc v9 h2) fun v10 =>
    Vb (bin .add v10 (Value.int IntKind.i64 2)) fun v11 =>
    Vb (fa 2 p2) fun v13 =>
    Vb (ldc v13 h2) fun v14 =>
    Vb (fa 0 p2) fun v17 =>
    Vb (ldc v17 h2) fun v18 =>
    Vb (bin .add v18 (Value.int IntKind.i64 1)) fun v19 =>
    S.C I.f_space_Space_Get [s1, v11] h2 fun v12 h3 =>
    ldc v17 h3 = some v18 ∧
    ldc v13 h3 = some v14 ∧
    Vb (bin .add v12 v14) fun v15 =>
    S.C I.f_space_Space_Get [s1, v19] h3 fun v20 h4 =>
    ldc v13 h4 = some v14 ∧
    Vb (bin .sub v15 v20) fun v21 =>
    Vb (mx v21 (Value.int IntKind.i64 0)) fun v22 =>
    R v22 h4)

def F_space_Space_Ended (S : Sys) (I : Ids) (s0 : Value) (h : Hp) (R : Value → Hp → Prop) : Prop :=
  Jn1 (fun v2 h1 =>
      R v2 h1) fun J0 =>
  Vb (pos? (eqP s0 (Value.pointer none))) fun v4 =>
  Br v4 (
    J0 (Value.bool true) h) (
    Vb (nck s0) fun v7 =>
    Vb (fa 4 v7) fun v8 =>
    Vb (ldc v8 h) fun v9 =>
    J0 v9 h)

def F_simulcastlaw38_awake_1 (S : Sys) (I : Ids) (s0 v1 v2 : Value) (h : Hp) (R : Value → Hp → Prop) : Prop :=
  Vb (fa 1 v1) fun v8 =>
  Vb (lda 4 v8 h) fun v9 =>
  S.C I.f_heap_Heap_Pop [v9, s0] h fun v11 h1 =>
  Vb (ext 0 v11) fun v12 =>
  Vb (ext 1 v11) fun v13 =>
  Vb (ext 2 v11) fun v14 =>
  Vb (ldc v2 h1) fun v15 =>
  Eb (bsl #[Value.int IntKind.i64 0] 1 2 I.t_int64 [(0, v12), (1, v13)] h1) fun v18 h2 =>
  Ap I.t_int64 #[Value.int IntKind.i64 0] 1 8 v15 v18 h2 fun v19 h3 =>
  Sb (sto 1 v2 v19 h3) fun h4 =>
  R (.tuple #[]) h4

def F_slices_Equal_int64_int64 (S : Sys) (I : Ids) (s10 s21 : Value) (h : Hp) (R : Value → Hp → Prop) : Prop :=
  Vb (lnS s10) fun v7 =>
  Vb (lnS s21) fun v9 =>
  Vb (bin .neq v7 v9) fun v10 =>
  Br v10 (
    R (Value.bool false) h) (
    Vb (lnS s10) fun v12 =>
    Lp1 (Value.int IntKind.i64 0) h fun v13 h1 again0 =>
    Vb (bin .lss v13 v12) fun v14 =>
    Br v14 (
      Vb (ixs 1 s10 v13) fun v18 =>
      Vb (ldc v18 h1) fun v19 =>
      Vb (ixs 1 s21 v13) fun v22 =>
      Vb (ldc v22 h1) fun v23 =>
      Vb (bin .neq v19 v23) fun v24 =>
      Br v24 (
        R (Value.bool false) h1) (
        Vb (bin .add v13 (Value.int IntKind.i64 1)) fun v25 =>
        again0 v25 h1)) (
      R (Value.bool true) h1))

def F_simulcastlaw38_is (S : Sys) (I : Ids) (x0 : Value) (h : Hp) (R : Value → Hp → Prop) : Prop :=
  Eb (nw (Value.cells x0) I.t_simulcastlaw38_state h) fun x1 h1 =>
  Eb (nw #[Value.bool false] I.t_bool h1) fun ok3 h2 =>
  Sb (sto 1 ok3 (Value.bool true) h2) fun h3 =>
  Vb (fa 0 x1) fun v8 =>
  Vb (ldc v8 h3) fun v9 =>
  Vb (some (.func (.func I.f_simulcastlaw38_is_1) #[] #[x1, ok3])) fun v10 =>
  S.C I.f_simulcastlaw33_World_Done [v9, v10] h3 fun v11 h4 =>
  Vb (ext 0 v11) fun v12 =>
  Vb (ext 1 v11) fun v13 =>
  Vb (ext 2 v11) fun v14 =>
  Jn1 (fun v2 h5 =>
      R v2 h5) fun J0 =>
  Vb (ldc ok3 h4) fun v15 =>
  Br v15 (
    Br v14 (
      Vb (fa 0 x1) fun v21 =>
      Vb (ldc v21 h4) fun v22 =>
      S.C I.f_simulcastlaw33_Alike [v12, v22] h4 fun v23 h6 =>
      J0 v23 h6) (
      J0 (Value.bool false) h4)) (
    J0 (Value.bool false) h4)

def F_space_Space_Entries (S : Sys) (I : Ids) (s0 : Value) (h : Hp) (R : Value → Hp → Prop) : Prop :=
  S.C I.f_space_Space_Ended [s0] h fun v11 h1 =>
  Br v11 (
    R (.tuple #[(Value.slice none 0 0), (Value.int IntKind.i64 13)]) h1) (
    S.C I.f_space_Space_Reads [s0] h1 fun v13 h2 =>
    Vb (lnS v13) fun v14 =>
    Lp2 (Value.slice none 0 0) (Value.int IntKind.i64 0) h2 fun out4 v15 h3 again0 =>
    Vb (bin .lss v15 v14) fun v16 =>
    Br v16 (
      Vb (ixs 1 v13 v15) fun v17 =>
      Vb (ldc v17 h3) fun v18 =>
      S.C I.f_space_Space_value [s0, v18] h3 fun v22 h4 =>
      Vb (ext 0 v22) fun v23 =>
      Vb (ext 1 v22) fun v24 =>
      Vb (nck s0) fun v28 =>
      Vb (fa 0 v28) fun v29 =>
      Vb (ldc v29 h4) fun v30 =>
      Vb (lkm (.int .i64) (Value.agg #[Value.int IntKind.i64 0, Value.int IntKind.u32 0, Value.int IntKind.u32 0]) false v30 v18 h4) fun v32 =>
      Vb (bldS [(0, 1), (1, 3), (4, 1), (5, 1)] #[Value.int IntKind.i64 0, Value.int IntKind.i64 0, Value.int IntKind.u32 0, Value.int IntKind.u32 0, Value.int IntKind.i64 0, Value.bool false] [(0, v18), (1, v32), (2, v23), (3, v24)]) fun v35 =>
      Eb (bsl #[Value.int IntKind.i64 0, Value.int IntKind.i64 0, Value.int IntKind.u32 0, Value.int IntKind.u32 0, Value.int IntKind.i64 0, Value.bool false] 6 1 I.t_api_Entry [(0, v35)] h4) fun v36 h5 =>
      Ap I.t_api_Entry #[Value.int IntKind.i64 0, Value.int IntKind.i64 0, Value.int IntKind.u32 0, Value.int IntKind.u32 0, Value.int IntKind.i64 0, Value.bool false] 6 40 out4 v36 h5 fun v37 h6 =>
      Vb (bin .add v15 (Value.int IntKind.i64 1)) fun v38 =>
      again0 v37 v38 h6) (
      Vb (lnS out4) fun v40 =>
      Vb (bin .eql v40 (Value.int IntKind.i64 0)) fun v41 =>
      Br v41 (
        R (.tuple #[(Value.slice none 0 0), (Value.int IntKind.i64 0)]) h3) (
        S.C I.f_entry_Check [out4] h3 fun v43 h7 =>
        Vb (bin .neq v43 (Value.int IntKind.i64 0)) fun v45 =>
        Br v45 (
          R (.tuple #[(Value.slice none 0 0), v43]) h7) (
          R (.tuple #[out4, (Value.int IntKind.i64 0)]) h7))))

def F_space_Space_Writes (S : Sys) (I : Ids) (s0 : Value) (h : Hp) (R : Value → Hp → Prop) : Prop :=
  Vb (pos? (eqP s0 (Value.pointer none))) fun v7 =>
  Br v7 (
    R (Value.slice none 0 0) h) (
    Vb (nck s0) fun v10 =>
    Vb (fa 2 v10) fun v11 =>
    Vb (ldc v11 h) fun v12 =>
    Vb (lnS v12) fun v13 =>
    Lp2 (Value.slice none 0 0) (Value.int IntKind.i64 0) h fun out3 v14 h1 again0 =>
    Vb (bin .lss v14 v13) fun v15 =>
    Br v15 (
      Vb (ixs 2 v12 v14) fun v16 =>
      Vb (lda 2 v16 h1) fun v17 =>
      Eb (nw #[Value.int IntKind.i64 0, Value.int IntKind.i64 0] I.t_space_put h1) fun p5 h2 =>
      Sb (sto 2 p5 v17 h2) fun h3 =>
      Vb (fa 0 p5) fun v19 =>
      Vb (ldc v19 h3) fun v20 =>
      Eb (bsl #[Value.int IntKind.i64 0] 1 1 I.t_api_Loc [(0, v20)] h3) fun v21 h4 =>
      Ap I.t_api_Loc #[Value.int IntKind.i64 0] 1 8 out3 v21 h4 fun v22 h5 =>
      Vb (bin .add v14 (Value.int IntKind.i64 1)) fun v23 =>
      again0 v22 v23 h5) (
      S.C I.f_slices_Sort_api_Loc_api_Loc [out3] h1 fun v25 h6 =>
      S.C I.f_slices_Compact_api_Loc_api_Loc [out3] h6 fun v27 h7 =>
      R v27 h7))

def F_space_Space_Get (S : Sys) (I : Ids) (s0 at1 : Value) (h : Hp) (R : Value → Hp → Prop) : Prop :=
  S.C I.f_space_Space_reads [s0, at1] h fun v9 h1 =>
  Vb (uno .not v9) fun v10 =>
  Br v10 (
    R (Value.int IntKind.i64 0) h1) (
    S.C I.f_space_Space_value [s0, at1] h1 fun v14 h2 =>
    Vb (ext 0 v14) fun v15 =>
    Vb (ext 1 v14) fun v16 =>
    R v15 h2)

def F_heap_work_many (S : Sys) (I : Ids) (w0 : Value) (h : Hp) (R : Value → Hp → Prop) : Prop :=
  S.C I.f_heap_work_root [w0, (Value.int IntKind.i64 0)] h fun v6 h1 =>
  Jn2 (fun v2 v3 h2 =>
      R (.tuple #[v2, v3]) h2) fun J0 =>
  Vb (bin .geq v6 (Value.int IntKind.i64 0)) fun v9 =>
  Br v9 (
    Vb (bin .leq v6 (Value.int IntKind.i64 32)) fun v12 =>
    J0 v6 v12 h1) (
    J0 v6 (Value.bool false) h1)

def F_heap_work_item (S : Sys) (I : Ids) (w0 at1 : Value) (h : Hp) (R : Value → Hp → Prop) : Prop :=
  S.C I.f_heap_work_row [w0, at1] h fun v10 h1 =>
  Vb (ext 0 v10) fun v11 =>
  Vb (ext 1 v10) fun v12 =>
  Vb (bin .eql v11 (Value.int IntKind.i64 0)) fun v14 =>
  Br v14 (
    R (Value.int IntKind.i64 0) h1) (
    S.C I.f_heap_work_get [w0, v11, v12] h1 fun v19 h2 =>
    S.C I.f_heap_work_node [w0, v19] h2 fun v20 h3 =>
    R v20 h3)

def F_slices_SortStableFunc_api_Loc_api_Loc (S : Sys) (I : Ids) (x0 cmp1 : Value) (h : Hp) (R : Value → Hp → Prop) : Prop :=
  Vb (lnS x0) fun v6 =>
  S.C I.f_slices_stableCmpFunc_api_Loc [x0, v6, cmp1] h fun v8 h1 =>
  R (.tuple #[]) h1

def F_heap_Heap_Walk_1 (S : Sys) (I : Ids) (a0 b1 v2 : Value) (h : Hp) (R : Value → Hp → Prop) : Prop :=
  Jn2 (fun x6 y7 h1 =>
      Vb (lda 2 x6 h1) fun v15 =>
      Vb (lda 2 y7 h1) fun v16 =>
      S.C I.f_heap_ahead [v15, v16] h1 fun v17 h2 =>
      Br v17 (
        R (Value.int IntKind.i64 (-1)) h2) (
        Vb (lda 2 x6 h2) fun v19 =>
        Vb (lda 2 y7 h2) fun v20 =>
        Vb (pos? (eqA [true, true] v19 v20)) fun v21 =>
        Br v21 (
          R (Value.int IntKind.i64 0) h2) (
          R (Value.int IntKind.i64 1) h2))) fun J0 =>
  Vb (ldc v2 h) fun v8 =>
  Vb (ldc v2 h) fun v11 =>
  And (
    S.C I.f_heap_work_key [v8, a0] h fun v10 h3 =>
    ldc v2 h3 = some v11 ∧
    And (
      S.C I.f_heap_work_key [v11, b1] h3 fun v13 h4 =>
      And (
        Eb (nw #[Value.int IntKind.i64 0, Value.int IntKind.i64 0] I.t_heap_key h4) fun x6_1 h5 =>
        Eb (nw #[Value.int IntKind.i64 0, Value.int IntKind.i64 0] I.t_heap_key h5) fun y7_1 h6 =>
        Sb (sto 2 x6_1 v10 h6) fun h7 =>
        Sb (sto 2 y7_1 v13 h7) fun h8 =>
        J0 x6_1 y7_1 h8) (
        Eb (nw #[Value.int IntKind.i64 0, Value.int IntKind.i64 0] I.t_heap_key h4) fun y7_2 h9 =>
        Eb (nw #[Value.int IntKind.i64 0, Value.int IntKind.i64 0] I.t_heap_key h9) fun x6_2 h10 =>
        Sb (sto 2 x6_2 v10 h10) fun h11 =>
        Sb (sto 2 y7_2 v13 h11) fun h12 =>
        J0 x6_2 y7_2 h12)) (
    And (
      Eb (nw #[Value.int IntKind.i64 0, Value.int IntKind.i64 0] I.t_heap_key h3) fun x6_3 h13 =>
      ldc v2 h13 = some v11 ∧
      And (
        S.C I.f_heap_work_key [v11, b1] h13 fun v13_1 h14 =>
        Eb (nw #[Value.int IntKind.i64 0, Value.int IntKind.i64 0] I.t_heap_key h14) fun y7_3 h15 =>
        Sb (sto 2 x6_3 v10 h15) fun h16 =>
        Sb (sto 2 y7_3 v13_1 h16) fun h17 =>
        J0 x6_3 y7_3 h17) (
        Eb (nw #[Value.int IntKind.i64 0, Value.int IntKind.i64 0] I.t_heap_key h13) fun y7_4 h18 =>
        ldc v2 h18 = some v11 ∧
        S.C I.f_heap_work_key [v11, b1] h18 fun v13_2 h19 =>
        Sb (sto 2 x6_3 v10 h19) fun h20 =>
        Sb (sto 2 y7_4 v13_2 h20) fun h21 =>
        J0 x6_3 y7_4 h21)) (
      Eb (nw #[Value.int IntKind.i64 0, Value.int IntKind.i64 0] I.t_heap_key h3) fun y7_5 h22 =>
      ldc v2 h22 = some v11 ∧
      And (
        S.C I.f_heap_work_key [v11, b1] h22 fun v13_3 h23 =>
        Eb (nw #[Value.int IntKind.i64 0, Value.int IntKind.i64 0] I.t_heap_key h23) fun x6_4 h24 =>
        Sb (sto 2 x6_4 v10 h24) fun h25 =>
        Sb (sto 2 y7_5 v13_3 h25) fun h26 =>
        J0 x6_4 y7_5 h26) (
        Eb (nw #[Value.int IntKind.i64 0, Value.int IntKind.i64 0] I.t_heap_key h22) fun x6_5 h27 =>
        ldc v2 h27 = some v11 ∧
        S.C I.f_heap_work_key [v11, b1] h27 fun v13_4 h28 =>
        Sb (sto 2 x6_5 v10 h28) fun h29 =>
        Sb (sto 2 y7_5 v13_4 h29) fun h30 =>
        J0 x6_5 y7_5 h30)))) (
  And (
    Eb (nw #[Value.int IntKind.i64 0, Value.int IntKind.i64 0] I.t_heap_key h) fun x6_6 h31 =>
    ldc v2 h31 = some v11 ∧
    ldc v2 h31 = some v8 ∧
    And (
      S.C I.f_heap_work_key [v8, a0] h31 fun v10_1 h32 =>
      ldc v2 h32 = some v11 ∧
      And (
        S.C I.f_heap_work_key [v11, b1] h32 fun v13_5 h33 =>
        Eb (nw #[Value.int IntKind.i64 0, Value.int IntKind.i64 0] I.t_heap_key h33) fun y7_6 h34 =>
        Sb (sto 2 x6_6 v10_1 h34) fun h35 =>
        Sb (sto 2 y7_6 v13_5 h35) fun h36 =>
        J0 x6_6 y7_6 h36) (
        Eb (nw #[Value.int IntKind.i64 0, Value.int IntKind.i64 0] I.t_heap_key h32) fun y7_7 h37 =>
        ldc v2 h37 = some v11 ∧
        S.C I.f_heap_work_key [v11, b1] h37 fun v13_6 h38 =>
        Sb (sto 2 x6_6 v10_1 h38) fun h39 =>
        Sb (sto 2 y7_7 v13_6 h39) fun h40 =>
        J0 x6_6 y7_7 h40)) (
      Eb (nw #[Value.int IntKind.i64 0, Value.int IntKind.i64 0] I.t_heap_key h31) fun y7_8 h41 =>
      ldc v2 h41 = some v11 ∧
      ldc v2 h41 = some v8 ∧
      S.C I.f_heap_work_key [v8, a0] h41 fun v10_2 h42 =>
      ldc v2 h42 = some v11 ∧
      S.C I.f_heap_work_key [v11, b1] h42 fun v13_7 h43 =>
      Sb (sto 2 x6_6 v10_2 h43) fun h44 =>
      Sb (sto 2 y7_8 v13_7 h44) fun h45 =>
      J0 x6_6 y7_8 h45)) (
    Eb (nw #[Value.int IntKind.i64 0, Value.int IntKind.i64 0] I.t_heap_key h) fun y7_9 h46 =>
    ldc v2 h46 = some v11 ∧
    ldc v2 h46 = some v8 ∧
    And (
      S.C I.f_heap_work_key [v8, a0] h46 fun v10_3 h47 =>
      ldc v2 h47 = some v11 ∧
      And (
        S.C I.f_heap_work_key [v11, b1] h47 fun v13_8 h48 =>
        Eb (nw #[Value.int IntKind.i64 0, Value.int IntKind.i64 0] I.t_heap_key h48) fun x6_7 h49 =>
        Sb (sto 2 x6_7 v10_3 h49) fun h50 =>
        Sb (sto 2 y7_9 v13_8 h50) fun h51 =>
        J0 x6_7 y7_9 h51) (
        Eb (nw #[Value.int IntKind.i64 0, Value.int IntKind.i64 0] I.t_heap_key h47) fun x6_8 h52 =>
        ldc v2 h52 = some v11 ∧
        S.C I.f_heap_work_key [v11, b1] h52 fun v13_9 h53 =>
        Sb (sto 2 x6_8 v10_3 h53) fun h54 =>
        Sb (sto 2 y7_9 v13_9 h54) fun h55 =>
        J0 x6_8 y7_9 h55)) (
      Eb (nw #[Value.int IntKind.i64 0, Value.int IntKind.i64 0] I.t_heap_key h46) fun x6_9 h56 =>
      ldc v2 h56 = some v11 ∧
      ldc v2 h56 = some v8 ∧
      S.C I.f_heap_work_key [v8, a0] h56 fun v10_4 h57 =>
      ldc v2 h57 = some v11 ∧
      S.C I.f_heap_work_key [v11, b1] h57 fun v13_10 h58 =>
      Sb (sto 2 x6_9 v10_4 h58) fun h59 =>
      Sb (sto 2 y7_9 v13_10 h59) fun h60 =>
      J0 x6_9 y7_9 h60)))

def F_heap_work_key (S : Sys) (I : Ids) (w0 item1 : Value) (h : Hp) (R : Value → Hp → Prop) : Prop :=
  Eb (nw #[Value.int IntKind.i64 0, Value.int IntKind.i64 0] I.t_heap_key h) fun v4 h1 =>
  S.C I.f_heap_work_get [w0, item1, (Value.int IntKind.i64 0)] h1 fun v7 h2 =>
  S.C I.f_heap_work_get [w0, item1, (Value.int IntKind.i64 2)] h2 fun v10 h3 =>
  Vb (bldA 1 #[Value.int IntKind.i64 0, Value.int IntKind.i64 0] [(0, v7), (1, v10)]) fun v11 =>
  Sb (sto 2 v4 v11 h3) fun h4 =>
  Vb (lda 2 v4 h4) fun r0 =>
  R r0 h4

def F_heap_ahead (S : Sys) (I : Ids) (a0 b1 : Value) (h : Hp) (R : Value → Hp → Prop) : Prop :=
  Eb (nw (Value.cells a0) I.t_heap_key h) fun a2 h1 =>
  Eb (nw (Value.cells b1) I.t_heap_key h1) fun b3 h2 =>
  Jn1 (fun v4 h3 =>
      R v4 h3) fun J0 =>
  Vb (lda 2 a2 h2) fun v5 =>
  Vb (lda 2 b3 h2) fun v6 =>
  Vb (neg? (eqA [true, true] v5 v6)) fun v7 =>
  Br v7 (
    Vb (ixa 2 1 a2 (Value.int IntKind.i64 0)) fun v9 =>
    Vb (ldc v9 h2) fun v10 =>
    Vb (ixa 2 1 b3 (Value.int IntKind.i64 0)) fun v11 =>
    Vb (ldc v11 h2) fun v12 =>
    Vb (bin .lss v10 v12) fun v13 =>
    Br v13 (
      J0 (Value.bool true) h2) (
      Vb (ixa 2 1 a2 (Value.int IntKind.i64 0)) fun v15 =>
      Vb (ldc v15 h2) fun v16 =>
      Vb (ixa 2 1 b3 (Value.int IntKind.i64 0)) fun v17 =>
      Vb (ldc v17 h2) fun v18 =>
      Vb (bin .eql v16 v18) fun v19 =>
      Br v19 (
        Vb (ixa 2 1 a2 (Value.int IntKind.i64 1)) fun v21 =>
        Vb (ldc v21 h2) fun v22 =>
        Vb (ixa 2 1 b3 (Value.int IntKind.i64 1)) fun v23 =>
        Vb (ldc v23 h2) fun v24 =>
        Vb (bin .lss v22 v24) fun v25 =>
        J0 v25 h2) (
        J0 (Value.bool false) h2))) (
    J0 (Value.bool false) h2)

def F_heap_work_get (S : Sys) (I : Ids) (w0 at1 cell2 : Value) (h : Hp) (R : Value → Hp → Prop) : Prop :=
  Vb (bin .eql at1 (Value.int IntKind.i64 0)) fun v8 =>
  Br v8 (
    R (Value.int IntKind.i64 0) h) (
    Vb (nck w0) fun v10 =>
    Vb (fa 4 v10) fun v11 =>
    Vb (ldc v11 h) fun v12 =>
    Vb (bin .add at1 cell2) fun v15 =>
    S.C I.f_space_Space_Get [v12, v15] h fun v16 h1 =>
    R v16 h1)

def F_heap_work_none (S : Sys) (I : Ids) (w0 v1 e2 : Value) (h : Hp) (R : Value → Hp → Prop) : Prop :=
  Vb (nck e2) fun v7 =>
  Vb (ldc v7 h) fun v8 =>
  Vb (bin .neq v8 (Value.int IntKind.i64 0)) fun v9 =>
  Br v9 (
    Vb (nck v1) fun v11 =>
    Sb (sto 1 v11 (Value.int IntKind.i64 0) h) fun h1 =>
    R (.tuple #[]) h1) (
    R (.tuple #[]) h)

def F_heap_work_end (S : Sys) (I : Ids) (w0 mark1 e2 : Value) (h : Hp) (R : Value → Hp → Prop) : Prop :=
  Jn0 (fun h1 =>
      Vb (nck e2) fun v19 =>
      Vb (ldc v19 h1) fun v20 =>
      Vb (bin .neq v20 (Value.int IntKind.i64 0)) fun v21 =>
      Br v21 (
        Vb (nck w0) fun v23 =>
        Vb (fa 4 v23) fun v24 =>
        Vb (ldc v24 h1) fun v25 =>
        S.C I.f_space_Space_Back [v25, mark1] h1 fun v27 h2 =>
        R (.tuple #[]) h2) (
        R (.tuple #[]) h1)) fun J0 =>
  Jn1 (fun v15 h3 =>
      Br v15 (
        Vb (nck e2) fun v17 =>
        Sb (sto 1 v17 (Value.int IntKind.i64 24) h3) fun h4 =>
        J0 h4) (
        J0 h3)) fun J1 =>
  Vb (nck w0) fun v7 =>
  Vb (fa 5 v7) fun v8 =>
  Vb (ldc v8 h) fun v9 =>
  Br v9 (
    Vb (nck e2) fun v12 =>
    Vb (ldc v12 h) fun v13 =>
    Vb (bin .eql v13 (Value.int IntKind.i64 0)) fun v14 =>
    J1 v14 h) (
    J1 (Value.bool false) h)

def F_space_Space_Mark (S : Sys) (I : Ids) (s0 : Value) (h : Hp) (R : Value → Hp → Prop) : Prop :=
  Vb (pos? (eqP s0 (Value.pointer none))) fun v4 =>
  Br v4 (
    R (Value.int IntKind.i64 0) h) (
    Vb (nck s0) fun v6 =>
    Vb (fa 2 v6) fun v7 =>
    Vb (ldc v7 h) fun v8 =>
    Vb (lnS v8) fun v9 =>
    R v9 h)

def F_heap_work_root (S : Sys) (I : Ids) (w0 cell1 : Value) (h : Hp) (R : Value → Hp → Prop) : Prop :=
  Vb (nck w0) fun v6 =>
  Vb (fa 4 v6) fun v7 =>
  Vb (ldc v7 h) fun v8 =>
  Vb (nck w0) fun v10 =>
  Vb (fa 0 v10) fun v11 =>
  Vb (fa 3 v11) fun v12 =>
  Vb (ldc v12 h) fun v13 =>
  Vb (bin .add v13 cell1) fun v15 =>
  S.C I.f_space_Space_Get [v8, v15] h fun v16 h1 =>
  R v16 h1

def F_heap_work_take (S : Sys) (I : Ids) (w0 : Value) (h : Hp) (R : Value → Hp → Prop) : Prop :=
  Vb (nck w0) fun v8 =>
  Vb (fa 0 v8) fun v9 =>
  Vb (fa 0 v9) fun v10 =>
  Vb (lda 3 v10 h) fun v11 =>
  Vb (nck w0) fun v13 =>
  Vb (fa 4 v13) fun v14 =>
  Vb (ldc v14 h) fun v15 =>
  S.C I.f_pool_Pool_Take [v11, v15] h fun v16 h1 =>
  Vb (ext 0 v16) fun v17 =>
  Vb (ext 1 v16) fun v18 =>
  Jn0 (fun h2 =>
      R (.tuple #[v17, v18]) h2) fun J0 =>
  Vb (bin .eql v18 (Value.int IntKind.i64 0)) fun v20 =>
  Br v20 (
    S.C I.f_heap_work_add [w0, (Value.int IntKind.i64 7), (Value.int IntKind.i64 1)] h1 fun v22 h3 =>
    J0 h3) (
    J0 h1)

def F_space_Space_Put (S : Sys) (I : Ids) (s0 at1 v2 : Value) (h : Hp) (R : Value → Hp → Prop) : Prop :=
  S.C I.f_space_Space_reads [s0, at1] h fun v8 h1 =>
  Br v8 (
    Vb (nck s0) fun v11 =>
    Vb (fa 2 v11) fun v12 =>
    Vb (ldc v12 h1) fun v13 =>
    Vb (bldS [(0, 1), (1, 1)] #[Value.int IntKind.i64 0, Value.int IntKind.i64 0] [(0, at1), (1, v2)]) fun v16 =>
    Eb (bsl #[Value.int IntKind.i64 0, Value.int IntKind.i64 0] 2 1 I.t_space_put [(0, v16)] h1) fun v17 h2 =>
    Ap I.t_space_put #[Value.int IntKind.i64 0, Value.int IntKind.i64 0] 2 16 v13 v17 h2 fun v18 h3 =>
    Vb (nck s0) fun v19 =>
    Vb (fa 2 v19) fun v20 =>
    Sb (sto 1 v20 v18 h3) fun h4 =>
    R (.tuple #[]) h4) (
    R (.tuple #[]) h1)

def F_heap_work_put (S : Sys) (I : Ids) (w0 at1 cell2 v3 : Value) (h : Hp) (R : Value → Hp → Prop) : Prop :=
  Vb (bin .neq at1 (Value.int IntKind.i64 0)) fun v9 =>
  Br v9 (
    Vb (nck w0) fun v11 =>
    Vb (fa 4 v11) fun v12 =>
    Vb (ldc v12 h) fun v13 =>
    Vb (bin .add at1 cell2) fun v16 =>
    S.C I.f_space_Space_Put [v13, v16, v3] h fun v18 h1 =>
    R (.tuple #[]) h1) (
    R (.tuple #[]) h)

def F_heap_work_add (S : Sys) (I : Ids) (w0 cell1 n2 : Value) (h : Hp) (R : Value → Hp → Prop) : Prop :=
  Vb (nck w0) fun v7 =>
  Vb (fa 4 v7) fun v8 =>
  Vb (ldc v8 h) fun v9 =>
  Vb (nck w0) fun v11 =>
  Vb (fa 0 v11) fun v12 =>
  Vb (fa 3 v12) fun v13 =>
  Vb (ldc v13 h) fun v14 =>
  Vb (bin .add v14 cell1) fun v16 =>
  S.C I.f_heap_work_root [w0, cell1] h fun v19 h1 =>
  ldc v13 h1 = some v14 ∧
  ldc v8 h1 = some v9 ∧
  Vb (bin .add v19 n2) fun v21 =>
  S.C I.f_space_Space_Put [v9, v16, v21] h1 fun v22 h2 =>
  R (.tuple #[]) h2

def F_heap_work_rise (S : Sys) (I : Ids) (w0 at1 item2 : Value) (h : Hp) (R : Value → Hp → Prop) : Prop :=
  S.C I.f_heap_work_key [w0, item2] h fun v11 h1 =>
  Eb (nw #[Value.int IntKind.i64 0, Value.int IntKind.i64 0] I.t_heap_key h1) fun own7 h2 =>
  Sb (sto 2 own7 v11 h2) fun h3 =>
  Jn1 (fun at1_1 h4 =>
      S.C I.f_heap_work_lay [w0, at1_1, item2] h4 fun v40 h5 =>
      R at1_1 h5) fun J0 =>
  Lp1 at1 h3 fun at1_2 h6 again0 =>
  Jn1 (fun v20 h7 =>
      Br v20 (
        Vb (bin .quo at1_2 (Value.int IntKind.i64 2)) fun v23 =>
        S.C I.f_heap_work_item [w0, v23] h7 fun v24 h8 =>
        Vb (lda 2 own7 h8) fun v25 =>
        S.C I.f_heap_work_key [w0, v24] h8 fun v28 h9 =>
        lda 2 own7 h9 = some v25 ∧
        S.C I.f_heap_ahead [v25, v28] h9 fun v29 h10 =>
        Vb (uno .not v29) fun v30 =>
        Br v30 (
          J0 at1_2 h10) (
          S.C I.f_heap_work_lay [w0, at1_2, v24] h10 fun v34 h11 =>
          Vb (bin .quo at1_2 (Value.int IntKind.i64 2)) fun v36 =>
          again0 v36 h11)) (
        J0 at1_2 h7)) fun J1 =>
  Vb (bin .gtr at1_2 (Value.int IntKind.i64 1)) fun v13 =>
  Br v13 (
    Vb (nck w0) fun v16 =>
    Vb (fa 5 v16) fun v17 =>
    Vb (ldc v17 h6) fun v18 =>
    Vb (uno .not v18) fun v19 =>
    J1 v19 h6) (
    J1 (Value.bool false) h6)

def F_heap_work_remove (S : Sys) (I : Ids) (w0 at1 n2 : Value) (h : Hp) (R : Value → Hp → Prop) : Prop :=
  S.C I.f_heap_work_item [w0, at1] h fun v19 h1 =>
  S.C I.f_heap_work_item [w0, n2] h1 fun v22 h2 =>
  S.C I.f_heap_work_get [w0, v19, (Value.int IntKind.i64 0)] h2 fun v25 h3 =>
  S.C I.f_heap_work_get [w0, v19, (Value.int IntKind.i64 1)] h3 fun v28 h4 =>
  S.C I.f_heap_work_row [w0, n2] h4 fun v32 h5 =>
  Vb (ext 0 v32) fun v33 =>
  Vb (ext 1 v32) fun v34 =>
  Vb (nck w0) fun v36 =>
  Vb (fa 5 v36) fun v37 =>
  Vb (ldc v37 h5) fun v38 =>
  Br v38 (
    R (.tuple #[(Value.int IntKind.i64 0), (Value.int IntKind.i64 0), (Value.int IntKind.i64 24)]) h5) (
    S.C I.f_heap_work_add [w0, (Value.int IntKind.i64 0), (Value.int IntKind.i64 (-1))] h5 fun v40 h6 =>
    Jn0 (fun h7 =>
        Jn0 (fun h8 =>
            S.C I.f_heap_work_give [w0, v19] h8 fun v81 h9 =>
            Vb (bin .neq v81 (Value.int IntKind.i64 0)) fun v83 =>
            Br v83 (
              R (.tuple #[(Value.int IntKind.i64 0), (Value.int IntKind.i64 0), v81]) h9) (
              Vb (nck w0) fun v86 =>
              Vb (fa 5 v86) fun v87 =>
              Vb (ldc v87 h9) fun v88 =>
              Br v88 (
                R (.tuple #[(Value.int IntKind.i64 0), (Value.int IntKind.i64 0), (Value.int IntKind.i64 24)]) h9) (
                R (.tuple #[v25, v28, (Value.int IntKind.i64 0)]) h9))) fun J1 =>
        Vb (bin .eql v34 (Value.int IntKind.i64 0)) fun v57 =>
        Br v57 (
          Vb (nck w0) fun v59 =>
          Vb (fa 4 v59) fun v60 =>
          Vb (ldc v60 h7) fun v61 =>
          Vb (nck w0) fun v63 =>
          Vb (fa 0 v63) fun v64 =>
          Vb (fa 3 v64) fun v65 =>
          Vb (ldc v65 h7) fun v66 =>
          Vb (bin .sub n2 (Value.int IntKind.i64 1)) fun v68 =>
          Vb (bin .quo v68 (Value.int IntKind.i64 8)) fun v69 =>
          Vb (bin .add (Value.int IntKind.i64 3) v69) fun v70 =>
          Vb (bin .add v66 v70) fun v71 =>
          S.C I.f_space_Space_Put [v61, v71, (Value.int IntKind.i64 0)] h7 fun v72 h10 =>
          S.C I.f_heap_work_give [w0, v33] h10 fun v75 h11 =>
          Vb (bin .neq v75 (Value.int IntKind.i64 0)) fun v77 =>
          Br v77 (
            R (.tuple #[(Value.int IntKind.i64 0), (Value.int IntKind.i64 0), v75]) h11) (
            J1 h11)) (
          J1 h7)) fun J0 =>
    Vb (bin .neq at1 n2) fun v43 =>
    Br v43 (
      S.C I.f_heap_work_rise [w0, at1, v22] h6 fun v47 h12 =>
      Vb (bin .eql v47 at1) fun v49 =>
      Br v49 (
        Vb (bin .sub n2 (Value.int IntKind.i64 1)) fun v54 =>
        S.C I.f_heap_work_sink [w0, at1, v22, v54] h12 fun v55 h13 =>
        J0 h13) (
        J0 h12)) (
      J0 h6))

def F_pool_Pool_Check (S : Sys) (I : Ids) (p0 : Value) (h : Hp) (R : Value → Hp → Prop) : Prop :=
  Eb (nw (Value.cells p0) I.t_pool_Pool h) fun p1 h1 =>
  Jn1 (fun v3 h2 =>
      Br v3 (
        R (Value.int IntKind.i64 1) h2) (
        Jn1 (fun v22 h3 =>
            Br v22 (
              R (Value.int IntKind.i64 1) h3) (
              Jn1 (fun v35 h4 =>
                  Br v35 (
                    R (Value.int IntKind.i64 1) h4) (
                    R (Value.int IntKind.i64 0) h4)) fun J2 =>
              Vb (fa 2 p1) fun v36 =>
              Vb (ldc v36 h3) fun v37 =>
              Vb (bin .gtr v37 (Value.int IntKind.i64 0)) fun v38 =>
              Br v38 (
                Vb (fa 0 p1) fun v40 =>
                Vb (ldc v40 h3) fun v41 =>
                Vb (bin .add v41 (Value.int IntKind.i64 3)) fun v42 =>
                Vb (fa 1 p1) fun v43 =>
                Vb (ldc v43 h3) fun v44 =>
                Vb (bin .gtr v42 v44) fun v45 =>
                Br v45 (
                  Vb (fa 0 p1) fun v48 =>
                  Vb (ldc v48 h3) fun v49 =>
                  Vb (fa 1 p1) fun v50 =>
                  Vb (ldc v50 h3) fun v51 =>
                  Vb (fa 2 p1) fun v52 =>
                  Vb (ldc v52 h3) fun v53 =>
                  Vb (bin .mul (Value.int IntKind.i64 8) v53) fun v54 =>
                  Vb (bin .add v51 v54) fun v55 =>
                  Vb (bin .lss v49 v55) fun v56 =>
                  J2 v56 h3) (
                  J2 (Value.bool false) h3)) (
                J2 (Value.bool false) h3))) fun J1 =>
        Vb (fa 0 p1) fun v23 =>
        Vb (ldc v23 h2) fun v24 =>
        Vb (bin .gtr v24 (Value.int IntKind.i64 4093)) fun v25 =>
        Br v25 (
          J1 (Value.bool true) h2) (
          Vb (fa 1 p1) fun v27 =>
          Vb (ldc v27 h2) fun v28 =>
          Vb (fa 2 p1) fun v29 =>
          Vb (ldc v29 h2) fun v30 =>
          Vb (bin .mul (Value.int IntKind.i64 8) v30) fun v31 =>
          Vb (bin .sub (Value.int IntKind.i64 4096) v31) fun v32 =>
          Vb (bin .gtr v28 v32) fun v33 =>
          J1 v33 h2))) fun J0 =>
  Vb (fa 0 p1) fun v4 =>
  Vb (ldc v4 h1) fun v5 =>
  Vb (bin .lss v5 (Value.int IntKind.i64 0)) fun v6 =>
  Br v6 (
    J0 (Value.bool true) h1) (
    Vb (fa 1 p1) fun v8 =>
    Vb (ldc v8 h1) fun v9 =>
    Vb (bin .lss v9 (Value.int IntKind.i64 1)) fun v10 =>
    Br v10 (
      J0 (Value.bool true) h1) (
      Vb (fa 2 p1) fun v13 =>
      Vb (ldc v13 h1) fun v14 =>
      Vb (bin .lss v14 (Value.int IntKind.i64 0)) fun v15 =>
      Br v15 (
        J0 (Value.bool true) h1) (
        Vb (fa 2 p1) fun v18 =>
        Vb (ldc v18 h1) fun v19 =>
        Vb (bin .gtr v19 (Value.int IntKind.i64 128)) fun v20 =>
        J0 v20 h1)))

def F_heap_work_find (S : Sys) (I : Ids) (w0 handle1 : Value) (h : Hp) (R : Value → Hp → Prop) : Prop :=
  S.C I.f_heap_work_many [w0] h fun v18 h1 =>
  Vb (ext 0 v18) fun v19 =>
  Vb (ext 1 v18) fun v20 =>
  Vb (uno .not v20) fun v22 =>
  Br v22 (
    R (.tuple #[(Value.int IntKind.i64 0), (Value.int IntKind.i64 0), (Value.int IntKind.i64 0), (Value.int IntKind.i64 24)]) h1) (
    Vb (nck w0) fun v26 =>
    Vb (fa 0 v26) fun v27 =>
    Vb (fa 0 v27) fun v28 =>
    Vb (lda 3 v28 h1) fun v29 =>
    S.C I.f_pool_Pool_Node [v29, handle1] h1 fun v31 h2 =>
    Vb (ext 0 v31) fun v32 =>
    Vb (ext 1 v31) fun v33 =>
    Vb (uno .not v33) fun v35 =>
    Br v35 (
      R (.tuple #[(Value.int IntKind.i64 0), (Value.int IntKind.i64 0), (Value.int IntKind.i64 0), (Value.int IntKind.i64 10)]) h2) (
      S.C I.f_heap_work_get [w0, handle1, (Value.int IntKind.i64 3)] h2 fun v38 h3 =>
      Jn1 (fun v45 h4 =>
          Br v45 (
            R (.tuple #[(Value.int IntKind.i64 0), (Value.int IntKind.i64 0), (Value.int IntKind.i64 0), (Value.int IntKind.i64 10)]) h4) (
            S.C I.f_heap_work_row [w0, v38] h4 fun v49 h5 =>
            Vb (ext 0 v49) fun v50 =>
            Vb (ext 1 v49) fun v51 =>
            Vb (nck w0) fun v54 =>
            Vb (fa 5 v54) fun v55 =>
            Vb (ldc v55 h5) fun v56 =>
            Br v56 (
              R (.tuple #[(Value.int IntKind.i64 0), (Value.int IntKind.i64 0), (Value.int IntKind.i64 0), (Value.int IntKind.i64 24)]) h5) (
              S.C I.f_heap_work_get [w0, v50, v51] h5 fun v61 h6 =>
              Vb (bin .neq v61 handle1) fun v63 =>
              Br v63 (
                R (.tuple #[(Value.int IntKind.i64 0), (Value.int IntKind.i64 0), (Value.int IntKind.i64 0), (Value.int IntKind.i64 10)]) h6) (
                R (.tuple #[handle1, v38, v19, (Value.int IntKind.i64 0)]) h6)))) fun J0 =>
      Vb (bin .lss v38 (Value.int IntKind.i64 1)) fun v40 =>
      Br v40 (
        J0 (Value.bool true) h3) (
        Vb (bin .gtr v38 v19) fun v44 =>
        J0 v44 h3)))

def F_simulcastlaw38_step_1 (S : Sys) (I : Ids) (s0 v1 v2 v3 v4 : Value) (h : Hp) (R : Value → Hp → Prop) : Prop :=
  Vb (fa 0 v1) fun v22 =>
  Vb (ldc v22 h) fun v23 =>
  Vb (bin .rem v23 (Value.int IntKind.u8 6)) fun v24 =>
  Vb (bin .eql v24 (Value.int IntKind.u8 3)) fun v93 =>
  Br v93 (
    Vb (fa 1 v2) fun v95 =>
    Vb (lda 4 v95 h) fun v96 =>
    S.C I.f_heap_Heap_Pop [v96, s0] h fun v98 h1 =>
    Vb (ext 0 v98) fun v99 =>
    Vb (ext 1 v98) fun v100 =>
    Vb (ext 2 v98) fun v101 =>
    Vb (fa 5 v2) fun v102 =>
    Vb (ldc v102 h1) fun v103 =>
    Vb (lnS v103) fun v104 =>
    Vb (bin .eql v104 (Value.int IntKind.i64 0)) fun v105 =>
    Br v105 (
      Jn0 (fun h2 =>
          R (.tuple #[]) h2) fun J0 =>
      Vb (bin .eql v99 (Value.int IntKind.i64 0)) fun v107 =>
      Br v107 (
        Vb (bin .eql v100 (Value.int IntKind.i64 0)) fun v110 =>
        Br v110 (
          Vb (bin .eql v101 (Value.int IntKind.i64 8)) fun v114 =>
          Sb (sto 1 v3 v114 h1) fun h3 =>
          J0 h3) (
          Sb (sto 1 v3 (Value.bool false) h1) fun h4 =>
          J0 h4)) (
        Sb (sto 1 v3 (Value.bool false) h1) fun h5 =>
        J0 h5)) (
      Jn0 (fun h6 =>
          Vb (fa 5 v2) fun v136 =>
          Vb (ldc v136 h6) fun v137 =>
          S.C I.f_simulcastref38_Without [v137, (Value.int IntKind.i64 0)] h6 fun v138 h7 =>
          Vb (fa 5 v2) fun v139 =>
          Sb (sto 1 v139 v138 h7) fun h8 =>
          R (.tuple #[]) h8) fun J1 =>
      Vb (bin .eql v101 (Value.int IntKind.i64 0)) fun v117 =>
      Br v117 (
        Vb (fa 5 v2) fun v120 =>
        Vb (ldc v120 h1) fun v121 =>
        Vb (ixs 4 v121 (Value.int IntKind.i64 0)) fun v122 =>
        Vb (fa 0 v122) fun v123 =>
        Vb (ldc v123 h1) fun v124 =>
        Vb (bin .eql v99 v124) fun v125 =>
        Br v125 (
          Vb (fa 5 v2) fun v129 =>
          Vb (ldc v129 h1) fun v130 =>
          Vb (ixs 4 v130 (Value.int IntKind.i64 0)) fun v131 =>
          Vb (fa 1 v131) fun v132 =>
          Vb (ldc v132 h1) fun v133 =>
          Vb (bin .eql v100 v133) fun v134 =>
          Sb (sto 1 v3 v134 h1) fun h9 =>
          J1 h9) (
          Sb (sto 1 v3 (Value.bool false) h1) fun h10 =>
          J1 h10)) (
        Sb (sto 1 v3 (Value.bool false) h1) fun h11 =>
        J1 h11))) (
    Jn1 (fun v140 h12 =>
        Br v140 (
          Vb (fa 6 v2) fun v143 =>
          Vb (ldc v143 h12) fun v144 =>
          Vb (lnS v144) fun v145 =>
          Vb (bin .eql v145 (Value.int IntKind.i64 0)) fun v146 =>
          Br v146 (
            R (.tuple #[]) h12) (
            Vb (fa 5 v2) fun v147 =>
            Vb (ldc v147 h12) fun v148 =>
            Vb (ldc v4 h12) fun v149 =>
            S.C I.f_simulcastref38_Find [v148, v149] h12 fun v150 h13 =>
            Vb (fa 6 v2) fun v151 =>
            Vb (ldc v151 h13) fun v152 =>
            Vb (ldc v4 h13) fun v153 =>
            Vb (ixs 1 v152 v153) fun v154 =>
            Vb (ldc v154 h13) fun v155 =>
            Vb (fa 6 v2) fun v156 =>
            Vb (ldc v156 h13) fun v157 =>
            Vb (lnS v157) fun v158 =>
            Lp2 v150 (Value.int IntKind.i64 0) h13 fun i9 v159 h14 again0 =>
            Vb (bin .lss v159 v158) fun v160 =>
            Br v160 (
              Jn1 (fun i9_1 h15 =>
                  Vb (bin .add v159 (Value.int IntKind.i64 1)) fun v180 =>
                  again0 i9_1 v180 h15) fun J3 =>
              Vb (ixs 1 v157 v159) fun v162 =>
              Vb (ldc v162 h14) fun v163 =>
              Vb (fa 5 v2) fun v164 =>
              Vb (ldc v164 h14) fun v165 =>
              S.C I.f_simulcastref38_Find [v165, v159] h14 fun v167 h16 =>
              Jn1 (fun v178 h17 =>
                  Br v178 (
                    J3 v167 h17) (
                    J3 i9 h17)) fun J4 =>
              Vb (bin .lss i9 (Value.int IntKind.i64 0)) fun v169 =>
              Br v169 (
                Vb (bin .eql v163 v155) fun v173 =>
                Br v173 (
                  Vb (bin .geq v167 (Value.int IntKind.i64 0)) fun v177 =>
                  J4 v177 h16) (
                  J4 (Value.bool false) h16)) (
                J4 (Value.bool false) h16)) (
              Jn2 (fun e14 v15 h18 =>
                  Vb (bin .lss i9 (Value.int IntKind.i64 0)) fun v219 =>
                  Br v219 (
                    Vb (bin .eql e14 (Value.int IntKind.i64 10)) fun v221 =>
                    Br v221 (
                      Vb (bin .eql v15 (Value.int IntKind.i64 0)) fun v224 =>
                      Sb (sto 1 v3 v224 h18) fun h19 =>
                      R (.tuple #[]) h19) (
                      Sb (sto 1 v3 (Value.bool false) h18) fun h20 =>
                      R (.tuple #[]) h20)) (
                    Vb (fa 0 v1) fun v227 =>
                    Vb (ldc v227 h18) fun v228 =>
                    Vb (bin .rem v228 (Value.int IntKind.u8 6)) fun v229 =>
                    Vb (bin .eql v229 (Value.int IntKind.u8 5)) fun v230 =>
                    Br v230 (
                      Jn0 (fun h21 =>
                          Vb (fa 5 v2) fun v243 =>
                          Vb (ldc v243 h21) fun v244 =>
                          S.C I.f_simulcastref38_Without [v244, i9] h21 fun v246 h22 =>
                          Vb (fa 5 v2) fun v247 =>
                          Sb (sto 1 v247 v246 h22) fun h23 =>
                          R (.tuple #[]) h23) fun J6 =>
                      Vb (bin .eql e14 (Value.int IntKind.i64 0)) fun v232 =>
                      Br v232 (
                        Vb (fa 5 v2) fun v235 =>
                        Vb (ldc v235 h18) fun v236 =>
                        Vb (ixs 4 v236 i9) fun v238 =>
                        Vb (fa 1 v238) fun v239 =>
                        Vb (ldc v239 h18) fun v240 =>
                        Vb (bin .eql v15 v240) fun v241 =>
                        Sb (sto 1 v3 v241 h18) fun h24 =>
                        J6 h24) (
                        Sb (sto 1 v3 (Value.bool false) h18) fun h25 =>
                        J6 h25)) (
                      Vb (fa 2 v1) fun v249 =>
                      Vb (ldc v249 h18) fun v250 =>
                      Vb (fa 5 v2) fun v251 =>
                      Vb (ldc v251 h18) fun v252 =>
                      Vb (ixs 4 v252 i9) fun v254 =>
                      Vb (fa 0 v254) fun v255 =>
                      Vb (ldc v255 h18) fun v256 =>
                      Vb (bin .gtr v250 v256) fun v257 =>
                      Br v257 (
                        Vb (bin .eql e14 (Value.int IntKind.i64 4)) fun v259 =>
                        Sb (sto 1 v3 v259 h18) fun h26 =>
                        R (.tuple #[]) h26) (
                        Vb (fa 5 v2) fun v200 =>
                        Vb (ldc v200 h18) fun v201 =>
                        Vb (ixs 4 v201 i9) fun v203 =>
                        Vb (lda 4 v203 h18) fun v204 =>
                        Eb (nw #[Value.int IntKind.i64 0, Value.int IntKind.i64 0, Value.int IntKind.i64 0, Value.int IntKind.i64 0] I.t_simulcastref38_Item h18) fun it16 h27 =>
                        Sb (sto 4 it16 v204 h27) fun h28 =>
                        Vb (fa 2 v1) fun v205 =>
                        Vb (ldc v205 h28) fun v206 =>
                        Vb (fa 0 it16) fun v207 =>
                        Sb (sto 1 v207 v206 h28) fun h29 =>
                        Vb (bin .eql e14 (Value.int IntKind.i64 0)) fun v209 =>
                        Sb (sto 1 v3 v209 h29) fun h30 =>
                        Vb (fa 5 v2) fun v210 =>
                        Vb (ldc v210 h30) fun v211 =>
                        Vb (lda 4 it16 h30) fun v214 =>
                        S.C I.f_simulcastref38_Without [v211, i9] h30 fun v213 h31 =>
                        lda 4 it16 h31 = some v214 ∧
                        S.C I.f_simulcastref38_Put [v213, v214] h31 fun v215 h32 =>
                        Vb (fa 5 v2) fun v216 =>
                        Sb (sto 1 v216 v215 h32) fun h33 =>
                        R (.tuple #[]) h33)))) fun J5 =>
              Vb (fa 0 v1) fun v181 =>
              Vb (ldc v181 h14) fun v182 =>
              Vb (bin .rem v182 (Value.int IntKind.u8 6)) fun v183 =>
              Vb (bin .eql v183 (Value.int IntKind.u8 4)) fun v184 =>
              Br v184 (
                Vb (fa 1 v2) fun v185 =>
                Vb (lda 4 v185 h14) fun v186 =>
                Vb (fa 2 v1) fun v189 =>
                Vb (ldc v189 h14) fun v190 =>
                S.C I.f_heap_Heap_Lower [v186, s0, v155, v190] h14 fun v191 h34 =>
                J5 v191 (Value.int IntKind.i64 0) h34) (
                Vb (fa 1 v2) fun v193 =>
                Vb (lda 4 v193 h14) fun v194 =>
                S.C I.f_heap_Heap_Drop [v194, s0, v155] h14 fun v197 h35 =>
                Vb (ext 0 v197) fun v198 =>
                Vb (ext 1 v197) fun v199 =>
                J5 v199 v198 h35)))) (
          Vb (fa 1 v2) fun v26 =>
          Vb (lda 4 v26 h12) fun v27 =>
          Vb (fa 2 v1) fun v29 =>
          Vb (ldc v29 h12) fun v30 =>
          Vb (fa 3 v1) fun v31 =>
          Vb (ldc v31 h12) fun v32 =>
          S.C I.f_heap_Heap_Push [v27, s0, v30, v32] h12 fun v33 h36 =>
          Vb (ext 0 v33) fun v34 =>
          Vb (ext 1 v33) fun v35 =>
          Jn1 (fun v51 h37 =>
              Br v51 (
                Jn0 (fun h38 =>
                    R (.tuple #[]) h38) fun J8 =>
                Vb (bin .eql v34 (Value.int IntKind.i64 0)) fun v53 =>
                Br v53 (
                  Vb (bin .eql v35 (Value.int IntKind.i64 9)) fun v56 =>
                  Sb (sto 1 v3 v56 h37) fun h39 =>
                  J8 h39) (
                  Sb (sto 1 v3 (Value.bool false) h37) fun h40 =>
                  J8 h40)) (
                Vb (fa 1 v2) fun v59 =>
                Vb (fa 0 v59) fun v60 =>
                Vb (lda 3 v60 h37) fun v61 =>
                S.C I.f_pool_Pool_Node [v61, v34] h37 fun v63 h41 =>
                Vb (ext 0 v63) fun v64 =>
                Vb (ext 1 v63) fun v65 =>
                Jn0 (fun h42 =>
                    Vb (fa 6 v2) fun v71 =>
                    Vb (ldc v71 h42) fun v72 =>
                    Vb (lnS v72) fun v73 =>
                    Vb (fa 5 v2) fun v74 =>
                    Vb (ldc v74 h42) fun v75 =>
                    Vb (fa 2 v1) fun v76 =>
                    Vb (ldc v76 h42) fun v77 =>
                    Vb (fa 3 v1) fun v78 =>
                    Vb (ldc v78 h42) fun v79 =>
                    Vb (bldS [(0, 1), (1, 1), (2, 1), (3, 1)] #[Value.int IntKind.i64 0, Value.int IntKind.i64 0, Value.int IntKind.i64 0, Value.int IntKind.i64 0] [(0, v77), (1, v79), (2, v73), (3, v73)]) fun v82 =>
                    S.C I.f_simulcastref38_Put [v75, v82] h42 fun v83 h43 =>
                    Vb (fa 5 v2) fun v84 =>
                    Sb (sto 1 v84 v83 h43) fun h44 =>
                    Vb (fa 6 v2) fun v85 =>
                    Vb (ldc v85 h44) fun v86 =>
                    S.C I.f_slices_Clone_int64_int64 [v86] h44 fun v87 h45 =>
                    Eb (bsl #[Value.int IntKind.i64 0] 1 1 I.t_int64 [(0, v34)] h45) fun v89 h46 =>
                    Ap I.t_int64 #[Value.int IntKind.i64 0] 1 8 v87 v89 h46 fun v90 h47 =>
                    Vb (fa 6 v2) fun v91 =>
                    Sb (sto 1 v91 v90 h47) fun h48 =>
                    R (.tuple #[]) h48) fun J9 =>
                Vb (bin .eql v35 (Value.int IntKind.i64 0)) fun v67 =>
                Br v67 (
                  Sb (sto 1 v3 v65 h41) fun h49 =>
                  J9 h49) (
                  Sb (sto 1 v3 (Value.bool false) h41) fun h50 =>
                  J9 h50))) fun J7 =>
          Vb (fa 5 v2) fun v36 =>
          Vb (ldc v36 h36) fun v37 =>
          Vb (lnS v37) fun v38 =>
          Vb (bin .geq v38 (Value.int IntKind.i64 32)) fun v39 =>
          Br v39 (
            J7 (Value.bool true) h36) (
            Vb (fa 5 v2) fun v41 =>
            Vb (ldc v41 h36) fun v42 =>
            Vb (lnS v42) fun v43 =>
            Vb (bin .add v43 (Value.int IntKind.i64 1)) fun v44 =>
            Vb (fa 1 v2) fun v46 =>
            Vb (fa 0 v46) fun v47 =>
            Vb (fa 2 v47) fun v48 =>
            Vb (ldc v48 h36) fun v49 =>
            S.C I.f_simulcastref38_Nodes [v44] h36 fun v45 h51 =>
            ldc v48 h51 = some v49 ∧
            Vb (bin .gtr v45 v49) fun v50 =>
            J7 v50 h51))) fun J2 =>
    Vb (bin .eql v24 (Value.int IntKind.u8 4)) fun v141 =>
    Br v141 (
      J2 v141 h) (
      Vb (bin .eql v24 (Value.int IntKind.u8 5)) fun v142 =>
      J2 v142 h))

def F_simulcastref38_Without (S : Sys) (I : Ids) (l0 i1 : Value) (h : Hp) (R : Value → Hp → Prop) : Prop :=
  Vb (slc 4 l0 none (some i1) none) fun v9 =>
  Ap I.t_simulcastref38_Item #[Value.int IntKind.i64 0, Value.int IntKind.i64 0, Value.int IntKind.i64 0, Value.int IntKind.i64 0] 4 32 (Value.slice none 0 0) v9 h fun v10 h1 =>
  Vb (bin .add i1 (Value.int IntKind.i64 1)) fun v14 =>
  Vb (slc 4 l0 (some v14) none none) fun v15 =>
  Ap I.t_simulcastref38_Item #[Value.int IntKind.i64 0, Value.int IntKind.i64 0, Value.int IntKind.i64 0, Value.int IntKind.i64 0] 4 32 v10 v15 h1 fun v16 h2 =>
  R v16 h2

def F_simulcastref38_Put (S : Sys) (I : Ids) (l0 x1 : Value) (h : Hp) (R : Value → Hp → Prop) : Prop :=
  Eb (nw (Value.cells x1) I.t_simulcastref38_Item h) fun x3 h1 =>
  Lp1 (Value.int IntKind.i64 0) h1 fun i5 h2 again0 =>
  Jn1 (fun v18 h3 =>
      Br v18 (
        Vb (bin .add i5 (Value.int IntKind.i64 1)) fun v20 =>
        again0 v20 h3) (
        Vb (slc 4 l0 none (some i5) none) fun v24 =>
        Ap I.t_simulcastref38_Item #[Value.int IntKind.i64 0, Value.int IntKind.i64 0, Value.int IntKind.i64 0, Value.int IntKind.i64 0] 4 32 (Value.slice none 0 0) v24 h3 fun v25 h4 =>
        Vb (lda 4 x3 h4) fun v27 =>
        Eb (bsl #[Value.int IntKind.i64 0, Value.int IntKind.i64 0, Value.int IntKind.i64 0, Value.int IntKind.i64 0] 4 1 I.t_simulcastref38_Item [(0, v27)] h4) fun v28 h5 =>
        Ap I.t_simulcastref38_Item #[Value.int IntKind.i64 0, Value.int IntKind.i64 0, Value.int IntKind.i64 0, Value.int IntKind.i64 0] 4 32 v25 v28 h5 fun v29 h6 =>
        Vb (slc 4 l0 (some i5) none none) fun v33 =>
        Ap I.t_simulcastref38_Item #[Value.int IntKind.i64 0, Value.int IntKind.i64 0, Value.int IntKind.i64 0, Value.int IntKind.i64 0] 4 32 v29 v33 h6 fun v34 h7 =>
        R v34 h7)) fun J0 =>
  Vb (lnS l0) fun v9 =>
  Vb (bin .lss i5 v9) fun v10 =>
  Br v10 (
    Vb (ixs 4 l0 i5) fun v14 =>
    Vb (lda 4 v14 h2) fun v15 =>
    Vb (lda 4 x3 h2) fun v16 =>
    S.C I.f_simulcastref38_ahead [v15, v16] h2 fun v17 h8 =>
    J0 v17 h8) (
    J0 (Value.bool false) h2)

def F_simulcastref38_Nodes (S : Sys) (I : Ids) (n0 : Value) (h : Hp) (R : Value → Hp → Prop) : Prop :=
  Vb (bin .add n0 (Value.int IntKind.i64 7)) fun v5 =>
  Vb (bin .quo v5 (Value.int IntKind.i64 8)) fun v6 =>
  Vb (bin .add n0 v6) fun v7 =>
  R v7 h

def F_slices_Clone_int64_int64 (S : Sys) (I : Ids) (s0 : Value) (h : Hp) (R : Value → Hp → Prop) : Prop :=
  Vb (pos? (eqS s0 (Value.slice none 0 0))) fun v4 =>
  Br v4 (
    R (Value.slice none 0 0) h) (
    Eb (bsl #[Value.int IntKind.i64 0] 1 0 I.t_int64 [] h) fun v5 h1 =>
    Ap I.t_int64 #[Value.int IntKind.i64 0] 1 8 v5 s0 h1 fun v7 h2 =>
    R v7 h2)

def F_simulcastlaw38_is_1 (S : Sys) (I : Ids) (s0 v1 v2 : Value) (h : Hp) (R : Value → Hp → Prop) : Prop :=
  Vb (fa 1 v1) fun v11 =>
  Vb (lda 4 v11 h) fun v12 =>
  S.C I.f_heap_Heap_Walk [v12, s0] h fun v14 h1 =>
  Vb (ext 0 v14) fun v15 =>
  Vb (ext 1 v14) fun v16 =>
  Vb (fa 1 v1) fun v18 =>
  Vb (lda 4 v18 h1) fun v19 =>
  S.C I.f_heap_Heap_Min [v19, s0] h1 fun v21 h2 =>
  Vb (ext 0 v21) fun v22 =>
  Vb (ext 1 v21) fun v23 =>
  Vb (ext 2 v21) fun v24 =>
  Jn0 (fun h3 =>
      Lp1 (Value.int IntKind.i64 0) h3 fun i9 h4 again0 =>
      Jn1 (fun v60 h5 =>
          Br v60 (
            Vb (ixs 2 v15 i9) fun v65 =>
            Vb (lda 2 v65 h5) fun v66 =>
            Vb (fa 5 v1) fun v67 =>
            Vb (ldc v67 h5) fun v68 =>
            Vb (ixs 4 v68 i9) fun v70 =>
            Vb (fa 0 v70) fun v71 =>
            Vb (ldc v71 h5) fun v72 =>
            Vb (fa 5 v1) fun v73 =>
            Vb (ldc v73 h5) fun v74 =>
            Vb (ixs 4 v74 i9) fun v76 =>
            Vb (fa 1 v76) fun v77 =>
            Vb (ldc v77 h5) fun v78 =>
            Vb (bldA 1 #[Value.int IntKind.i64 0, Value.int IntKind.i64 0] [(0, v72), (1, v78)]) fun v79 =>
            Vb (pos? (eqA [true, true] v66 v79)) fun v80 =>
            Sb (sto 1 v2 v80 h5) fun h6 =>
            Vb (bin .add i9 (Value.int IntKind.i64 1)) fun v62 =>
            again0 v62 h6) (
            Jn0 (fun h7 =>
                Vb (ldc v2 h7) fun v121 =>
                Br v121 (
                  S.C I.f_space_Space_Writes [s0] h7 fun v124 h8 =>
                  Vb (lnS v124) fun v125 =>
                  Vb (bin .eql v125 (Value.int IntKind.i64 0)) fun v126 =>
                  Sb (sto 1 v2 v126 h8) fun h9 =>
                  R (.tuple #[]) h9) (
                  Sb (sto 1 v2 (Value.bool false) h7) fun h10 =>
                  R (.tuple #[]) h10)) fun J2 =>
            Vb (fa 5 v1) fun v81 =>
            Vb (ldc v81 h5) fun v82 =>
            Vb (lnS v82) fun v83 =>
            Vb (bin .eql v83 (Value.int IntKind.i64 0)) fun v84 =>
            Br v84 (
              Vb (ldc v2 h5) fun v85 =>
              Br v85 (
                Vb (bin .eql v22 (Value.int IntKind.i64 0)) fun v88 =>
                Br v88 (
                  Vb (bin .eql v23 (Value.int IntKind.i64 0)) fun v92 =>
                  Br v92 (
                    Vb (bin .eql v24 (Value.int IntKind.i64 8)) fun v96 =>
                    Sb (sto 1 v2 v96 h5) fun h11 =>
                    J2 h11) (
                    Sb (sto 1 v2 (Value.bool false) h5) fun h12 =>
                    J2 h12)) (
                  Sb (sto 1 v2 (Value.bool false) h5) fun h13 =>
                  J2 h13)) (
                Sb (sto 1 v2 (Value.bool false) h5) fun h14 =>
                J2 h14)) (
              Vb (ldc v2 h5) fun v98 =>
              Br v98 (
                Vb (fa 5 v1) fun v101 =>
                Vb (ldc v101 h5) fun v102 =>
                Vb (ixs 4 v102 (Value.int IntKind.i64 0)) fun v103 =>
                Vb (fa 0 v103) fun v104 =>
                Vb (ldc v104 h5) fun v105 =>
                Vb (bin .eql v22 v105) fun v106 =>
                Br v106 (
                  Vb (fa 5 v1) fun v110 =>
                  Vb (ldc v110 h5) fun v111 =>
                  Vb (ixs 4 v111 (Value.int IntKind.i64 0)) fun v112 =>
                  Vb (fa 1 v112) fun v113 =>
                  Vb (ldc v113 h5) fun v114 =>
                  Vb (bin .eql v23 v114) fun v115 =>
                  Br v115 (
                    Vb (bin .eql v24 (Value.int IntKind.i64 0)) fun v119 =>
                    Sb (sto 1 v2 v119 h5) fun h15 =>
                    J2 h15) (
                    Sb (sto 1 v2 (Value.bool false) h5) fun h16 =>
                    J2 h16)) (
                  Sb (sto 1 v2 (Value.bool false) h5) fun h17 =>
                  J2 h17)) (
                Sb (sto 1 v2 (Value.bool false) h5) fun h18 =>
                J2 h18)))) fun J1 =>
      Vb (ldc v2 h4) fun v54 =>
      Br v54 (
        Vb (lnS v15) fun v58 =>
        Vb (bin .lss i9 v58) fun v59 =>
        J1 v59 h4) (
        J1 (Value.bool false) h4)) fun J0 =>
  Vb (bin .eql v16 (Value.int IntKind.i64 0)) fun v26 =>
  Br v26 (
    Vb (lnS v15) fun v29 =>
    Vb (fa 5 v1) fun v30 =>
    Vb (ldc v30 h2) fun v31 =>
    Vb (lnS v31) fun v32 =>
    Vb (bin .eql v29 v32) fun v33 =>
    Br v33 (
      Vb (fa 1 v1) fun v36 =>
      Vb (lda 4 v36 h2) fun v37 =>
      Vb (fa 5 v1) fun v40 =>
      Vb (ldc v40 h2) fun v41 =>
      Vb (lnS v41) fun v42 =>
      S.C I.f_heap_Heap_Len [v37, s0] h2 fun v39 h19 =>
      ldc v40 h19 = some v41 ∧
      Vb (bin .eql v39 v42) fun v43 =>
      Br v43 (
        Vb (fa 5 v1) fun v48 =>
        Vb (ldc v48 h19) fun v49 =>
        Vb (lnS v49) fun v50 =>
        S.C I.f_space_Space_Get [s0, (Value.int IntKind.i64 23)] h19 fun v47 h20 =>
        ldc v48 h20 = some v49 ∧
        S.C I.f_simulcastref38_Nodes [v50] h20 fun v51 h21 =>
        Vb (bin .eql v47 v51) fun v52 =>
        Sb (sto 1 v2 v52 h21) fun h22 =>
        J0 h22) (
        Sb (sto 1 v2 (Value.bool false) h19) fun h23 =>
        J0 h23)) (
      Sb (sto 1 v2 (Value.bool false) h2) fun h24 =>
      J0 h24)) (
    Sb (sto 1 v2 (Value.bool false) h2) fun h25 =>
    J0 h25)

def F_space_Space_Reads (S : Sys) (I : Ids) (s0 : Value) (h : Hp) (R : Value → Hp → Prop) : Prop :=
  Vb (pos? (eqP s0 (Value.pointer none))) fun v6 =>
  Br v6 (
    R (Value.slice none 0 0) h) (
    Vb (nck s0) fun v9 =>
    Vb (fa 1 v9) fun v10 =>
    Vb (ldc v10 h) fun v11 =>
    Eb (rng v11 h) fun v12 h1 =>
    Lp1 (Value.slice none 0 0) h1 fun out3 h2 again0 =>
    Nx v12 h2 fun v13 h3 =>
    Vb (ext 0 v13) fun v14 =>
    Br v14 (
      Vb (ent v12 h3) fun v15 =>
      Vb (ext 0 v15) fun v16 =>
      Eb (bsl #[Value.int IntKind.i64 0] 1 1 I.t_api_Loc [(0, v16)] h3) fun v19 h4 =>
      Ap I.t_api_Loc #[Value.int IntKind.i64 0] 1 8 out3 v19 h4 fun v20 h5 =>
      again0 v20 h5) (
      S.C I.f_slices_Sort_api_Loc_api_Loc [out3] h3 fun v22 h6 =>
      R out3 h6))

def F_space_Space_value (S : Sys) (I : Ids) (s0 at1 : Value) (h : Hp) (R : Value → Hp → Prop) : Prop :=
  S.C I.f_space_Space_last [s0, at1] h fun v9 h1 =>
  Vb (bin .geq v9 (Value.int IntKind.i64 0)) fun v11 =>
  Br v11 (
    Vb (nck s0) fun v13 =>
    Vb (fa 2 v13) fun v14 =>
    Vb (ldc v14 h1) fun v15 =>
    Vb (ixs 2 v15 v9) fun v17 =>
    Vb (fa 1 v17) fun v18 =>
    Vb (ldc v18 h1) fun v19 =>
    R (.tuple #[v19, (Value.bool true)]) h1) (
    Vb (nck s0) fun v21 =>
    Vb (fa 0 v21) fun v22 =>
    Vb (ldc v22 h1) fun v23 =>
    Vb (lkm (.int .i64) (Value.agg #[Value.int IntKind.i64 0, Value.int IntKind.u32 0, Value.int IntKind.u32 0]) false v23 at1 h1) fun v25 =>
    Vb (fdc 0 v25) fun v26 =>
    R (.tuple #[v26, (Value.bool false)]) h1)

def F_entry_Check (S : Sys) (I : Ids) (l0 : Value) (h : Hp) (R : Value → Hp → Prop) : Prop :=
  Vb (lnS l0) fun v8 =>
  Vb (bin .eql v8 (Value.int IntKind.i64 0)) fun v9 =>
  Br v9 (
    R (Value.int IntKind.i64 8) h) (
    Vb (lnS l0) fun v12 =>
    Vb (bin .gtr v12 (Value.int IntKind.i64 32)) fun v13 =>
    Br v13 (
      R (Value.int IntKind.i64 15) h) (
      Vb (lnS l0) fun v15 =>
      Lp1 (Value.int IntKind.i64 0) h fun v16 h1 again0 =>
      Vb (bin .lss v16 v15) fun v17 =>
      Br v17 (
        Vb (ixs 6 l0 v16) fun v19 =>
        Vb (lda 6 v19 h1) fun v20 =>
        Eb (nw #[Value.int IntKind.i64 0, Value.int IntKind.i64 0, Value.int IntKind.u32 0, Value.int IntKind.u32 0, Value.int IntKind.i64 0, Value.bool false] I.t_api_Entry h1) fun x4 h2 =>
        Sb (sto 6 x4 v20 h2) fun h3 =>
        Vb (lda 6 x4 h3) fun v21 =>
        S.C I.f_entry_wrong [v21] h3 fun v22 h4 =>
        Vb (bin .neq v22 (Value.int IntKind.i64 0)) fun v24 =>
        Br v24 (
          R v22 h4) (
          Vb (slc 6 l0 none (some v16) none) fun v28 =>
          Vb (some (.func (.func I.f_entry_Check_1) #[] #[x4])) fun v29 =>
          S.C I.f_slices_ContainsFunc_api_Entry_api_Entry [v28, v29] h4 fun v30 h5 =>
          Br v30 (
            R (Value.int IntKind.i64 11) h5) (
            Vb (bin .add v16 (Value.int IntKind.i64 1)) fun v31 =>
            again0 v31 h5))) (
        R (Value.int IntKind.i64 0) h1)))

def F_slices_Sort_api_Loc_api_Loc (S : Sys) (I : Ids) (x0 : Value) (h : Hp) (R : Value → Hp → Prop) : Prop :=
  Vb (lnS x0) fun v4 =>
  Vb (cvi .u64 v4) fun v8 =>
  S.C I.f_math_bits_Len [v8] h fun v9 h1 =>
  S.C I.f_slices_pdqsortOrdered_api_Loc [x0, (Value.int IntKind.i64 0), v4, v9] h1 fun v10 h2 =>
  R (.tuple #[]) h2

def F_slices_Compact_api_Loc_api_Loc (S : Sys) (I : Ids) (s0 : Value) (h : Hp) (R : Value → Hp → Prop) : Prop :=
  Vb (lnS s0) fun v7 =>
  Vb (bin .lss v7 (Value.int IntKind.i64 2)) fun v8 =>
  Br v8 (
    R s0 h) (
    Lp1 (Value.int IntKind.i64 1) h fun k3 h1 again0 =>
    Vb (lnS s0) fun v12 =>
    Vb (bin .lss k3 v12) fun v13 =>
    Br v13 (
      Vb (ixs 1 s0 k3) fun v18 =>
      Vb (ldc v18 h1) fun v19 =>
      Vb (bin .sub k3 (Value.int IntKind.i64 1)) fun v22 =>
      Vb (ixs 1 s0 v22) fun v23 =>
      Vb (ldc v23 h1) fun v24 =>
      Vb (bin .eql v19 v24) fun v25 =>
      Br v25 (
        Vb (slc 1 s0 (some k3) none none) fun v28 =>
        Lp2 k3 (Value.int IntKind.i64 1) h1 fun k3_1 k25 h2 again1 =>
        Vb (lnS v28) fun v31 =>
        Vb (bin .lss k25 v31) fun v32 =>
        Br v32 (
          Jn1 (fun k3_2 h3 =>
              Vb (bin .add k25 (Value.int IntKind.i64 1)) fun v34 =>
              again1 k3_2 v34 h3) fun J0 =>
          Vb (ixs 1 v28 k25) fun v37 =>
          Vb (ldc v37 h2) fun v38 =>
          Vb (bin .sub k25 (Value.int IntKind.i64 1)) fun v41 =>
          Vb (ixs 1 v28 v41) fun v42 =>
          Vb (ldc v42 h2) fun v43 =>
          Vb (bin .neq v38 v43) fun v44 =>
          Br v44 (
            Vb (ixs 1 v28 k25) fun v49 =>
            Vb (ldc v49 h2) fun v50 =>
            Vb (ixs 1 s0 k3_1) fun v51 =>
            Sb (sto 1 v51 v50 h2) fun h4 =>
            Vb (bin .add k3_1 (Value.int IntKind.i64 1)) fun v53 =>
            J0 v53 h4) (
            J0 k3_1 h2)) (
          Vb (slc 1 s0 (some k3_1) none none) fun v56 =>
          Eb (clrS #[Value.int IntKind.i64 0] v56 h2) fun _ h5 =>
          Vb (slc 1 s0 none (some k3_1) none) fun v59 =>
          R v59 h5)) (
        Vb (bin .add k3 (Value.int IntKind.i64 1)) fun v15 =>
        again0 v15 h1)) (
      R s0 h1))

def F_space_Space_reads (S : Sys) (I : Ids) (s0 at1 : Value) (h : Hp) (R : Value → Hp → Prop) : Prop :=
  S.C I.f_space_Space_Ended [s0] h fun v8 h1 =>
  Br v8 (
    R (Value.bool false) h1) (
    Vb (nck s0) fun v11 =>
    Vb (fa 0 v11) fun v12 =>
    Vb (ldc v12 h1) fun v13 =>
    Vb (lkm (.int .i64) (Value.agg #[Value.int IntKind.i64 0, Value.int IntKind.u32 0, Value.int IntKind.u32 0]) true v13 at1 h1) fun v15 =>
    Vb (ext 0 v15) fun v16 =>
    Vb (ext 1 v15) fun v17 =>
    Eb (nw #[Value.int IntKind.i64 0, Value.int IntKind.u32 0, Value.int IntKind.u32 0] I.t_api_Word h1) fun v5 h2 =>
    Sb (sto 3 v5 v16 h2) fun h3 =>
    Vb (uno .not v17) fun v19 =>
    Br v19 (
      Vb (nck s0) fun v23 =>
      Vb (fa 4 v23) fun v24 =>
      Sb (sto 1 v24 (Value.bool true) h3) fun h4 =>
      Vb (nck s0) fun v25 =>
      Vb (fa 3 v25) fun v26 =>
      Sb (sto 1 v26 at1 h4) fun h5 =>
      R (Value.bool false) h5) (
      Vb (nck s0) fun v28 =>
      Vb (fa 1 v28) fun v29 =>
      Vb (ldc v29 h3) fun v30 =>
      Sb (mup (.int .i64) v30 at1 (Value.bool true) h3) fun h6 =>
      R (Value.bool true) h6))

def F_heap_work_row (S : Sys) (I : Ids) (w0 at1 : Value) (h : Hp) (R : Value → Hp → Prop) : Prop :=
  Vb (bin .sub at1 (Value.int IntKind.i64 1)) fun v9 =>
  Vb (bin .quo v9 (Value.int IntKind.i64 8)) fun v10 =>
  Vb (bin .add (Value.int IntKind.i64 3) v10) fun v11 =>
  S.C I.f_heap_work_root [w0, v11] h fun v12 h1 =>
  S.C I.f_heap_work_node [w0, v12] h1 fun v13 h2 =>
  Vb (bin .sub at1 (Value.int IntKind.i64 1)) fun v15 =>
  Vb (bin .rem v15 (Value.int IntKind.i64 8)) fun v16 =>
  R (.tuple #[v13, v16]) h2

def F_heap_work_node (S : Sys) (I : Ids) (w0 n1 : Value) (h : Hp) (R : Value → Hp → Prop) : Prop :=
  Vb (nck w0) fun v11 =>
  Vb (fa 0 v11) fun v12 =>
  Vb (fa 0 v12) fun v13 =>
  Vb (lda 3 v13 h) fun v14 =>
  S.C I.f_pool_Pool_Node [v14, n1] h fun v16 h1 =>
  Vb (ext 0 v16) fun v17 =>
  Vb (ext 1 v16) fun v18 =>
  Vb (uno .not v18) fun v20 =>
  Br v20 (
    Vb (nck w0) fun v22 =>
    Vb (fa 5 v22) fun v23 =>
    Sb (sto 1 v23 (Value.bool true) h1) fun h2 =>
    R (Value.int IntKind.i64 0) h2) (
    R n1 h1)

def F_slices_stableCmpFunc_api_Loc (S : Sys) (I : Ids) (data0 n1 cmp2 : Value) (h : Hp) (R : Value → Hp → Prop) : Prop :=
  Lp2 (Value.int IntKind.i64 0) (Value.int IntKind.i64 20) h fun a7 b8 h1 again0 =>
  Vb (bin .leq b8 n1) fun v13 =>
  Br v13 (
    S.C I.f_slices_insertionSortCmpFunc_api_Loc [data0, a7, b8, cmp2] h1 fun v18 h2 =>
    Vb (bin .add b8 (Value.int IntKind.i64 20)) fun v22 =>
    again0 b8 v22 h2) (
    S.C I.f_slices_insertionSortCmpFunc_api_Loc [data0, a7, n1, cmp2] h1 fun v27 h3 =>
    Lp1 (Value.int IntKind.i64 20) h3 fun blockSize6 h4 again1 =>
    Vb (bin .lss blockSize6 n1) fun v30 =>
    Br v30 (
      Vb (bin .mul (Value.int IntKind.i64 2) blockSize6) fun v32 =>
      Lp2 (Value.int IntKind.i64 0) v32 h4 fun a7_1 b8_1 h5 again2 =>
      Vb (bin .leq b8_1 n1) fun v35 =>
      Br v35 (
        Vb (bin .add a7_1 blockSize6) fun v40 =>
        S.C I.f_slices_symMergeCmpFunc_api_Loc [data0, a7_1, v40, b8_1, cmp2] h5 fun v43 h6 =>
        Vb (bin .mul (Value.int IntKind.i64 2) blockSize6) fun v47 =>
        Vb (bin .add b8_1 v47) fun v48 =>
        again2 b8_1 v48 h6) (
        Jn0 (fun h7 =>
            Vb (bin .mul blockSize6 (Value.int IntKind.i64 2)) fun v62 =>
            again1 v62 h7) fun J0 =>
        Vb (bin .add a7_1 blockSize6) fun v51 =>
        Vb (bin .lss v51 n1) fun v54 =>
        Br v54 (
          S.C I.f_slices_symMergeCmpFunc_api_Loc [data0, a7_1, v51, n1, cmp2] h5 fun v60 h8 =>
          J0 h8) (
          J0 h5))) (
      R (.tuple #[]) h4))

def F_space_Space_Back (S : Sys) (I : Ids) (s0 mark1 : Value) (h : Hp) (R : Value → Hp → Prop) : Prop :=
  Jn1 (fun v19 h1 =>
      Br v19 (
        Vb (nck s0) fun v22 =>
        Vb (fa 2 v22) fun v23 =>
        Vb (ldc v23 h1) fun v24 =>
        Vb (slc 2 v24 none (some mark1) (some mark1)) fun v27 =>
        Vb (nck s0) fun v28 =>
        Vb (fa 2 v28) fun v29 =>
        Sb (sto 1 v29 v27 h1) fun h2 =>
        R (.tuple #[]) h2) (
        R (.tuple #[]) h1)) fun J0 =>
  S.C I.f_space_Space_Ended [s0] h fun v5 h3 =>
  Vb (uno .not v5) fun v6 =>
  Br v6 (
    Vb (bin .geq mark1 (Value.int IntKind.i64 0)) fun v9 =>
    Br v9 (
      Vb (nck s0) fun v14 =>
      Vb (fa 2 v14) fun v15 =>
      Vb (ldc v15 h3) fun v16 =>
      Vb (lnS v16) fun v17 =>
      Vb (bin .leq mark1 v17) fun v18 =>
      J0 v18 h3) (
      J0 (Value.bool false) h3)) (
    J0 (Value.bool false) h3)

def F_pool_Pool_Take (S : Sys) (I : Ids) (p0 s1 : Value) (h : Hp) (R : Value → Hp → Prop) : Prop :=
  Eb (nw (Value.cells p0) I.t_pool_Pool h) fun p2 h1 =>
  Vb (lda 3 p2 h1) fun v12 =>
  S.C I.f_pool_Pool_Check [v12] h1 fun v13 h2 =>
  Vb (bin .neq v13 (Value.int IntKind.i64 0)) fun v15 =>
  Br v15 (
    R (.tuple #[(Value.int IntKind.i64 0), v13]) h2) (
    Vb (fa 0 p2) fun v18 =>
    Vb (ldc v18 h2) fun v19 =>
    S.C I.f_space_Space_Get [s1, v19] h2 fun v20 h3 =>
    Vb (bin .neq v20 (Value.int IntKind.i64 0)) fun v22 =>
    Br v22 (
      Vb (lda 3 p2 h3) fun v25 =>
      S.C I.f_pool_Pool_Node [v25, v20] h3 fun v27 h4 =>
      Vb (ext 0 v27) fun v28 =>
      Vb (ext 1 v27) fun v29 =>
      Vb (uno .not v29) fun v31 =>
      Br v31 (
        R (.tuple #[(Value.int IntKind.i64 0), (Value.int IntKind.i64 24)]) h4) (
        Vb (fa 0 p2) fun v33 =>
        Vb (ldc v33 h4) fun v34 =>
        S.C I.f_space_Space_Get [s1, v20] h4 fun v37 h5 =>
        ldc v33 h5 = some v34 ∧
        S.C I.f_space_Space_Put [s1, v34, v37] h5 fun v38 h6 =>
        Vb (lda 3 p2 h6) fun v39 =>
        S.C I.f_pool_Pool_add [v39, s1, (Value.int IntKind.i64 2), (Value.int IntKind.i64 (-1))] h6 fun v41 h7 =>
        R (.tuple #[v20, (Value.int IntKind.i64 0)]) h7)) (
      Vb (fa 0 p2) fun v44 =>
      Vb (ldc v44 h3) fun v45 =>
      Vb (bin .add v45 (Value.int IntKind.i64 1)) fun v46 =>
      S.C I.f_space_Space_Get [s1, v46] h3 fun v47 h8 =>
      Jn1 (fun v55 h9 =>
          Br v55 (
            R (.tuple #[(Value.int IntKind.i64 0), (Value.int IntKind.i64 9)]) h9) (
            Vb (fa 0 p2) fun v57 =>
            Vb (ldc v57 h9) fun v58 =>
            Vb (bin .add v58 (Value.int IntKind.i64 1)) fun v59 =>
            Vb (bin .add v47 (Value.int IntKind.i64 1)) fun v61 =>
            S.C I.f_space_Space_Put [s1, v59, v61] h9 fun v62 h10 =>
            Vb (fa 1 p2) fun v63 =>
            Vb (ldc v63 h10) fun v64 =>
            Vb (bin .mul (Value.int IntKind.i64 8) v47) fun v66 =>
            Vb (bin .add v64 v66) fun v67 =>
            R (.tuple #[v67, (Value.int IntKind.i64 0)]) h10)) fun J0 =>
      Vb (bin .lss v47 (Value.int IntKind.i64 0)) fun v49 =>
      Br v49 (
        J0 (Value.bool true) h8) (
        Vb (fa 2 p2) fun v52 =>
        Vb (ldc v52 h8) fun v53 =>
        Vb (bin .geq v47 v53) fun v54 =>
        J0 v54 h8)))

def F_heap_work_lay (S : Sys) (I : Ids) (w0 at1 item2 : Value) (h : Hp) (R : Value → Hp → Prop) : Prop :=
  S.C I.f_heap_work_row [w0, at1] h fun v11 h1 =>
  Vb (ext 0 v11) fun v12 =>
  Vb (ext 1 v11) fun v13 =>
  S.C I.f_heap_work_put [w0, v12, v13, item2] h1 fun v18 h2 =>
  S.C I.f_heap_work_put [w0, item2, (Value.int IntKind.i64 3), at1] h2 fun v22 h3 =>
  R (.tuple #[]) h3

def F_heap_work_sink (S : Sys) (I : Ids) (w0 at1 item2 n3 : Value) (h : Hp) (R : Value → Hp → Prop) : Prop :=
  S.C I.f_heap_work_key [w0, item2] h fun v14 h1 =>
  Eb (nw #[Value.int IntKind.i64 0, Value.int IntKind.i64 0] I.t_heap_key h1) fun own8 h2 =>
  Sb (sto 2 own8 v14 h2) fun h3 =>
  Jn1 (fun at1_1 h4 =>
      S.C I.f_heap_work_lay [w0, at1_1, item2] h4 fun v62 h5 =>
      R (.tuple #[]) h5) fun J0 =>
  Lp1 at1 h3 fun at1_2 h6 again0 =>
  Jn1 (fun v25 h7 =>
      Br v25 (
        Vb (bin .mul (Value.int IntKind.i64 2) at1_2) fun v27 =>
        S.C I.f_heap_work_item [w0, v27] h7 fun v30 h8 =>
        Jn2 (fun kid9 x10 h9 =>
            Vb (lda 2 own8 h9) fun v51 =>
            S.C I.f_heap_work_key [w0, x10] h9 fun v50 h10 =>
            lda 2 own8 h10 = some v51 ∧
            S.C I.f_heap_ahead [v50, v51] h10 fun v52 h11 =>
            Vb (uno .not v52) fun v53 =>
            Br v53 (
              J0 at1_2 h11) (
              S.C I.f_heap_work_lay [w0, at1_2, x10] h11 fun v57 h12 =>
              again0 kid9 h12)) fun J2 =>
        Vb (bin .lss v27 n3) fun v33 =>
        Br v33 (
          Vb (bin .add v27 (Value.int IntKind.i64 1)) fun v36 =>
          S.C I.f_heap_work_item [w0, v36] h8 fun v37 h13 =>
          S.C I.f_heap_work_key [w0, v37] h13 fun v40 h14 =>
          S.C I.f_heap_work_key [w0, v30] h14 fun v43 h15 =>
          S.C I.f_heap_ahead [v40, v43] h15 fun v44 h16 =>
          Br v44 (
            Vb (bin .add v27 (Value.int IntKind.i64 1)) fun v46 =>
            J2 v46 v37 h16) (
            J2 v27 v30 h16)) (
          J2 v27 v30 h8)) (
        J0 at1_2 h7)) fun J1 =>
  Vb (bin .mul (Value.int IntKind.i64 2) at1_2) fun v16 =>
  Vb (bin .leq v16 n3) fun v18 =>
  Br v18 (
    Vb (nck w0) fun v21 =>
    Vb (fa 5 v21) fun v22 =>
    Vb (ldc v22 h6) fun v23 =>
    Vb (uno .not v23) fun v24 =>
    J1 v24 h6) (
    J1 (Value.bool false) h6)

def F_heap_work_give (S : Sys) (I : Ids) (w0 at1 : Value) (h : Hp) (R : Value → Hp → Prop) : Prop :=
  Vb (nck w0) fun v7 =>
  Vb (fa 0 v7) fun v8 =>
  Vb (fa 0 v8) fun v9 =>
  Vb (lda 3 v9 h) fun v10 =>
  Vb (nck w0) fun v12 =>
  Vb (fa 4 v12) fun v13 =>
  Vb (ldc v13 h) fun v14 =>
  S.C I.f_pool_Pool_Give [v10, v14, at1] h fun v16 h1 =>
  Jn0 (fun h2 =>
      R v16 h2) fun J0 =>
  Vb (bin .eql v16 (Value.int IntKind.i64 0)) fun v18 =>
  Br v18 (
    S.C I.f_heap_work_add [w0, (Value.int IntKind.i64 7), (Value.int IntKind.i64 (-1))] h1 fun v20 h3 =>
    J0 h3) (
    J0 h1)

def F_simulcastref38_ahead (S : Sys) (I : Ids) (a0 b1 : Value) (h : Hp) (R : Value → Hp → Prop) : Prop :=
  Eb (nw (Value.cells a0) I.t_simulcastref38_Item h) fun a2 h1 =>
  Eb (nw (Value.cells b1) I.t_simulcastref38_Item h1) fun b3 h2 =>
  Vb (fa 0 a2) fun v5 =>
  Vb (ldc v5 h2) fun v6 =>
  Vb (fa 0 b3) fun v7 =>
  Vb (ldc v7 h2) fun v8 =>
  Vb (bin .neq v6 v8) fun v9 =>
  Br v9 (
    Vb (fa 0 a2) fun v10 =>
    Vb (ldc v10 h2) fun v11 =>
    Vb (fa 0 b3) fun v12 =>
    Vb (ldc v12 h2) fun v13 =>
    Vb (bin .lss v11 v13) fun v14 =>
    R v14 h2) (
    Vb (fa 2 a2) fun v15 =>
    Vb (ldc v15 h2) fun v16 =>
    Vb (fa 2 b3) fun v17 =>
    Vb (ldc v17 h2) fun v18 =>
    Vb (bin .lss v16 v18) fun v19 =>
    R v19 h2)

def F_space_Space_last (S : Sys) (I : Ids) (s0 at1 : Value) (h : Hp) (R : Value → Hp → Prop) : Prop :=
  Vb (nck s0) fun v7 =>
  Vb (fa 2 v7) fun v8 =>
  Vb (ldc v8 h) fun v9 =>
  Vb (lnS v9) fun v10 =>
  Vb (bin .sub v10 (Value.int IntKind.i64 1)) fun v11 =>
  Lp1 v11 h fun i5 h1 again0 =>
  Vb (bin .geq i5 (Value.int IntKind.i64 0)) fun v13 =>
  Br v13 (
    Vb (nck s0) fun v17 =>
    Vb (fa 2 v17) fun v18 =>
    Vb (ldc v18 h1) fun v19 =>
    Vb (ixs 2 v19 i5) fun v21 =>
    Vb (fa 0 v21) fun v22 =>
    Vb (ldc v22 h1) fun v23 =>
    Vb (bin .eql v23 at1) fun v25 =>
    Br v25 (
      R i5 h1) (
      Vb (bin .sub i5 (Value.int IntKind.i64 1)) fun v15 =>
      again0 v15 h1)) (
    R (Value.int IntKind.i64 (-1)) h1)

def F_entry_wrong (S : Sys) (I : Ids) (x0 : Value) (h : Hp) (R : Value → Hp → Prop) : Prop :=
  Eb (nw (Value.cells x0) I.t_api_Entry h) fun x1 h1 =>
  Jn1 (fun v3 h2 =>
      Br v3 (
        R (Value.int IntKind.i64 3) h2) (
        Vb (fa 1 x1) fun v13 =>
        Vb (lda 3 v13 h2) fun v14 =>
        S.C I.f_word_Plain [v14] h2 fun v15 h3 =>
        Vb (uno .not v15) fun v16 =>
        Br v16 (
          R (Value.int IntKind.i64 13) h3) (
          Jn1 (fun v17 h4 =>
              Br v17 (
                R (Value.int IntKind.i64 9) h4) (
                Jn1 (fun v26 h5 =>
                    Br v26 (
                      R (Value.int IntKind.i64 4) h5) (
                      R (Value.int IntKind.i64 0) h5)) fun J2 =>
                Vb (fa 5 x1) fun v27 =>
                Vb (ldc v27 h4) fun v28 =>
                Vb (uno .not v28) fun v29 =>
                Br v29 (
                  Vb (fa 4 x1) fun v31 =>
                  Vb (ldc v31 h4) fun v32 =>
                  Vb (fa 1 x1) fun v33 =>
                  Vb (fa 0 v33) fun v34 =>
                  Vb (ldc v34 h4) fun v35 =>
                  Vb (bin .neq v32 v35) fun v36 =>
                  J2 v36 h4) (
                  J2 (Value.bool false) h4))) fun J1 =>
          Vb (fa 5 x1) fun v18 =>
          Vb (ldc v18 h3) fun v19 =>
          Br v19 (
            Vb (fa 1 x1) fun v21 =>
            Vb (fa 1 v21) fun v22 =>
            Vb (ldc v22 h3) fun v23 =>
            Vb (bin .eql v23 (Value.int IntKind.u32 4294967295)) fun v24 =>
            J1 v24 h3) (
            J1 (Value.bool false) h3)))) fun J0 =>
  Vb (fa 0 x1) fun v4 =>
  Vb (ldc v4 h1) fun v5 =>
  Vb (bin .lss v5 (Value.int IntKind.i64 0)) fun v6 =>
  Br v6 (
    J0 (Value.bool true) h1) (
    Vb (fa 0 x1) fun v8 =>
    Vb (ldc v8 h1) fun v9 =>
    Vb (bin .geq v9 (Value.int IntKind.i64 4096)) fun v10 =>
    J0 v10 h1)

def F_slices_ContainsFunc_api_Entry_api_Entry (S : Sys) (I : Ids) (s0 f1 : Value) (h : Hp) (R : Value → Hp → Prop) : Prop :=
  S.C I.f_slices_IndexFunc_api_Entry_api_Entry [s0, f1] h fun v7 h1 =>
  Vb (bin .geq v7 (Value.int IntKind.i64 0)) fun v8 =>
  R v8 h1

def F_entry_Check_1 (S : Sys) (I : Ids) (y0 v1 : Value) (h : Hp) (R : Value → Hp → Prop) : Prop :=
  Eb (nw (Value.cells y0) I.t_api_Entry h) fun y2 h1 =>
  Vb (fa 0 y2) fun v4 =>
  Vb (ldc v4 h1) fun v5 =>
  Vb (fa 0 v1) fun v6 =>
  Vb (ldc v6 h1) fun v7 =>
  Vb (bin .eql v5 v7) fun v8 =>
  R v8 h1

def F_slices_pdqsortOrdered_api_Loc (S : Sys) (I : Ids) (data0 a1 b2 limit3 : Value) (h : Hp) (R : Value → Hp → Prop) : Prop :=
  Lp5 a1 b2 limit3 (Value.bool true) (Value.bool true) h fun a1_1 b2_1 limit3_1 wasBalanced8 wasPartitioned9 h1 again0 =>
  Vb (bin .sub b2_1 a1_1) fun v21 =>
  Vb (bin .leq v21 (Value.int IntKind.i64 12)) fun v23 =>
  Br v23 (
    S.C I.f_slices_insertionSortOrdered_api_Loc [data0, a1_1, b2_1] h1 fun v27 h2 =>
    R (.tuple #[]) h2) (
    Vb (bin .eql limit3_1 (Value.int IntKind.i64 0)) fun v29 =>
    Br v29 (
      S.C I.f_slices_heapSortOrdered_api_Loc [data0, a1_1, b2_1] h1 fun v33 h3 =>
      R (.tuple #[]) h3) (
      Jn1 (fun limit3_2 h4 =>
          S.C I.f_slices_choosePivotOrdered_api_Loc [data0, a1_1, b2_1] h4 fun v46 h5 =>
          Vb (ext 0 v46) fun v47 =>
          Vb (ext 1 v46) fun v48 =>
          Jn2 (fun pivot11 hint12 h6 =>
              Jn0 (fun h7 =>
                  Jn1 (fun v87 h8 =>
                      Br v87 (
                        S.C I.f_slices_partitionEqualOrdered_api_Loc [data0, a1_1, b2_1, pivot11] h8 fun v92 h9 =>
                        again0 v92 b2_1 limit3_2 wasBalanced8 wasPartitioned9 h9) (
                        S.C I.f_slices_partitionOrdered_api_Loc [data0, a1_1, b2_1, pivot11] h8 fun v99 h10 =>
                        Vb (ext 0 v99) fun v100 =>
                        Vb (ext 1 v99) fun v101 =>
                        Vb (bin .sub v100 a1_1) fun v105 =>
                        Vb (bin .sub b2_1 v100) fun v108 =>
                        Vb (bin .quo v21 (Value.int IntKind.i64 8)) fun v110 =>
                        Vb (bin .lss v105 v108) fun v113 =>
                        Br v113 (
                          Vb (bin .geq v105 v110) fun v116 =>
                          S.C I.f_slices_pdqsortOrdered_api_Loc [data0, a1_1, v100, limit3_2] h10 fun v121 h11 =>
                          Vb (bin .add v100 (Value.int IntKind.i64 1)) fun v123 =>
                          again0 v123 b2_1 limit3_2 v116 v101 h11) (
                          Vb (bin .geq v108 v110) fun v126 =>
                          Vb (bin .add v100 (Value.int IntKind.i64 1)) fun v129 =>
                          S.C I.f_slices_pdqsortOrdered_api_Loc [data0, v129, b2_1, limit3_2] h10 fun v132 h12 =>
                          again0 a1_1 v100 limit3_2 v126 v101 h12))) fun J3 =>
                  Vb (bin .gtr a1_1 (Value.int IntKind.i64 0)) fun v74 =>
                  Br v74 (
                    Vb (bin .sub a1_1 (Value.int IntKind.i64 1)) fun v78 =>
                    Vb (ixs 1 data0 v78) fun v79 =>
                    Vb (ldc v79 h7) fun v80 =>
                    Vb (ixs 1 data0 pivot11) fun v83 =>
                    Vb (ldc v83 h7) fun v84 =>
                    S.C I.f_cmp_Less_api_Loc [v80, v84] h7 fun v85 h13 =>
                    Vb (uno .not v85) fun v86 =>
                    J3 v86 h13) (
                    J3 (Value.bool false) h7)) fun J2 =>
              Jn1 (fun v68 h14 =>
                  Br v68 (
                    S.C I.f_slices_partialInsertionSortOrdered_api_Loc [data0, a1_1, b2_1] h14 fun v72 h15 =>
                    Br v72 (
                      R (.tuple #[]) h15) (
                      J2 h15)) (
                    J2 h14)) fun J4 =>
              Br wasBalanced8 (
                Br wasPartitioned9 (
                  Vb (bin .eql hint12 (Value.int IntKind.i64 1)) fun v67 =>
                  J4 v67 h6) (
                  J4 (Value.bool false) h6)) (
                J4 (Value.bool false) h6)) fun J1 =>
          Vb (bin .eql v48 (Value.int IntKind.i64 2)) fun v50 =>
          Br v50 (
            S.C I.f_slices_reverseRangeOrdered_api_Loc [data0, a1_1, b2_1] h5 fun v54 h16 =>
            Vb (bin .sub b2_1 (Value.int IntKind.i64 1)) fun v56 =>
            Vb (bin .sub v47 a1_1) fun v59 =>
            Vb (bin .sub v56 v59) fun v60 =>
            J1 v60 (Value.int IntKind.i64 1) h16) (
            J1 v47 v48 h5)) fun J0 =>
      Vb (uno .not wasBalanced8) fun v35 =>
      Br v35 (
        S.C I.f_slices_breakPatternsOrdered_api_Loc [data0, a1_1, b2_1] h1 fun v39 h17 =>
        Vb (bin .sub limit3_1 (Value.int IntKind.i64 1)) fun v41 =>
        J0 v41 h17) (
        J0 limit3_1 h1)))

def F_math_bits_Len (S : Sys) (I : Ids) (x0 : Value) (h : Hp) (R : Value → Hp → Prop) : Prop :=
  S.C I.f_math_bits_Len64 [x0] h fun v7 h1 =>
  R v7 h1

def F_slices_insertionSortCmpFunc_api_Loc (S : Sys) (I : Ids) (data0 a1 b2 cmp3 : Value) (h : Hp) (R : Value → Hp → Prop) : Prop :=
  Vb (bin .add a1 (Value.int IntKind.i64 1)) fun v11 =>
  Lp1 v11 h fun i8 h1 again0 =>
  Vb (bin .lss i8 b2) fun v14 =>
  Br v14 (
    Lp1 i8 h1 fun j9 h2 again1 =>
    Jn1 (fun v34 h3 =>
        Br v34 (
          Vb (bin .sub j9 (Value.int IntKind.i64 1)) fun v41 =>
          Vb (bin .sub j9 (Value.int IntKind.i64 1)) fun v44 =>
          Vb (ixs 1 data0 v44) fun v45 =>
          Vb (ldc v45 h3) fun v46 =>
          Vb (ixs 1 data0 j9) fun v49 =>
          Vb (ldc v49 h3) fun v50 =>
          Vb (ixs 1 data0 j9) fun v51 =>
          Sb (sto 1 v51 v46 h3) fun h4 =>
          Vb (ixs 1 data0 v41) fun v52 =>
          Sb (sto 1 v52 v50 h4) fun h5 =>
          Vb (bin .sub j9 (Value.int IntKind.i64 1)) fun v36 =>
          again1 v36 h5) (
          Vb (bin .add i8 (Value.int IntKind.i64 1)) fun v16 =>
          again0 v16 h3)) fun J0 =>
    Vb (bin .gtr j9 a1) fun v20 =>
    Br v20 (
      Vb (ixs 1 data0 j9) fun v25 =>
      Vb (ldc v25 h2) fun v26 =>
      Vb (bin .sub j9 (Value.int IntKind.i64 1)) fun v29 =>
      Vb (ixs 1 data0 v29) fun v30 =>
      Vb (ldc v30 h2) fun v31 =>
      Cv S.C S.Y cmp3 [v26, v31] h2 fun v32 h6 =>
      Vb (bin .lss v32 (Value.int IntKind.i64 0)) fun v33 =>
      J0 v33 h6) (
      J0 (Value.bool false) h2)) (
    R (.tuple #[]) h1)

def F_slices_symMergeCmpFunc_api_Loc (S : Sys) (I : Ids) (data0 a1 m2 b3 cmp4 : Value) (h : Hp) (R : Value → Hp → Prop) : Prop :=
  Vb (bin .sub m2 a1) fun v27 =>
  Vb (bin .eql v27 (Value.int IntKind.i64 1)) fun v28 =>
  Br v28 (
    Lp2 m2 b3 h fun i10 j11 h1 again0 =>
    Vb (bin .lss i10 j11) fun v33 =>
    Br v33 (
      Vb (bin .add i10 j11) fun v36 =>
      Vb (cvi .u64 v36) fun v37 =>
      Vb (bin .shr v37 (Value.int IntKind.u64 1)) fun v38 =>
      Vb (cvi .i64 v38) fun v39 =>
      Vb (ixs 1 data0 v39) fun v43 =>
      Vb (ldc v43 h1) fun v44 =>
      Vb (ixs 1 data0 a1) fun v47 =>
      Vb (ldc v47 h1) fun v48 =>
      Cv S.C S.Y cmp4 [v44, v48] h1 fun v49 h2 =>
      Vb (bin .lss v49 (Value.int IntKind.i64 0)) fun v50 =>
      Br v50 (
        Vb (bin .add v39 (Value.int IntKind.i64 1)) fun v52 =>
        again0 v52 j11 h2) (
        again0 i10 v39 h2)) (
      Lp1 a1 h1 fun k13 h3 again1 =>
      Vb (bin .sub i10 (Value.int IntKind.i64 1)) fun v57 =>
      Vb (bin .lss k13 v57) fun v58 =>
      Br v58 (
        Vb (bin .add k13 (Value.int IntKind.i64 1)) fun v65 =>
        Vb (bin .add k13 (Value.int IntKind.i64 1)) fun v68 =>
        Vb (ixs 1 data0 v68) fun v69 =>
        Vb (ldc v69 h3) fun v70 =>
        Vb (ixs 1 data0 k13) fun v73 =>
        Vb (ldc v73 h3) fun v74 =>
        Vb (ixs 1 data0 k13) fun v75 =>
        Sb (sto 1 v75 v70 h3) fun h4 =>
        Vb (ixs 1 data0 v65) fun v76 =>
        Sb (sto 1 v76 v74 h4) fun h5 =>
        Vb (bin .add k13 (Value.int IntKind.i64 1)) fun v60 =>
        again1 v60 h5) (
        R (.tuple #[]) h3))) (
    Vb (bin .sub b3 m2) fun v79 =>
    Vb (bin .eql v79 (Value.int IntKind.i64 1)) fun v80 =>
    Br v80 (
      Lp2 a1 m2 h fun i14 j15 h6 again2 =>
      Vb (bin .lss i14 j15) fun v85 =>
      Br v85 (
        Vb (bin .add i14 j15) fun v88 =>
        Vb (cvi .u64 v88) fun v89 =>
        Vb (bin .shr v89 (Value.int IntKind.u64 1)) fun v90 =>
        Vb (cvi .i64 v90) fun v91 =>
        Vb (ixs 1 data0 m2) fun v95 =>
        Vb (ldc v95 h6) fun v96 =>
        Vb (ixs 1 data0 v91) fun v99 =>
        Vb (ldc v99 h6) fun v100 =>
        Cv S.C S.Y cmp4 [v96, v100] h6 fun v101 h7 =>
        Vb (bin .lss v101 (Value.int IntKind.i64 0)) fun v102 =>
        Vb (uno .not v102) fun v103 =>
        Br v103 (
          Vb (bin .add v91 (Value.int IntKind.i64 1)) fun v105 =>
          again2 v105 j15 h7) (
          again2 i14 v91 h7)) (
        Lp1 m2 h6 fun k17 h8 again3 =>
        Vb (bin .gtr k17 i14) fun v110 =>
        Br v110 (
          Vb (bin .sub k17 (Value.int IntKind.i64 1)) fun v117 =>
          Vb (bin .sub k17 (Value.int IntKind.i64 1)) fun v120 =>
          Vb (ixs 1 data0 v120) fun v121 =>
          Vb (ldc v121 h8) fun v122 =>
          Vb (ixs 1 data0 k17) fun v125 =>
          Vb (ldc v125 h8) fun v126 =>
          Vb (ixs 1 data0 k17) fun v127 =>
          Sb (sto 1 v127 v122 h8) fun h9 =>
          Vb (ixs 1 data0 v117) fun v128 =>
          Sb (sto 1 v128 v126 h9) fun h10 =>
          Vb (bin .sub k17 (Value.int IntKind.i64 1)) fun v112 =>
          again3 v112 h10) (
          R (.tuple #[]) h8))) (
      Vb (bin .add a1 b3) fun v131 =>
      Vb (cvi .u64 v131) fun v132 =>
      Vb (bin .shr v132 (Value.int IntKind.u64 1)) fun v133 =>
      Vb (cvi .i64 v133) fun v134 =>
      Vb (bin .add v134 m2) fun v137 =>
      Jn2 (fun start20 r21 h11 =>
          Vb (bin .sub v137 (Value.int IntKind.i64 1)) fun v148 =>
          Lp2 start20 r21 h11 fun start20_1 r21_1 h12 again4 =>
          Vb (bin .lss start20_1 r21_1) fun v151 =>
          Br v151 (
            Vb (bin .add start20_1 r21_1) fun v154 =>
            Vb (cvi .u64 v154) fun v155 =>
            Vb (bin .shr v155 (Value.int IntKind.u64 1)) fun v156 =>
            Vb (cvi .i64 v156) fun v157 =>
            Vb (bin .sub v148 v157) fun v162 =>
            Vb (ixs 1 data0 v162) fun v163 =>
            Vb (ldc v163 h12) fun v164 =>
            Vb (ixs 1 data0 v157) fun v167 =>
            Vb (ldc v167 h12) fun v168 =>
            Cv S.C S.Y cmp4 [v164, v168] h12 fun v169 h13 =>
            Vb (bin .lss v169 (Value.int IntKind.i64 0)) fun v170 =>
            Vb (uno .not v170) fun v171 =>
            Br v171 (
              Vb (bin .add v157 (Value.int IntKind.i64 1)) fun v173 =>
              again4 v173 r21_1 h13) (
              again4 start20_1 v157 h13)) (
            Vb (bin .sub v137 start20_1) fun v177 =>
            Jn0 (fun h14 =>
                Jn0 (fun h15 =>
                    Jn1 (fun v213 h16 =>
                        Br v213 (
                          S.C I.f_slices_symMergeCmpFunc_api_Loc [data0, v134, v177, b3, cmp4] h16 fun v219 h17 =>
                          R (.tuple #[]) h17) (
                          R (.tuple #[]) h16)) fun J3 =>
                    Vb (bin .lss v134 v177) fun v208 =>
                    Br v208 (
                      Vb (bin .lss v177 b3) fun v212 =>
                      J3 v212 h15) (
                      J3 (Value.bool false) h15)) fun J2 =>
                Jn1 (fun v199 h18 =>
                    Br v199 (
                      S.C I.f_slices_symMergeCmpFunc_api_Loc [data0, a1, start20_1, v134, cmp4] h18 fun v205 h19 =>
                      J2 h19) (
                      J2 h18)) fun J4 =>
                Vb (bin .lss a1 start20_1) fun v194 =>
                Br v194 (
                  Vb (bin .lss start20_1 v134) fun v198 =>
                  J4 v198 h14) (
                  J4 (Value.bool false) h14)) fun J1 =>
            Jn1 (fun v185 h20 =>
                Br v185 (
                  S.C I.f_slices_rotateCmpFunc_api_Loc [data0, start20_1, m2, v177, cmp4] h20 fun v191 h21 =>
                  J1 h21) (
                  J1 h20)) fun J5 =>
            Vb (bin .lss start20_1 m2) fun v180 =>
            Br v180 (
              Vb (bin .lss m2 v177) fun v184 =>
              J5 v184 h12) (
              J5 (Value.bool false) h12))) fun J0 =>
      Vb (bin .gtr m2 v134) fun v140 =>
      Br v140 (
        Vb (bin .sub v137 b3) fun v143 =>
        J0 v143 v134 h) (
        J0 a1 m2 h)))

def F_pool_Pool_add (S : Sys) (I : Ids) (p0 s1 count2 n3 : Value) (h : Hp) (R : Value → Hp → Prop) : Prop :=
  Eb (nw (Value.cells p0) I.t_pool_Pool h) fun p4 h1 =>
  Vb (fa 0 p4) fun v9 =>
  Vb (ldc v9 h1) fun v10 =>
  Vb (bin .add v10 count2) fun v12 =>
  Vb (fa 0 p4) fun v14 =>
  Vb (ldc v14 h1) fun v15 =>
  Vb (bin .add v15 count2) fun v17 =>
  S.C I.f_space_Space_Get [s1, v17] h1 fun v18 h2 =>
  ldc v9 h2 = some v10 ∧
  Vb (bin .add v18 n3) fun v20 =>
  S.C I.f_space_Space_Put [s1, v12, v20] h2 fun v21 h3 =>
  R (.tuple #[]) h3

def F_pool_Pool_Give (S : Sys) (I : Ids) (p0 s1 at2 : Value) (h : Hp) (R : Value → Hp → Prop) : Prop :=
  Eb (nw (Value.cells p0) I.t_pool_Pool h) fun p3 h1 =>
  Vb (lda 3 p3 h1) fun v10 =>
  S.C I.f_pool_Pool_Node [v10, at2] h1 fun v12 h2 =>
  Vb (ext 0 v12) fun v13 =>
  Vb (ext 1 v12) fun v14 =>
  Vb (uno .not v14) fun v16 =>
  Br v16 (
    R (Value.int IntKind.i64 1) h2) (
    Vb (fa 0 p3) fun v20 =>
    Vb (ldc v20 h2) fun v21 =>
    S.C I.f_space_Space_Get [s1, v21] h2 fun v22 h3 =>
    S.C I.f_space_Space_Put [s1, at2, v22] h3 fun v23 h4 =>
    Vb (fa 0 p3) fun v25 =>
    Vb (ldc v25 h4) fun v26 =>
    S.C I.f_space_Space_Put [s1, v26, at2] h4 fun v28 h5 =>
    Vb (lda 3 p3 h5) fun v29 =>
    S.C I.f_pool_Pool_add [v29, s1, (Value.int IntKind.i64 2), (Value.int IntKind.i64 1)] h5 fun v31 h6 =>
    R (Value.int IntKind.i64 0) h6)

def F_word_Plain (S : Sys) (I : Ids) (w0 : Value) (h : Hp) (R : Value → Hp → Prop) : Prop :=
  Eb (nw (Value.cells w0) I.t_api_Word h) fun w1 h1 =>
  Vb (lda 3 w1 h1) fun v3 =>
  S.C I.f_word_kind [v3] h1 fun v4 h2 =>
  Vb (bin .eql v4 (Value.int IntKind.i64 0)) fun v5 =>
  R v5 h2

def F_slices_IndexFunc_api_Entry_api_Entry (S : Sys) (I : Ids) (s0 f1 : Value) (h : Hp) (R : Value → Hp → Prop) : Prop :=
  Vb (lnS s0) fun v7 =>
  Lp1 (Value.int IntKind.i64 0) h fun v8 h1 again0 =>
  Vb (bin .lss v8 v7) fun v9 =>
  Br v9 (
    Vb (ixs 6 s0 v8) fun v14 =>
    Vb (lda 6 v14 h1) fun v15 =>
    Cv S.C S.Y f1 [v15] h1 fun v16 h2 =>
    Br v16 (
      R v8 h2) (
      Vb (bin .add v8 (Value.int IntKind.i64 1)) fun v18 =>
      again0 v18 h2)) (
    R (Value.int IntKind.i64 (-1)) h1)

def F_slices_insertionSortOrdered_api_Loc (S : Sys) (I : Ids) (data0 a1 b2 : Value) (h : Hp) (R : Value → Hp → Prop) : Prop :=
  Vb (bin .add a1 (Value.int IntKind.i64 1)) fun v9 =>
  Lp1 v9 h fun i6 h1 again0 =>
  Vb (bin .lss i6 b2) fun v12 =>
  Br v12 (
    Lp1 i6 h1 fun j7 h2 again1 =>
    Jn1 (fun v30 h3 =>
        Br v30 (
          Vb (bin .sub j7 (Value.int IntKind.i64 1)) fun v37 =>
          Vb (bin .sub j7 (Value.int IntKind.i64 1)) fun v40 =>
          Vb (ixs 1 data0 v40) fun v41 =>
          Vb (ldc v41 h3) fun v42 =>
          Vb (ixs 1 data0 j7) fun v45 =>
          Vb (ldc v45 h3) fun v46 =>
          Vb (ixs 1 data0 j7) fun v47 =>
          Sb (sto 1 v47 v42 h3) fun h4 =>
          Vb (ixs 1 data0 v37) fun v48 =>
          Sb (sto 1 v48 v46 h4) fun h5 =>
          Vb (bin .sub j7 (Value.int IntKind.i64 1)) fun v32 =>
          again1 v32 h5) (
          Vb (bin .add i6 (Value.int IntKind.i64 1)) fun v14 =>
          again0 v14 h3)) fun J0 =>
    Vb (bin .gtr j7 a1) fun v18 =>
    Br v18 (
      Vb (ixs 1 data0 j7) fun v22 =>
      Vb (ldc v22 h2) fun v23 =>
      Vb (bin .sub j7 (Value.int IntKind.i64 1)) fun v26 =>
      Vb (ixs 1 data0 v26) fun v27 =>
      Vb (ldc v27 h2) fun v28 =>
      S.C I.f_cmp_Less_api_Loc [v23, v28] h2 fun v29 h6 =>
      J0 v29 h6) (
      J0 (Value.bool false) h2)) (
    R (.tuple #[]) h1)

def F_slices_heapSortOrdered_api_Loc (S : Sys) (I : Ids) (data0 a1 b2 : Value) (h : Hp) (R : Value → Hp → Prop) : Prop :=
  Vb (bin .sub b2 a1) fun v14 =>
  Vb (bin .sub v14 (Value.int IntKind.i64 1)) fun v16 =>
  Vb (bin .quo v16 (Value.int IntKind.i64 2)) fun v17 =>
  Lp1 v17 h fun i9 h1 again0 =>
  Vb (bin .geq i9 (Value.int IntKind.i64 0)) fun v19 =>
  Br v19 (
    S.C I.f_slices_siftDownOrdered_api_Loc [data0, i9, v14, a1] h1 fun v26 h2 =>
    Vb (bin .sub i9 (Value.int IntKind.i64 1)) fun v21 =>
    again0 v21 h2) (
    Vb (bin .sub v14 (Value.int IntKind.i64 1)) fun v28 =>
    Lp1 v28 h1 fun i10 h3 again1 =>
    Vb (bin .geq i10 (Value.int IntKind.i64 0)) fun v30 =>
    Br v30 (
      Vb (bin .add a1 i10) fun v38 =>
      Vb (bin .add a1 i10) fun v42 =>
      Vb (ixs 1 data0 v42) fun v43 =>
      Vb (ldc v43 h3) fun v44 =>
      Vb (ixs 1 data0 a1) fun v47 =>
      Vb (ldc v47 h3) fun v48 =>
      Vb (ixs 1 data0 a1) fun v49 =>
      Sb (sto 1 v49 v44 h3) fun h4 =>
      Vb (ixs 1 data0 v38) fun v50 =>
      Sb (sto 1 v50 v48 h4) fun h5 =>
      S.C I.f_slices_siftDownOrdered_api_Loc [data0, (Value.int IntKind.i64 0), i10, a1] h5 fun v55 h6 =>
      Vb (bin .sub i10 (Value.int IntKind.i64 1)) fun v32 =>
      again1 v32 h6) (
      R (.tuple #[]) h3))

def F_slices_breakPatternsOrdered_api_Loc (S : Sys) (I : Ids) (data0 a1 b2 : Value) (h : Hp) (R : Value → Hp → Prop) : Prop :=
  Vb (bin .sub b2 a1) fun v13 =>
  Vb (bin .geq v13 (Value.int IntKind.i64 8)) fun v15 =>
  Br v15 (
    Vb (cvi .u64 v13) fun v17 =>
    Eb (nw #[Value.int IntKind.u64 0] I.t_slices_xorshift h) fun random7 h1 =>
    Sb (sto 1 random7 v17 h1) fun h2 =>
    S.C I.f_slices_nextPowerOfTwo [v13] h2 fun v19 h3 =>
    Vb (bin .quo v13 (Value.int IntKind.i64 4)) fun v22 =>
    Vb (bin .mul v22 (Value.int IntKind.i64 2)) fun v23 =>
    Vb (bin .add a1 v23) fun v24 =>
    Vb (bin .sub v24 (Value.int IntKind.i64 1)) fun v25 =>
    Lp1 v25 h3 fun idx9 h4 again0 =>
    Vb (bin .quo v13 (Value.int IntKind.i64 4)) fun v29 =>
    Vb (bin .mul v29 (Value.int IntKind.i64 2)) fun v30 =>
    Vb (bin .add a1 v30) fun v31 =>
    Vb (bin .add v31 (Value.int IntKind.i64 1)) fun v32 =>
    Vb (bin .leq idx9 v32) fun v33 =>
    Br v33 (
      S.C I.f_slices_xorshift_Next [random7] h4 fun v36 h5 =>
      Vb (bin .sub v19 (Value.int IntKind.u64 1)) fun v38 =>
      Vb (bin .and v36 v38) fun v39 =>
      Vb (cvi .i64 v39) fun v40 =>
      Jn1 (fun other10 h6 =>
          Vb (bin .add a1 other10) fun v52 =>
          Vb (bin .add a1 other10) fun v56 =>
          Vb (ixs 1 data0 v56) fun v57 =>
          Vb (ldc v57 h6) fun v58 =>
          Vb (ixs 1 data0 idx9) fun v61 =>
          Vb (ldc v61 h6) fun v62 =>
          Vb (ixs 1 data0 idx9) fun v63 =>
          Sb (sto 1 v63 v58 h6) fun h7 =>
          Vb (ixs 1 data0 v52) fun v64 =>
          Sb (sto 1 v64 v62 h7) fun h8 =>
          Vb (bin .add idx9 (Value.int IntKind.i64 1)) fun v35 =>
          again0 v35 h8) fun J0 =>
      Vb (bin .geq v40 v13) fun v43 =>
      Br v43 (
        Vb (bin .sub v40 v13) fun v46 =>
        J0 v46 h5) (
        J0 v40 h5)) (
      R (.tuple #[]) h4)) (
    R (.tuple #[]) h)

def F_slices_choosePivotOrdered_api_Loc (S : Sys) (I : Ids) (data0 a1 b2 : Value) (h : Hp) (R : Value → Hp → Prop) : Prop :=
  Vb (bin .sub b2 a1) fun v15 =>
  Eb (nw #[Value.int IntKind.i64 0] I.t_int h) fun swaps9 h1 =>
  Vb (bin .quo v15 (Value.int IntKind.i64 4)) fun v18 =>
  Vb (bin .mul v18 (Value.int IntKind.i64 1)) fun v19 =>
  Vb (bin .add a1 v19) fun v20 =>
  Vb (bin .quo v15 (Value.int IntKind.i64 4)) fun v23 =>
  Vb (bin .mul v23 (Value.int IntKind.i64 2)) fun v24 =>
  Vb (bin .add a1 v24) fun v25 =>
  Vb (bin .quo v15 (Value.int IntKind.i64 4)) fun v28 =>
  Vb (bin .mul v28 (Value.int IntKind.i64 3)) fun v29 =>
  Vb (bin .add a1 v29) fun v30 =>
  Jn1 (fun j11 h2 =>
      Vb (ldc swaps9 h2) fun v49 =>
      Vb (bin .eql v49 (Value.int IntKind.i64 0)) fun v52 =>
      Br v52 (
        R (.tuple #[j11, (Value.int IntKind.i64 1)]) h2) (
        Vb (bin .eql v49 (Value.int IntKind.i64 12)) fun v55 =>
        Br v55 (
          R (.tuple #[j11, (Value.int IntKind.i64 2)]) h2) (
          R (.tuple #[j11, (Value.int IntKind.i64 0)]) h2))) fun J0 =>
  Vb (bin .geq v15 (Value.int IntKind.i64 8)) fun v32 =>
  Br v32 (
    Jn3 (fun i10 j11_1 k12 h3 =>
        S.C I.f_slices_medianOrdered_api_Loc [data0, i10, j11_1, k12, swaps9] h3 fun v48 h4 =>
        J0 v48 h4) fun J1 =>
    Vb (bin .geq v15 (Value.int IntKind.i64 50)) fun v34 =>
    Br v34 (
      S.C I.f_slices_medianAdjacentOrdered_api_Loc [data0, v20, swaps9] h1 fun v37 h5 =>
      S.C I.f_slices_medianAdjacentOrdered_api_Loc [data0, v25, swaps9] h5 fun v40 h6 =>
      S.C I.f_slices_medianAdjacentOrdered_api_Loc [data0, v30, swaps9] h6 fun v43 h7 =>
      J1 v37 v40 v43 h7) (
      J1 v20 v25 v30 h1)) (
    J0 v25 h1)

def F_slices_reverseRangeOrdered_api_Loc (S : Sys) (I : Ids) (data0 a1 b2 : Value) (h : Hp) (R : Value → Hp → Prop) : Prop :=
  Vb (bin .sub b2 (Value.int IntKind.i64 1)) fun v10 =>
  Lp2 a1 v10 h fun i6 j7 h1 again0 =>
  Vb (bin .lss i6 j7) fun v13 =>
  Br v13 (
    Vb (ixs 1 data0 j7) fun v20 =>
    Vb (ldc v20 h1) fun v21 =>
    Vb (ixs 1 data0 i6) fun v24 =>
    Vb (ldc v24 h1) fun v25 =>
    Vb (ixs 1 data0 i6) fun v26 =>
    Sb (sto 1 v26 v21 h1) fun h2 =>
    Vb (ixs 1 data0 j7) fun v27 =>
    Sb (sto 1 v27 v25 h2) fun h3 =>
    Vb (bin .add i6 (Value.int IntKind.i64 1)) fun v29 =>
    Vb (bin .sub j7 (Value.int IntKind.i64 1)) fun v31 =>
    again0 v29 v31 h3) (
    R (.tuple #[]) h1)

def F_slices_partialInsertionSortOrdered_api_Loc (S : Sys) (I : Ids) (data0 a1 b2 : Value) (h : Hp) (R : Value → Hp → Prop) : Prop :=
  Vb (bin .add a1 (Value.int IntKind.i64 1)) fun v12 =>
  Lp2 v12 (Value.int IntKind.i64 0) h fun i7 j8 h1 again0 =>
  Vb (bin .lss j8 (Value.int IntKind.i64 5)) fun v14 =>
  Br v14 (
    Jn1 (fun i7_1 h2 =>
        Vb (bin .add j8 (Value.int IntKind.i64 1)) fun v16 =>
        again0 i7_1 v16 h2) fun J0 =>
    Lp1 i7 h1 fun i7_2 h3 again1 =>
    Jn1 (fun v32 h4 =>
        Br v32 (
          Vb (bin .add i7_2 (Value.int IntKind.i64 1)) fun v34 =>
          again1 v34 h4) (
          Vb (bin .eql i7_2 b2) fun v37 =>
          Br v37 (
            R (Value.bool true) h4) (
            Vb (bin .sub b2 a1) fun v40 =>
            Vb (bin .lss v40 (Value.int IntKind.i64 50)) fun v41 =>
            Br v41 (
              R (Value.bool false) h4) (
              Vb (bin .sub i7_2 (Value.int IntKind.i64 1)) fun v46 =>
              Vb (bin .sub i7_2 (Value.int IntKind.i64 1)) fun v49 =>
              Vb (ixs 1 data0 v49) fun v50 =>
              Vb (ldc v50 h4) fun v51 =>
              Vb (ixs 1 data0 i7_2) fun v54 =>
              Vb (ldc v54 h4) fun v55 =>
              Vb (ixs 1 data0 i7_2) fun v56 =>
              Sb (sto 1 v56 v51 h4) fun h5 =>
              Vb (ixs 1 data0 v46) fun v57 =>
              Sb (sto 1 v57 v55 h5) fun h6 =>
              Jn0 (fun h7 =>
                  Vb (bin .sub b2 i7_2) fun v97 =>
                  Vb (bin .geq v97 (Value.int IntKind.i64 2)) fun v98 =>
                  Br v98 (
                    Vb (bin .add i7_2 (Value.int IntKind.i64 1)) fun v100 =>
                    Lp1 v100 h7 fun j10 h8 again2 =>
                    Vb (bin .lss j10 b2) fun v103 =>
                    Br v103 (
                      Vb (ixs 1 data0 j10) fun v108 =>
                      Vb (ldc v108 h8) fun v109 =>
                      Vb (bin .sub j10 (Value.int IntKind.i64 1)) fun v112 =>
                      Vb (ixs 1 data0 v112) fun v113 =>
                      Vb (ldc v113 h8) fun v114 =>
                      S.C I.f_cmp_Less_api_Loc [v109, v114] h8 fun v115 h9 =>
                      Vb (uno .not v115) fun v116 =>
                      Br v116 (
                        J0 i7_2 h9) (
                        Vb (bin .sub j10 (Value.int IntKind.i64 1)) fun v121 =>
                        Vb (bin .sub j10 (Value.int IntKind.i64 1)) fun v124 =>
                        Vb (ixs 1 data0 v124) fun v125 =>
                        Vb (ldc v125 h9) fun v126 =>
                        Vb (ixs 1 data0 j10) fun v129 =>
                        Vb (ldc v129 h9) fun v130 =>
                        Vb (ixs 1 data0 j10) fun v131 =>
                        Sb (sto 1 v131 v126 h9) fun h10 =>
                        Vb (ixs 1 data0 v121) fun v132 =>
                        Sb (sto 1 v132 v130 h10) fun h11 =>
                        Vb (bin .add j10 (Value.int IntKind.i64 1)) fun v105 =>
                        again2 v105 h11)) (
                      J0 i7_2 h8)) (
                    J0 i7_2 h7)) fun J2 =>
              Vb (bin .sub i7_2 a1) fun v60 =>
              Vb (bin .geq v60 (Value.int IntKind.i64 2)) fun v61 =>
              Br v61 (
                Vb (bin .sub i7_2 (Value.int IntKind.i64 1)) fun v63 =>
                Lp1 v63 h6 fun j9 h12 again3 =>
                Vb (bin .geq j9 (Value.int IntKind.i64 1)) fun v65 =>
                Br v65 (
                  Vb (ixs 1 data0 j9) fun v70 =>
                  Vb (ldc v70 h12) fun v71 =>
                  Vb (bin .sub j9 (Value.int IntKind.i64 1)) fun v74 =>
                  Vb (ixs 1 data0 v74) fun v75 =>
                  Vb (ldc v75 h12) fun v76 =>
                  S.C I.f_cmp_Less_api_Loc [v71, v76] h12 fun v77 h13 =>
                  Vb (uno .not v77) fun v78 =>
                  Br v78 (
                    J2 h13) (
                    Vb (bin .sub j9 (Value.int IntKind.i64 1)) fun v83 =>
                    Vb (bin .sub j9 (Value.int IntKind.i64 1)) fun v86 =>
                    Vb (ixs 1 data0 v86) fun v87 =>
                    Vb (ldc v87 h13) fun v88 =>
                    Vb (ixs 1 data0 j9) fun v91 =>
                    Vb (ldc v91 h13) fun v92 =>
                    Vb (ixs 1 data0 j9) fun v93 =>
                    Sb (sto 1 v93 v88 h13) fun h14 =>
                    Vb (ixs 1 data0 v83) fun v94 =>
                    Sb (sto 1 v94 v92 h14) fun h15 =>
                    Vb (bin .sub j9 (Value.int IntKind.i64 1)) fun v67 =>
                    again3 v67 h15)) (
                  J2 h12)) (
                J2 h6))))) fun J1 =>
    Vb (bin .lss i7_2 b2) fun v19 =>
    Br v19 (
      Vb (ixs 1 data0 i7_2) fun v23 =>
      Vb (ldc v23 h3) fun v24 =>
      Vb (bin .sub i7_2 (Value.int IntKind.i64 1)) fun v27 =>
      Vb (ixs 1 data0 v27) fun v28 =>
      Vb (ldc v28 h3) fun v29 =>
      S.C I.f_cmp_Less_api_Loc [v24, v29] h3 fun v30 h16 =>
      Vb (uno .not v30) fun v31 =>
      J1 v31 h16) (
      J1 (Value.bool false) h3)) (
    R (Value.bool false) h1)

def F_cmp_Less_api_Loc (S : Sys) (I : Ids) (x0 y1 : Value) (h : Hp) (R : Value → Hp → Prop) : Prop :=
  Jn1 (fun v4 h1 =>
      R v4 h1) fun J0 =>
  S.C I.f_cmp_isNaN_api_Loc [x0] h fun v6 h2 =>
  Br v6 (
    S.C I.f_cmp_isNaN_api_Loc [y1] h2 fun v9 h3 =>
    Vb (uno .not v9) fun v10 =>
    Br v10 (
      J0 (Value.bool true) h3) (
      Vb (bin .lss x0 y1) fun v15 =>
      J0 v15 h3)) (
    Vb (bin .lss x0 y1) fun v15_1 =>
    J0 v15_1 h2)

def F_slices_partitionEqualOrdered_api_Loc (S : Sys) (I : Ids) (data0 a1 b2 pivot3 : Value) (h : Hp) (R : Value → Hp → Prop) : Prop :=
  Vb (ixs 1 data0 pivot3) fun v17 =>
  Vb (ldc v17 h) fun v18 =>
  Vb (ixs 1 data0 a1) fun v21 =>
  Vb (ldc v21 h) fun v22 =>
  Vb (ixs 1 data0 a1) fun v23 =>
  Sb (sto 1 v23 v18 h) fun h1 =>
  Vb (ixs 1 data0 pivot3) fun v24 =>
  Sb (sto 1 v24 v22 h1) fun h2 =>
  Vb (bin .add a1 (Value.int IntKind.i64 1)) fun v26 =>
  Vb (bin .sub b2 (Value.int IntKind.i64 1)) fun v28 =>
  Lp2 v26 v28 h2 fun i9 j10 h3 again0 =>
  Lp1 i9 h3 fun i9_1 h4 again1 =>
  Jn1 (fun v43 h5 =>
      Br v43 (
        Vb (bin .add i9_1 (Value.int IntKind.i64 1)) fun v45 =>
        again1 v45 h5) (
        Lp1 j10 h5 fun j10_1 h6 again2 =>
        Jn1 (fun v59 h7 =>
            Br v59 (
              Vb (bin .sub j10_1 (Value.int IntKind.i64 1)) fun v61 =>
              again2 v61 h7) (
              Vb (bin .gtr i9_1 j10_1) fun v64 =>
              Br v64 (
                R i9_1 h7) (
                Vb (ixs 1 data0 j10_1) fun v71 =>
                Vb (ldc v71 h7) fun v72 =>
                Vb (ixs 1 data0 i9_1) fun v75 =>
                Vb (ldc v75 h7) fun v76 =>
                Vb (ixs 1 data0 i9_1) fun v77 =>
                Sb (sto 1 v77 v72 h7) fun h8 =>
                Vb (ixs 1 data0 j10_1) fun v78 =>
                Sb (sto 1 v78 v76 h8) fun h9 =>
                Vb (bin .add i9_1 (Value.int IntKind.i64 1)) fun v80 =>
                Vb (bin .sub j10_1 (Value.int IntKind.i64 1)) fun v82 =>
                again0 v80 v82 h9))) fun J1 =>
        Vb (bin .leq i9_1 j10_1) fun v48 =>
        Br v48 (
          Vb (ixs 1 data0 a1) fun v52 =>
          Vb (ldc v52 h6) fun v53 =>
          Vb (ixs 1 data0 j10_1) fun v56 =>
          Vb (ldc v56 h6) fun v57 =>
          S.C I.f_cmp_Less_api_Loc [v53, v57] h6 fun v58 h10 =>
          J1 v58 h10) (
          J1 (Value.bool false) h6))) fun J0 =>
  Vb (bin .leq i9_1 j10) fun v31 =>
  Br v31 (
    Vb (ixs 1 data0 a1) fun v35 =>
    Vb (ldc v35 h4) fun v36 =>
    Vb (ixs 1 data0 i9_1) fun v39 =>
    Vb (ldc v39 h4) fun v40 =>
    S.C I.f_cmp_Less_api_Loc [v36, v40] h4 fun v41 h11 =>
    Vb (uno .not v41) fun v42 =>
    J0 v42 h11) (
    J0 (Value.bool false) h4)

def F_slices_partitionOrdered_api_Loc (S : Sys) (I : Ids) (data0 a1 b2 pivot3 : Value) (h : Hp) (R : Value → Hp → Prop) : Prop :=
  Vb (ixs 1 data0 pivot3) fun v18 =>
  Vb (ldc v18 h) fun v19 =>
  Vb (ixs 1 data0 a1) fun v22 =>
  Vb (ldc v22 h) fun v23 =>
  Vb (ixs 1 data0 a1) fun v24 =>
  Sb (sto 1 v24 v19 h) fun h1 =>
  Vb (ixs 1 data0 pivot3) fun v25 =>
  Sb (sto 1 v25 v23 h1) fun h2 =>
  Vb (bin .add a1 (Value.int IntKind.i64 1)) fun v27 =>
  Vb (bin .sub b2 (Value.int IntKind.i64 1)) fun v29 =>
  Lp1 v27 h2 fun i10 h3 again0 =>
  Jn1 (fun v43 h4 =>
      Br v43 (
        Vb (bin .add i10 (Value.int IntKind.i64 1)) fun v45 =>
        again0 v45 h4) (
        Lp1 v29 h4 fun j11 h5 again1 =>
        Jn1 (fun v60 h6 =>
            Br v60 (
              Vb (bin .sub j11 (Value.int IntKind.i64 1)) fun v62 =>
              again1 v62 h6) (
              Vb (bin .gtr i10 j11) fun v65 =>
              Br v65 (
                Vb (ixs 1 data0 a1) fun v72 =>
                Vb (ldc v72 h6) fun v73 =>
                Vb (ixs 1 data0 j11) fun v76 =>
                Vb (ldc v76 h6) fun v77 =>
                Vb (ixs 1 data0 j11) fun v78 =>
                Sb (sto 1 v78 v73 h6) fun h7 =>
                Vb (ixs 1 data0 a1) fun v79 =>
                Sb (sto 1 v79 v77 h7) fun h8 =>
                R (.tuple #[j11, (Value.bool true)]) h8) (
                Vb (ixs 1 data0 j11) fun v87 =>
                Vb (ldc v87 h6) fun v88 =>
                Vb (ixs 1 data0 i10) fun v91 =>
                Vb (ldc v91 h6) fun v92 =>
                Vb (ixs 1 data0 i10) fun v93 =>
                Sb (sto 1 v93 v88 h6) fun h9 =>
                Vb (ixs 1 data0 j11) fun v94 =>
                Sb (sto 1 v94 v92 h9) fun h10 =>
                Vb (bin .add i10 (Value.int IntKind.i64 1)) fun v96 =>
                Vb (bin .sub j11 (Value.int IntKind.i64 1)) fun v98 =>
                Lp2 v96 v98 h10 fun i10_1 j11_1 h11 again2 =>
                Lp1 i10_1 h11 fun i10_2 h12 again3 =>
                Jn1 (fun v112 h13 =>
                    Br v112 (
                      Vb (bin .add i10_2 (Value.int IntKind.i64 1)) fun v114 =>
                      again3 v114 h13) (
                      Lp1 j11_1 h13 fun j11_2 h14 again4 =>
                      Jn1 (fun v129 h15 =>
                          Br v129 (
                            Vb (bin .sub j11_2 (Value.int IntKind.i64 1)) fun v131 =>
                            again4 v131 h15) (
                            Vb (bin .gtr i10_2 j11_2) fun v134 =>
                            Br v134 (
                              Vb (ixs 1 data0 a1) fun v159 =>
                              Vb (ldc v159 h15) fun v160 =>
                              Vb (ixs 1 data0 j11_2) fun v163 =>
                              Vb (ldc v163 h15) fun v164 =>
                              Vb (ixs 1 data0 j11_2) fun v165 =>
                              Sb (sto 1 v165 v160 h15) fun h16 =>
                              Vb (ixs 1 data0 a1) fun v166 =>
                              Sb (sto 1 v166 v164 h16) fun h17 =>
                              R (.tuple #[j11_2, (Value.bool false)]) h17) (
                              Vb (ixs 1 data0 j11_2) fun v141 =>
                              Vb (ldc v141 h15) fun v142 =>
                              Vb (ixs 1 data0 i10_2) fun v145 =>
                              Vb (ldc v145 h15) fun v146 =>
                              Vb (ixs 1 data0 i10_2) fun v147 =>
                              Sb (sto 1 v147 v142 h15) fun h18 =>
                              Vb (ixs 1 data0 j11_2) fun v148 =>
                              Sb (sto 1 v148 v146 h18) fun h19 =>
                              Vb (bin .add i10_2 (Value.int IntKind.i64 1)) fun v150 =>
                              Vb (bin .sub j11_2 (Value.int IntKind.i64 1)) fun v152 =>
                              again2 v150 v152 h19))) fun J3 =>
                      Vb (bin .leq i10_2 j11_2) fun v117 =>
                      Br v117 (
                        Vb (ixs 1 data0 j11_2) fun v121 =>
                        Vb (ldc v121 h14) fun v122 =>
                        Vb (ixs 1 data0 a1) fun v125 =>
                        Vb (ldc v125 h14) fun v126 =>
                        S.C I.f_cmp_Less_api_Loc [v122, v126] h14 fun v127 h20 =>
                        Vb (uno .not v127) fun v128 =>
                        J3 v128 h20) (
                        J3 (Value.bool false) h14))) fun J2 =>
                Vb (bin .leq i10_2 j11_1) fun v101 =>
                Br v101 (
                  Vb (ixs 1 data0 i10_2) fun v105 =>
                  Vb (ldc v105 h12) fun v106 =>
                  Vb (ixs 1 data0 a1) fun v109 =>
                  Vb (ldc v109 h12) fun v110 =>
                  S.C I.f_cmp_Less_api_Loc [v106, v110] h12 fun v111 h21 =>
                  J2 v111 h21) (
                  J2 (Value.bool false) h12)))) fun J1 =>
        Vb (bin .leq i10 j11) fun v48 =>
        Br v48 (
          Vb (ixs 1 data0 j11) fun v52 =>
          Vb (ldc v52 h5) fun v53 =>
          Vb (ixs 1 data0 a1) fun v56 =>
          Vb (ldc v56 h5) fun v57 =>
          S.C I.f_cmp_Less_api_Loc [v53, v57] h5 fun v58 h22 =>
          Vb (uno .not v58) fun v59 =>
          J1 v59 h22) (
          J1 (Value.bool false) h5))) fun J0 =>
  Vb (bin .leq i10 v29) fun v32 =>
  Br v32 (
    Vb (ixs 1 data0 i10) fun v36 =>
    Vb (ldc v36 h3) fun v37 =>
    Vb (ixs 1 data0 a1) fun v40 =>
    Vb (ldc v40 h3) fun v41 =>
    S.C I.f_cmp_Less_api_Loc [v37, v41] h3 fun v42 h23 =>
    J0 v42 h23) (
    J0 (Value.bool false) h3)

def F_math_bits_Len32 (S : Sys) (I : Ids) (x0 : Value) (h : Hp) (R : Value → Hp → Prop) : Prop :=
  Jn2 (fun x0_1 n2 h1 =>
      Jn2 (fun x0_2 n2_1 h2 =>
          Vb (cvi .u8 x0_2) fun v15 =>
          Vb (idst (Value.string { data := (List.toArray (List.append (List.append [0, 1, 2, 2, 3, 3, 3, 3, 4, 4, 4, 4, 4, 4, 4, 4, 5, 5, 5, 5, 5, 5, 5, 5, 5, 5, 5, 5, 5, 5, 5, 5, 6, 6, 6, 6, 6, 6, 6, 6, 6, 6, 6, 6, 6, 6, 6, 6, 6, 6, 6, 6, 6, 6, 6, 6, 6, 6, 6, 6, 6, 6, 6, 6] [7, 7, 7, 7, 7, 7, 7, 7, 7, 7, 7, 7, 7, 7, 7, 7, 7, 7, 7, 7, 7, 7, 7, 7, 7, 7, 7, 7, 7, 7, 7, 7, 7, 7, 7, 7, 7, 7, 7, 7, 7, 7, 7, 7, 7, 7, 7, 7, 7, 7, 7, 7, 7, 7, 7, 7, 7, 7, 7, 7, 7, 7, 7, 7]) (List.append [8, 8, 8, 8, 8, 8, 8, 8, 8, 8, 8, 8, 8, 8, 8, 8, 8, 8, 8, 8, 8, 8, 8, 8, 8, 8, 8, 8, 8, 8, 8, 8, 8, 8, 8, 8, 8, 8, 8, 8, 8, 8, 8, 8, 8, 8, 8, 8, 8, 8, 8, 8, 8, 8, 8, 8, 8, 8, 8, 8, 8, 8, 8, 8] [8, 8, 8, 8, 8, 8, 8, 8, 8, 8, 8, 8, 8, 8, 8, 8, 8, 8, 8, 8, 8, 8, 8, 8, 8, 8, 8, 8, 8, 8, 8, 8, 8, 8, 8, 8, 8, 8, 8, 8, 8, 8, 8, 8, 8, 8, 8, 8, 8, 8, 8, 8, 8, 8, 8, 8, 8, 8, 8, 8, 8, 8, 8, 8]))) }) v15) fun v16 =>
          Vb (cvi .i64 v16) fun v17 =>
          Vb (bin .add n2_1 v17) fun v18 =>
          R v18 h2) fun J1 =>
      Vb (bin .geq x0_1 (Value.int IntKind.u32 256)) fun v8 =>
      Br v8 (
        Vb (bin .shr x0_1 (Value.int IntKind.u64 8)) fun v10 =>
        Vb (bin .add n2 (Value.int IntKind.i64 8)) fun v12 =>
        J1 v10 v12 h1) (
        J1 x0_1 n2 h1)) fun J0 =>
  Vb (bin .geq x0 (Value.int IntKind.u32 65536)) fun v4 =>
  Br v4 (
    Vb (bin .shr x0 (Value.int IntKind.u64 16)) fun v6 =>
    J0 v6 (Value.int IntKind.i64 16) h) (
    J0 x0 (Value.int IntKind.i64 0) h)

def F_math_bits_Len64 (S : Sys) (I : Ids) (x0 : Value) (h : Hp) (R : Value → Hp → Prop) : Prop :=
  Jn2 (fun x0_1 n2 h1 =>
      Jn2 (fun x0_2 n2_1 h2 =>
          Jn2 (fun x0_3 n2_2 h3 =>
              Vb (cvi .u8 x0_3) fun v21 =>
              Vb (idst (Value.string { data := (List.toArray (List.append (List.append [0, 1, 2, 2, 3, 3, 3, 3, 4, 4, 4, 4, 4, 4, 4, 4, 5, 5, 5, 5, 5, 5, 5, 5, 5, 5, 5, 5, 5, 5, 5, 5, 6, 6, 6, 6, 6, 6, 6, 6, 6, 6, 6, 6, 6, 6, 6, 6, 6, 6, 6, 6, 6, 6, 6, 6, 6, 6, 6, 6, 6, 6, 6, 6] [7, 7, 7, 7, 7, 7, 7, 7, 7, 7, 7, 7, 7, 7, 7, 7, 7, 7, 7, 7, 7, 7, 7, 7, 7, 7, 7, 7, 7, 7, 7, 7, 7, 7, 7, 7, 7, 7, 7, 7, 7, 7, 7, 7, 7, 7, 7, 7, 7, 7, 7, 7, 7, 7, 7, 7, 7, 7, 7, 7, 7, 7, 7, 7]) (List.append [8, 8, 8, 8, 8, 8, 8, 8, 8, 8, 8, 8, 8, 8, 8, 8, 8, 8, 8, 8, 8, 8, 8, 8, 8, 8, 8, 8, 8, 8, 8, 8, 8, 8, 8, 8, 8, 8, 8, 8, 8, 8, 8, 8, 8, 8, 8, 8, 8, 8, 8, 8, 8, 8, 8, 8, 8, 8, 8, 8, 8, 8, 8, 8] [8, 8, 8, 8, 8, 8, 8, 8, 8, 8, 8, 8, 8, 8, 8, 8, 8, 8, 8, 8, 8, 8, 8, 8, 8, 8, 8, 8, 8, 8, 8, 8, 8, 8, 8, 8, 8, 8, 8, 8, 8, 8, 8, 8, 8, 8, 8, 8, 8, 8, 8, 8, 8, 8, 8, 8, 8, 8, 8, 8, 8, 8, 8, 8]))) }) v21) fun v22 =>
              Vb (cvi .i64 v22) fun v23 =>
              Vb (bin .add n2_2 v23) fun v24 =>
              R v24 h3) fun J2 =>
          Vb (bin .geq x0_2 (Value.int IntKind.u64 256)) fun v14 =>
          Br v14 (
            Vb (bin .shr x0_2 (Value.int IntKind.u64 8)) fun v16 =>
            Vb (bin .add n2_1 (Value.int IntKind.i64 8)) fun v18 =>
            J2 v16 v18 h2) (
            J2 x0_2 n2_1 h2)) fun J1 =>
      Vb (bin .geq x0_1 (Value.int IntKind.u64 65536)) fun v8 =>
      Br v8 (
        Vb (bin .shr x0_1 (Value.int IntKind.u64 16)) fun v10 =>
        Vb (bin .add n2 (Value.int IntKind.i64 16)) fun v12 =>
        J1 v10 v12 h1) (
        J1 x0_1 n2 h1)) fun J0 =>
  Vb (bin .geq x0 (Value.int IntKind.u64 4294967296)) fun v4 =>
  Br v4 (
    Vb (bin .shr x0 (Value.int IntKind.u64 32)) fun v6 =>
    J0 v6 (Value.int IntKind.i64 32) h) (
    J0 x0 (Value.int IntKind.i64 0) h)

def F_slices_rotateCmpFunc_api_Loc (S : Sys) (I : Ids) (data0 a1 m2 b3 cmp4 : Value) (h : Hp) (R : Value → Hp → Prop) : Prop :=
  Vb (bin .sub m2 a1) fun v14 =>
  Vb (bin .sub b3 m2) fun v17 =>
  Lp2 v14 v17 h fun i10 j11 h1 again0 =>
  Vb (bin .neq i10 j11) fun v20 =>
  Br v20 (
    Vb (bin .gtr i10 j11) fun v23 =>
    Br v23 (
      Vb (bin .sub m2 i10) fun v27 =>
      S.C I.f_slices_swapRangeCmpFunc_api_Loc [data0, v27, m2, j11, cmp4] h1 fun v31 h2 =>
      Vb (bin .sub i10 j11) fun v34 =>
      again0 v34 j11 h2) (
      Vb (bin .sub m2 i10) fun v38 =>
      Vb (bin .add m2 j11) fun v41 =>
      Vb (bin .sub v41 i10) fun v43 =>
      S.C I.f_slices_swapRangeCmpFunc_api_Loc [data0, v38, v43, i10, cmp4] h1 fun v46 h3 =>
      Vb (bin .sub j11 i10) fun v49 =>
      again0 i10 v49 h3)) (
    Vb (bin .sub m2 i10) fun v53 =>
    S.C I.f_slices_swapRangeCmpFunc_api_Loc [data0, v53, m2, i10, cmp4] h1 fun v57 h4 =>
    R (.tuple #[]) h4)

def F_word_kind (S : Sys) (I : Ids) (w0 : Value) (h : Hp) (R : Value → Hp → Prop) : Prop :=
  Eb (nw (Value.cells w0) I.t_api_Word h) fun w1 h1 =>
  Vb (fa 2 w1) fun v6 =>
  Vb (ldc v6 h1) fun v7 =>
  S.C I.f_word_Who [v7] h1 fun v8 h2 =>
  Vb (ext 0 v8) fun v9 =>
  Vb (ext 1 v8) fun v10 =>
  Vb (fa 2 w1) fun v12 =>
  Vb (ldc v12 h2) fun v13 =>
  Vb (bin .eql v13 (Value.int IntKind.u32 0)) fun v14 =>
  Br v14 (
    R (Value.int IntKind.i64 0) h2) (
    Vb (bin .gtr v9 (Value.int IntKind.i64 0)) fun v17 =>
    Br v17 (
      R (Value.int IntKind.i64 1) h2) (
      R (Value.int IntKind.i64 2) h2))

def F_slices_siftDownOrdered_api_Loc (S : Sys) (I : Ids) (data0 lo1 hi2 first3 : Value) (h : Hp) (R : Value → Hp → Prop) : Prop :=
  Lp1 lo1 h fun root8 h1 again0 =>
  Vb (bin .mul (Value.int IntKind.i64 2) root8) fun v12 =>
  Vb (bin .add v12 (Value.int IntKind.i64 1)) fun v13 =>
  Vb (bin .geq v13 hi2) fun v16 =>
  Br v16 (
    R (.tuple #[]) h1) (
    Jn1 (fun child9 h2 =>
        Vb (bin .add first3 root8) fun v42 =>
        Vb (ixs 1 data0 v42) fun v43 =>
        Vb (ldc v43 h2) fun v44 =>
        Vb (bin .add first3 child9) fun v48 =>
        Vb (ixs 1 data0 v48) fun v49 =>
        Vb (ldc v49 h2) fun v50 =>
        S.C I.f_cmp_Less_api_Loc [v44, v50] h2 fun v51 h3 =>
        Vb (uno .not v51) fun v52 =>
        Br v52 (
          R (.tuple #[]) h3) (
          Vb (bin .add first3 root8) fun v56 =>
          Vb (bin .add first3 child9) fun v60 =>
          Vb (bin .add first3 child9) fun v64 =>
          Vb (ixs 1 data0 v64) fun v65 =>
          Vb (ldc v65 h3) fun v66 =>
          Vb (bin .add first3 root8) fun v70 =>
          Vb (ixs 1 data0 v70) fun v71 =>
          Vb (ldc v71 h3) fun v72 =>
          Vb (ixs 1 data0 v56) fun v73 =>
          Sb (sto 1 v73 v66 h3) fun h4 =>
          Vb (ixs 1 data0 v60) fun v74 =>
          Sb (sto 1 v74 v72 h4) fun h5 =>
          again0 child9 h5)) fun J0 =>
    Jn1 (fun v36 h6 =>
        Br v36 (
          Vb (bin .add v13 (Value.int IntKind.i64 1)) fun v38 =>
          J0 v38 h6) (
          J0 v13 h6)) fun J1 =>
    Vb (bin .add v13 (Value.int IntKind.i64 1)) fun v18 =>
    Vb (bin .lss v18 hi2) fun v20 =>
    Br v20 (
      Vb (bin .add first3 v13) fun v25 =>
      Vb (ixs 1 data0 v25) fun v26 =>
      Vb (ldc v26 h1) fun v27 =>
      Vb (bin .add first3 v13) fun v31 =>
      Vb (bin .add v31 (Value.int IntKind.i64 1)) fun v32 =>
      Vb (ixs 1 data0 v32) fun v33 =>
      Vb (ldc v33 h1) fun v34 =>
      S.C I.f_cmp_Less_api_Loc [v27, v34] h1 fun v35 h7 =>
      J1 v35 h7) (
      J1 (Value.bool false) h1))

def F_slices_nextPowerOfTwo (S : Sys) (I : Ids) (length0 : Value) (h : Hp) (R : Value → Hp → Prop) : Prop :=
  Vb (cvi .u64 length0) fun v4 =>
  S.C I.f_math_bits_Len [v4] h fun v5 h1 =>
  Vb (bin .shl (Value.int IntKind.u64 1) v5) fun v6 =>
  R v6 h1

def F_slices_xorshift_Next (S : Sys) (I : Ids) (r0 : Value) (h : Hp) (R : Value → Hp → Prop) : Prop :=
  Vb (nck r0) fun v4 =>
  Vb (ldc v4 h) fun v5 =>
  Vb (nck r0) fun v7 =>
  Vb (ldc v7 h) fun v8 =>
  Vb (bin .shl v8 (Value.int IntKind.u64 13)) fun v9 =>
  Vb (bin .xor v5 v9) fun v10 =>
  Vb (nck r0) fun v11 =>
  Sb (sto 1 v11 v10 h) fun h1 =>
  Vb (nck r0) fun v13 =>
  Vb (ldc v13 h1) fun v14 =>
  Vb (nck r0) fun v16 =>
  Vb (ldc v16 h1) fun v17 =>
  Vb (bin .shr v17 (Value.int IntKind.u64 7)) fun v18 =>
  Vb (bin .xor v14 v18) fun v19 =>
  Vb (nck r0) fun v20 =>
  Sb (sto 1 v20 v19 h1) fun h2 =>
  Vb (nck r0) fun v22 =>
  Vb (ldc v22 h2) fun v23 =>
  Vb (nck r0) fun v25 =>
  Vb (ldc v25 h2) fun v26 =>
  Vb (bin .shl v26 (Value.int IntKind.u64 17)) fun v27 =>
  Vb (bin .xor v23 v27) fun v28 =>
  Vb (nck r0) fun v29 =>
  Sb (sto 1 v29 v28 h2) fun h3 =>
  Vb (nck r0) fun v31 =>
  Vb (ldc v31 h3) fun v32 =>
  R v32 h3

def F_slices_medianAdjacentOrdered_api_Loc (S : Sys) (I : Ids) (data0 a1 swaps2 : Value) (h : Hp) (R : Value → Hp → Prop) : Prop :=
  Vb (bin .sub a1 (Value.int IntKind.i64 1)) fun v9 =>
  Vb (bin .add a1 (Value.int IntKind.i64 1)) fun v12 =>
  S.C I.f_slices_medianOrdered_api_Loc [data0, v9, a1, v12, swaps2] h fun v14 h1 =>
  R v14 h1

def F_slices_medianOrdered_api_Loc (S : Sys) (I : Ids) (data0 a1 b2 c3 swaps4 : Value) (h : Hp) (R : Value → Hp → Prop) : Prop :=
  S.C I.f_slices_order2Ordered_api_Loc [data0, a1, b2, swaps4] h fun v16 h1 =>
  Vb (ext 0 v16) fun v17 =>
  Vb (ext 1 v16) fun v18 =>
  S.C I.f_slices_order2Ordered_api_Loc [data0, v18, c3, swaps4] h1 fun v24 h2 =>
  Vb (ext 0 v24) fun v25 =>
  Vb (ext 1 v24) fun v26 =>
  S.C I.f_slices_order2Ordered_api_Loc [data0, v17, v25, swaps4] h2 fun v32 h3 =>
  Vb (ext 0 v32) fun v33 =>
  Vb (ext 1 v32) fun v34 =>
  R v34 h3

def F_cmp_isNaN_api_Loc (S : Sys) (I : Ids) (x0 : Value) (h : Hp) (R : Value → Hp → Prop) : Prop :=
  Vb (bin .neq x0 x0) fun v5 =>
  R v5 h

def F_slices_swapRangeCmpFunc_api_Loc (S : Sys) (I : Ids) (data0 a1 b2 n3 cmp4 : Value) (h : Hp) (R : Value → Hp → Prop) : Prop :=
  Lp1 (Value.int IntKind.i64 0) h fun i10 h1 again0 =>
  Vb (bin .lss i10 n3) fun v13 =>
  Br v13 (
    Vb (bin .add a1 i10) fun v19 =>
    Vb (bin .add b2 i10) fun v23 =>
    Vb (bin .add b2 i10) fun v27 =>
    Vb (ixs 1 data0 v27) fun v28 =>
    Vb (ldc v28 h1) fun v29 =>
    Vb (bin .add a1 i10) fun v33 =>
    Vb (ixs 1 data0 v33) fun v34 =>
    Vb (ldc v34 h1) fun v35 =>
    Vb (ixs 1 data0 v19) fun v36 =>
    Sb (sto 1 v36 v29 h1) fun h2 =>
    Vb (ixs 1 data0 v23) fun v37 =>
    Sb (sto 1 v37 v35 h2) fun h3 =>
    Vb (bin .add i10 (Value.int IntKind.i64 1)) fun v15 =>
    again0 v15 h3) (
    R (.tuple #[]) h1)

def F_word_Who (S : Sys) (I : Ids) (ref0 : Value) (h : Hp) (R : Value → Hp → Prop) : Prop :=
  Vb (bin .shr ref0 (Value.int IntKind.u64 24)) fun v9 =>
  Vb (cvi .i64 v9) fun v10 =>
  Vb (bin .and ref0 (Value.int IntKind.u32 16777215)) fun v12 =>
  Vb (cvi .i64 v12) fun v13 =>
  S.C I.f_word_Ref [v10, v13] h fun v17 h1 =>
  Vb (ext 0 v17) fun v18 =>
  Vb (ext 1 v17) fun v19 =>
  Vb (bin .neq v19 (Value.int IntKind.i64 0)) fun v21 =>
  Br v21 (
    R (.tuple #[(Value.int IntKind.i64 0), (Value.int IntKind.i64 0)]) h1) (
    R (.tuple #[v10, v13]) h1)

def F_slices_order2Ordered_api_Loc (S : Sys) (I : Ids) (data0 a1 b2 swaps3 : Value) (h : Hp) (R : Value → Hp → Prop) : Prop :=
  Vb (ixs 1 data0 b2) fun v12 =>
  Vb (ldc v12 h) fun v13 =>
  Vb (ixs 1 data0 a1) fun v16 =>
  Vb (ldc v16 h) fun v17 =>
  S.C I.f_cmp_Less_api_Loc [v13, v17] h fun v18 h1 =>
  Br v18 (
    Vb (nck swaps3) fun v20 =>
    Vb (ldc v20 h1) fun v21 =>
    Vb (bin .add v21 (Value.int IntKind.i64 1)) fun v22 =>
    Vb (nck swaps3) fun v23 =>
    Sb (sto 1 v23 v22 h1) fun h2 =>
    R (.tuple #[b2, a1]) h2) (
    R (.tuple #[a1, b2]) h1)

def F_word_Ref (S : Sys) (I : Ids) (who0 seq1 : Value) (h : Hp) (R : Value → Hp → Prop) : Prop :=
  Jn1 (fun v19 h1 =>
      Br v19 (
        R (.tuple #[(Value.int IntKind.u32 0), (Value.int IntKind.i64 3)]) h1) (
        Vb (cvi .u32 who0) fun v21 =>
        Vb (bin .shl v21 (Value.int IntKind.u64 24)) fun v22 =>
        Vb (cvi .u32 seq1) fun v24 =>
        Vb (bin .or v22 v24) fun v25 =>
        R (.tuple #[v25, (Value.int IntKind.i64 0)]) h1)) fun J0 =>
  Vb (bin .lss who0 (Value.int IntKind.i64 1)) fun v7 =>
  Br v7 (
    J0 (Value.bool true) h) (
    Vb (bin .gtr who0 (Value.int IntKind.i64 72)) fun v10 =>
    Br v10 (
      J0 (Value.bool true) h) (
      Vb (bin .lss seq1 (Value.int IntKind.i64 1)) fun v14 =>
      Br v14 (
        J0 (Value.bool true) h) (
        Vb (bin .gtr seq1 (Value.int IntKind.i64 16777215)) fun v18 =>
        J0 v18 h)))

end Go.En
