/-
  Clean texts of 144 functions: what each of them does, printed by program out of the translation.
-/
import Derived.Test.YtmpdclbiopalaaaXB
namespace Go.En
/-- the numbers of functions and types -/
structure Ids where
  f_simulcastlaw40_GraphBoth : Nat
  f_simulcastlaw40_GraphWeighs : Nat
  f_simulcastlaw40_GraphPlays : Nat
  f_simulcastlaw40_GraphLost : Nat
  f_simulcastlaw40_GraphVanishes : Nat
  f_simulcastlaw37_TreeShaped : Nat
  f_simulcastlaw37_TreePlays : Nat
  f_simulcastlaw37_TreeLost : Nat
  f_simulcastlaw40_GraphAnew : Nat
  f_simulcastlaw37_TreeOrders : Nat
  f_simulcastlaw37_TreeAnew : Nat
  f_simulcastlaw40_awake : Nat
  f_simulcastlaw40_played : Nat
  f_graph_Graph_Vertices : Nat
  f_graph_Graph_Out : Nat
  f_graph_Graph_In : Nat
  f_graph_Graph_Edges : Nat
  f_simulcastlaw40_handle : Nat
  f_graph_Graph_Weight : Nat
  f_simulcastref40_Weight : Nat
  f_graph_Graph_Label : Nat
  f_simulcastref40_Has : Nat
  f_simulcastref40_Label : Nat
  f_simulcastlaw40_made : Nat
  f_simulcastlaw40_empty : Nat
  f_simulcastlaw40_do : Nat
  f_simulcastlaw40_same : Nat
  f_space_New : Nat
  f_space_Space_Mark : Nat
  f_graph_Graph_Add : Nat
  f_graph_Graph_Link : Nat
  f_graph_Graph_Cut : Nat
  f_graph_Graph_Drop : Nat
  f_space_Space_Ended : Nat
  f_simulcastref40_Out : Nat
  f_simulcastref40_In : Nat
  f_pool_Pool_Free : Nat
  f_space_Space_Get : Nat
  f_simulcastlaw37_awake : Nat
  f_simulcastlaw37_made : Nat
  f_simulcastlaw37_empty : Nat
  f_simulcastlaw37_do : Nat
  f_simulcastlaw37_shaped : Nat
  f_simulcastlaw37_same : Nat
  f_tree_Tree_Drop : Nat
  f_tree_Tree_Get : Nat
  f_tree_Tree_Sum : Nat
  f_tree_Tree_Count : Nat
  f_tree_Tree_Next : Nat
  f_tree_Tree_Nth : Nat
  f_tree_Tree_Put : Nat
  f_tree_Tree_Walk : Nat
  f_space_Space_Need : Nat
  f_space_Space_Writes : Nat
  f_simulcastlaw37_reads : Nat
  f_tree_Tree_Len : Nat
  f_simulcastref40_Same : Nat
  f_graph_Graph_through : Nat
  f_graph_Graph_all : Nat
  f_graph_Graph_edges : Nat
  f_graph_Graph_out : Nat
  f_graph_Graph_in : Nat
  f_graph_Graph_vertex : Nat
  f_graph_Graph_find : Nat
  f_graph_at : Nat
  f_pool_Pool_Node : Nat
  f_simulcastref40_Add : Nat
  f_simulcastref40_Is : Nat
  f_simulcastref40_Link : Nat
  f_simulcastref40_Cut : Nat
  f_simulcastref40_Drop : Nat
  f_graph_undo : Nat
  f_pool_Pool_Take : Nat
  f_graph_Graph_vertexMark : Nat
  f_space_Space_Put : Nat
  f_graph_Graph_link : Nat
  f_graph_more : Nat
  f_graph_Graph_edgeMark : Nat
  f_graph_Graph_edge : Nat
  f_graph_Graph_cut : Nat
  f_graph_Graph_empty : Nat
  f_graph_Graph_unlink : Nat
  f_pool_Pool_Give : Nat
  f_pool_Pool_Check : Nat
  f_space_Space_reads : Nat
  f_space_Space_value : Nat
  f_simulcastref37_Get : Nat
  f_simulcastref37_Drop : Nat
  f_simulcastref37_Range : Nat
  f_simulcastref37_Next : Nat
  f_simulcastref37_Nth : Nat
  f_simulcastref37_Put : Nat
  f_simulcastref37_Top : Nat
  f_tree_undo : Nat
  f_tree_Tree_work : Nat
  f_tree_work_path : Nat
  f_tree_work_get : Nat
  f_tree_work_hang : Nat
  f_tree_work_merge : Nat
  f_tree_work_add : Nat
  f_tree_work_way : Nat
  f_tree_Tree_between : Nat
  f_tree_Tree_Sum_1 : Nat
  f_tree_Tree_Count_1 : Nat
  f_tree_work_is : Nat
  f_tree_work_of : Nat
  f_tree_work_put : Nat
  f_tree_rank : Nat
  f_tree_work_split : Nat
  f_tree_work_refresh : Nat
  f_tree_walker_below : Nat
  f_slices_Sort_api_Loc_api_Loc : Nat
  f_slices_Compact_api_Loc_api_Loc : Nat
  f_space_Space_Reads : Nat
  f_graph_Graph_through_1 : Nat
  f_graph_Graph_node : Nat
  f_space_Space_Back : Nat
  f_pool_Pool_add : Nat
  f_space_Space_last : Nat
  f_simulcastref37_find : Nat
  f_simulcastref37_Rank : Nat
  f_tree_kid : Nat
  f_tree_work_way_1 : Nat
  f_tree_Tree_until : Nat
  f_slices_pdqsortOrdered_api_Loc : Nat
  f_math_bits_Len : Nat
  f_slices_insertionSortOrdered_api_Loc : Nat
  f_slices_heapSortOrdered_api_Loc : Nat
  f_slices_breakPatternsOrdered_api_Loc : Nat
  f_slices_choosePivotOrdered_api_Loc : Nat
  f_slices_reverseRangeOrdered_api_Loc : Nat
  f_slices_partialInsertionSortOrdered_api_Loc : Nat
  f_cmp_Less_api_Loc : Nat
  f_slices_partitionEqualOrdered_api_Loc : Nat
  f_slices_partitionOrdered_api_Loc : Nat
  f_math_bits_Len32 : Nat
  f_math_bits_Len64 : Nat
  f_slices_siftDownOrdered_api_Loc : Nat
  f_slices_nextPowerOfTwo : Nat
  f_slices_xorshift_Next : Nat
  f_slices_medianAdjacentOrdered_api_Loc : Nat
  f_slices_medianOrdered_api_Loc : Nat
  f_cmp_isNaN_api_Loc : Nat
  f_slices_order2Ordered_api_Loc : Nat
  t_int64 : Nat
  t_int : Nat
  t_bool : Nat
  t_api_Loc : Nat
  t_pool_Pool : Nat
  t_graph_Graph : Nat
  t_p_space_Space : Nat
  t_simulcastref40_Graph : Nat
  t_s_int64 : Nat
  t_api_Errno : Nat
  t_s_2_int64 : Nat
  t_2_int64 : Nat
  t_simulcastlaw40_Call : Nat
  t_api_Word : Nat
  t_tree_Tree : Nat
  t_simulcastlaw37_Call : Nat
  t_graph_list : Nat
  t_p_api_Errno : Nat
  t_simulcastref40_Edge : Nat
  t_simulcastref40_Vertex : Nat
  t_space_Space : Nat
  t_simulcastref37_Pair : Nat
  t_p_tree_work : Nat
  t_s_tree_step : Nat
  t_tree_work : Nat
  t_tree_step : Nat
  t_tree_walker : Nat
  t_space_put : Nat
  t_slices_xorshift : Nat

def F_simulcastlaw40_GraphBoth (S : Sys) (I : Ids) (l0 : Value) (h : Hp) (R : Value → Hp → Prop) : Prop :=
  S.C I.f_simulcastlaw40_awake [] h fun v22 h1 =>
  Vb (uno .not v22) fun v23 =>
  Br v23 (
    R (Value.bool false) h1) (
    Vb (lnS l0) fun v25 =>
    Vb (bin .gtr v25 (Value.int IntKind.i64 40)) fun v26 =>
    Br v26 (
      R (Value.bool true) h1) (
      S.C I.f_simulcastlaw40_played [l0] h1 fun v29 h2 =>
      Vb (ext 0 v29) fun v30 =>
      Vb (ext 1 v29) fun v31 =>
      Vb (ext 2 v29) fun v32 =>
      Vb (ext 3 v29) fun v33 =>
      Vb (ext 4 v29) fun v34 =>
      Eb (nw #[Value.int IntKind.i64 0, Value.int IntKind.i64 0, Value.int IntKind.i64 0, Value.int IntKind.i64 0] I.t_graph_Graph h2) fun g3 h3 =>
      Eb (nw #[Value.slice none 0 0, Value.slice none 0 0] I.t_simulcastref40_Graph h3) fun v5 h4 =>
      Sb (sto 4 g3 v30 h4) fun h5 =>
      Sb (sto 2 v5 v32 h5) fun h6 =>
      Vb (lda 4 g3 h6) fun v36 =>
      S.C I.f_graph_Graph_Vertices [v36, v31] h6 fun v38 h7 =>
      Vb (ext 0 v38) fun v39 =>
      Vb (ext 1 v38) fun v40 =>
      Vb (bin .neq v40 (Value.int IntKind.i64 0)) fun v42 =>
      Br v42 (
        R (Value.bool false) h7) (
        Lp3 (Value.int IntKind.i64 0) (Value.int IntKind.i64 0) (Value.int IntKind.i64 0) h7 fun n10 m11 i12 h8 again0 =>
        Vb (lnS v39) fun v45 =>
        Vb (bin .lss i12 v45) fun v46 =>
        Br v46 (
          Vb (lda 4 g3 h8) fun v50 =>
          Vb (ixs 1 v39 i12) fun v54 =>
          Vb (ldc v54 h8) fun v55 =>
          S.C I.f_graph_Graph_Out [v50, v31, v55] h8 fun v56 h9 =>
          Vb (ext 0 v56) fun v57 =>
          Vb (ext 1 v56) fun v58 =>
          Vb (lda 4 g3 h9) fun v60 =>
          Vb (ixs 1 v39 i12) fun v64 =>
          Vb (ldc v64 h9) fun v65 =>
          S.C I.f_graph_Graph_In [v60, v31, v65] h9 fun v66 h10 =>
          Vb (ext 0 v66) fun v67 =>
          Vb (ext 1 v66) fun v68 =>
          Jn1 (fun v74 h11 =>
              Br v74 (
                R (Value.bool false) h11) (
                Vb (lnS v57) fun v77 =>
                Vb (bin .add n10 v77) fun v78 =>
                Vb (lnS v67) fun v81 =>
                Vb (bin .add m11 v81) fun v82 =>
                Lp1 (Value.int IntKind.i64 0) h11 fun k17 h12 again1 =>
                Vb (lnS v57) fun v85 =>
                Vb (bin .lss k17 v85) fun v86 =>
                Br v86 (
                  Vb (lda 4 g3 h12) fun v90 =>
                  Vb (ixs 2 v57 k17) fun v94 =>
                  Vb (ixa 2 1 v94 (Value.int IntKind.i64 0)) fun v95 =>
                  Vb (ldc v95 h12) fun v96 =>
                  S.C I.f_graph_Graph_In [v90, v31, v96] h12 fun v97 h13 =>
                  Vb (ext 0 v97) fun v98 =>
                  Vb (ext 1 v97) fun v99 =>
                  Lp2 (Value.int IntKind.i64 0) (Value.int IntKind.i64 0) h13 fun met20 b21 h14 again2 =>
                  Vb (lnS v98) fun v102 =>
                  Vb (bin .lss b21 v102) fun v103 =>
                  Br v103 (
                    Jn1 (fun met20_1 h15 =>
                        Vb (bin .add b21 (Value.int IntKind.i64 1)) fun v105 =>
                        again2 met20_1 v105 h15) fun J1 =>
                    Vb (ixs 2 v98 b21) fun v108 =>
                    Vb (lda 2 v108 h14) fun v109 =>
                    Vb (ixs 1 v39 i12) fun v112 =>
                    Vb (ldc v112 h14) fun v113 =>
                    Vb (ixs 2 v57 k17) fun v116 =>
                    Vb (ixa 2 1 v116 (Value.int IntKind.i64 1)) fun v117 =>
                    Vb (ldc v117 h14) fun v118 =>
                    Vb (bldA 1 #[Value.int IntKind.i64 0, Value.int IntKind.i64 0] [(0, v113), (1, v118)]) fun v119 =>
                    Vb (pos? (eqA [true, true] v109 v119)) fun v120 =>
                    Br v120 (
                      Vb (bin .add met20 (Value.int IntKind.i64 1)) fun v122 =>
                      J1 v122 h14) (
                      J1 met20 h14)) (
                    Jn1 (fun v128 h16 =>
                        Br v128 (
                          R (Value.bool false) h16) (
                          Vb (bin .add k17 (Value.int IntKind.i64 1)) fun v88 =>
                          again1 v88 h16)) fun J2 =>
                    Vb (bin .neq v99 (Value.int IntKind.i64 0)) fun v124 =>
                    Br v124 (
                      J2 (Value.bool true) h14) (
                      Vb (bin .neq met20 (Value.int IntKind.i64 1)) fun v127 =>
                      J2 v127 h14))) (
                  Vb (bin .add i12 (Value.int IntKind.i64 1)) fun v48 =>
                  again0 v78 v82 v48 h12))) fun J0 =>
          Vb (bin .neq v58 (Value.int IntKind.i64 0)) fun v70 =>
          Br v70 (
            J0 (Value.bool true) h10) (
            Vb (bin .neq v68 (Value.int IntKind.i64 0)) fun v73 =>
            J0 v73 h10)) (
          Jn1 (fun v2 h17 =>
              R v2 h17) fun J3 =>
          Vb (bin .eql n10 m11) fun v131 =>
          Br v131 (
            Vb (lda 4 g3 h8) fun v134 =>
            S.C I.f_graph_Graph_Edges [v134, v31] h8 fun v136 h18 =>
            Vb (bin .eql n10 v136) fun v137 =>
            J3 v137 h18) (
            J3 (Value.bool false) h8)))))

def F_simulcastlaw40_GraphWeighs (S : Sys) (I : Ids) (l0 a1 b2 : Value) (h : Hp) (R : Value → Hp → Prop) : Prop :=
  S.C I.f_simulcastlaw40_awake [] h fun v24 h1 =>
  Vb (uno .not v24) fun v25 =>
  Br v25 (
    R (Value.bool false) h1) (
    Vb (lnS l0) fun v27 =>
    Vb (bin .gtr v27 (Value.int IntKind.i64 40)) fun v28 =>
    Br v28 (
      R (Value.bool true) h1) (
      S.C I.f_simulcastlaw40_played [l0] h1 fun v31 h2 =>
      Vb (ext 0 v31) fun v32 =>
      Vb (ext 1 v31) fun v33 =>
      Vb (ext 2 v31) fun v34 =>
      Vb (ext 3 v31) fun v35 =>
      Vb (ext 4 v31) fun v36 =>
      Eb (nw #[Value.int IntKind.i64 0, Value.int IntKind.i64 0, Value.int IntKind.i64 0, Value.int IntKind.i64 0] I.t_graph_Graph h2) fun g7 h3 =>
      Eb (nw #[Value.slice none 0 0, Value.slice none 0 0] I.t_simulcastref40_Graph h3) fun x9 h4 =>
      Sb (sto 4 g7 v32 h4) fun h5 =>
      Sb (sto 2 x9 v34 h5) fun h6 =>
      Vb (uno .not v36) fun v38 =>
      Br v38 (
        R (Value.bool false) h6) (
        S.C I.f_simulcastlaw40_handle [v35, a1] h6 fun v41 h7 =>
        S.C I.f_simulcastlaw40_handle [v35, b2] h7 fun v44 h8 =>
        Vb (lda 4 g7 h8) fun v46 =>
        S.C I.f_graph_Graph_Weight [v46, v33, v41, v44] h8 fun v50 h9 =>
        Vb (ext 0 v50) fun v51 =>
        Vb (ext 1 v50) fun v52 =>
        Vb (lda 2 x9 h9) fun v54 =>
        S.C I.f_simulcastref40_Weight [v54, v41, v44] h9 fun v57 h10 =>
        Vb (ext 0 v57) fun v58 =>
        Vb (ext 1 v57) fun v59 =>
        Jn1 (fun v67 h11 =>
            Br v67 (
              R (Value.bool false) h11) (
              Vb (lda 4 g7 h11) fun v69 =>
              S.C I.f_graph_Graph_Label [v69, v33, v41] h11 fun v72 h12 =>
              Vb (ext 0 v72) fun v73 =>
              Vb (ext 1 v72) fun v74 =>
              Vb (lda 4 g7 h12) fun v76 =>
              S.C I.f_graph_Graph_Out [v76, v33, v41] h12 fun v79 h13 =>
              Vb (ext 0 v79) fun v80 =>
              Vb (ext 1 v79) fun v81 =>
              Vb (lda 4 g7 h13) fun v83 =>
              S.C I.f_graph_Graph_In [v83, v33, v41] h13 fun v86 h14 =>
              Vb (ext 0 v86) fun v87 =>
              Vb (ext 1 v86) fun v88 =>
              Vb (lda 2 x9 h14) fun v89 =>
              S.C I.f_simulcastref40_Has [v89, v41] h14 fun v91 h15 =>
              Br v91 (
                Jn1 (fun v6 h16 =>
                    R v6 h16) fun J1 =>
                Vb (bin .eql v74 (Value.int IntKind.i64 0)) fun v93 =>
                Br v93 (
                  Vb (bin .eql v81 (Value.int IntKind.i64 0)) fun v96 =>
                  Br v96 (
                    Vb (bin .eql v88 (Value.int IntKind.i64 0)) fun v100 =>
                    Br v100 (
                      Vb (lda 2 x9 h15) fun v104 =>
                      S.C I.f_simulcastref40_Label [v104, v41] h15 fun v106 h17 =>
                      Vb (bin .eql v73 v106) fun v107 =>
                      J1 v107 h17) (
                      J1 (Value.bool false) h15)) (
                    J1 (Value.bool false) h15)) (
                  J1 (Value.bool false) h15)) (
                Jn1 (fun v6_1 h18 =>
                    R v6_1 h18) fun J2 =>
                Vb (bin .eql v74 (Value.int IntKind.i64 10)) fun v110 =>
                Br v110 (
                  Vb (bin .eql v81 (Value.int IntKind.i64 10)) fun v113 =>
                  Br v113 (
                    Vb (bin .eql v88 (Value.int IntKind.i64 10)) fun v117 =>
                    Br v117 (
                      Vb (bin .eql v73 (Value.int IntKind.i64 0)) fun v121 =>
                      Br v121 (
                        Vb (lnS v80) fun v125 =>
                        Vb (bin .eql v125 (Value.int IntKind.i64 0)) fun v126 =>
                        Br v126 (
                          Vb (lnS v87) fun v130 =>
                          Vb (bin .eql v130 (Value.int IntKind.i64 0)) fun v131 =>
                          J2 v131 h15) (
                          J2 (Value.bool false) h15)) (
                        J2 (Value.bool false) h15)) (
                      J2 (Value.bool false) h15)) (
                    J2 (Value.bool false) h15)) (
                  J2 (Value.bool false) h15)))) fun J0 =>
        Vb (bin .neq v51 v58) fun v62 =>
        Br v62 (
          J0 (Value.bool true) h10) (
          Vb (neg? (eqB v52 v59)) fun v66 =>
          J0 v66 h10))))

def F_simulcastlaw40_GraphPlays (S : Sys) (I : Ids) (l0 nodes1 : Value) (h : Hp) (R : Value → Hp → Prop) : Prop :=
  S.C I.f_simulcastlaw40_awake [] h fun v14 h1 =>
  Vb (uno .not v14) fun v15 =>
  Br v15 (
    R (Value.bool false) h1) (
    Vb (lnS l0) fun v17 =>
    Vb (bin .gtr v17 (Value.int IntKind.i64 40)) fun v18 =>
    Br v18 (
      R (Value.bool true) h1) (
      Vb (bin .rem nodes1 (Value.int IntKind.u8 24)) fun v21 =>
      Vb (cvi .i64 v21) fun v22 =>
      Vb (bin .add v22 (Value.int IntKind.i64 1)) fun v23 =>
      S.C I.f_simulcastlaw40_made [v23] h1 fun v24 h2 =>
      Vb (ext 0 v24) fun v25 =>
      Vb (ext 1 v24) fun v26 =>
      Eb (nw #[Value.int IntKind.i64 0, Value.int IntKind.i64 0, Value.int IntKind.i64 0, Value.int IntKind.i64 0] I.t_graph_Graph h2) fun g5 h3 =>
      Sb (sto 4 g5 v25 h3) fun h4 =>
      S.C I.f_simulcastlaw40_empty [v26] h4 fun v28 h5 =>
      Eb (nw #[Value.slice none 0 0, Value.slice none 0 0] I.t_simulcastref40_Graph h5) fun x8 h6 =>
      Lp2 (Value.slice none 0 0) (Value.int IntKind.i64 0) h6 fun all9 i10 h7 again0 =>
      Vb (lnS l0) fun v31 =>
      Vb (bin .lss i10 v31) fun v32 =>
      Br v32 (
        Jn3 (fun y11 more12 ok13 h8 =>
            Jn1 (fun v56 h9 =>
                Br v56 (
                  R (Value.bool false) h9) (
                  Vb (lda 2 y11 h9) fun v57 =>
                  Sb (sto 2 x8 v57 h9) fun h10 =>
                  Vb (bin .add i10 (Value.int IntKind.i64 1)) fun v34 =>
                  again0 more12 v34 h10)) fun J1 =>
            Vb (uno .not ok13) fun v49 =>
            Br v49 (
              J1 (Value.bool true) h8) (
              Vb (lda 4 g5 h8) fun v51 =>
              Vb (lda 2 y11 h8) fun v53 =>
              S.C I.f_simulcastlaw40_same [v51, v28, v53] h8 fun v54 h11 =>
              Vb (uno .not v54) fun v55 =>
              J1 v55 h11)) fun J0 =>
        Vb (lda 4 g5 h7) fun v36 =>
        Vb (lda 2 x8 h7) fun v38 =>
        Vb (ixs 4 l0 i10) fun v42 =>
        Vb (lda 4 v42 h7) fun v43 =>
        And (
          S.C I.f_simulcastlaw40_do [v36, v28, v38, all9, v43] h7 fun v44 h12 =>
          Vb (ext 0 v44) fun v45 =>
          Vb (ext 1 v44) fun v46 =>
          Vb (ext 2 v44) fun v47 =>
          Eb (nw #[Value.slice none 0 0, Value.slice none 0 0] I.t_simulcastref40_Graph h12) fun y11_1 h13 =>
          Sb (sto 2 y11_1 v45 h13) fun h14 =>
          J0 y11_1 v46 v47 h14) (
          Eb (nw #[Value.slice none 0 0, Value.slice none 0 0] I.t_simulcastref40_Graph h7) fun y11_2 h15 =>
          lda 4 v42 h15 = some v43 ∧
          lda 2 x8 h15 = some v38 ∧
          lda 4 g5 h15 = some v36 ∧
          S.C I.f_simulcastlaw40_do [v36, v28, v38, all9, v43] h15 fun v44_1 h16 =>
          Vb (ext 0 v44_1) fun v45_1 =>
          Vb (ext 1 v44_1) fun v46_1 =>
          Vb (ext 2 v44_1) fun v47_1 =>
          Sb (sto 2 y11_2 v45_1 h16) fun h17 =>
          J0 y11_2 v46_1 v47_1 h17)) (
        R (Value.bool true) h7)))

def F_simulcastlaw40_GraphLost (S : Sys) (I : Ids) (vals0 l1 : Value) (h : Hp) (R : Value → Hp → Prop) : Prop :=
  S.C I.f_simulcastlaw40_awake [] h fun v22 h1 =>
  Vb (uno .not v22) fun v23 =>
  Br v23 (
    R (Value.bool false) h1) (
    Jn1 (fun v31 h2 =>
        Br v31 (
          R (Value.bool true) h2) (
          S.C I.f_simulcastlaw40_made [(Value.int IntKind.i64 8)] h2 fun v33 h3 =>
          Vb (ext 0 v33) fun v34 =>
          Vb (ext 1 v33) fun v35 =>
          Eb (nw #[Value.int IntKind.i64 0, Value.int IntKind.i64 0, Value.int IntKind.i64 0, Value.int IntKind.i64 0] I.t_graph_Graph h3) fun g5 h4 =>
          Sb (sto 4 g5 v34 h4) fun h5 =>
          Eb (mmk h5) fun v36 h6 =>
          Lp1 (Value.int IntKind.i64 0) h6 fun i8 h7 again0 =>
          Vb (bin .lss i8 v35) fun v39 =>
          Br v39 (
            Jn0 (fun h8 =>
                Vb (bin .add i8 (Value.int IntKind.i64 1)) fun v41 =>
                again0 v41 h8) fun J1 =>
            Vb (bldS [(0, 1), (1, 1), (2, 1)] #[Value.int IntKind.i64 0, Value.int IntKind.u32 0, Value.int IntKind.u32 0] []) fun v44 =>
            Sb (mup (.int .i64) v36 i8 v44 h7) fun h9 =>
            Vb (lnS vals0) fun v47 =>
            Vb (bin .lss i8 v47) fun v48 =>
            Br v48 (
              Vb (ixs 1 vals0 i8) fun v53 =>
              Vb (ldc v53 h9) fun v54 =>
              Vb (bldS [(0, 1), (1, 1), (2, 1)] #[Value.int IntKind.i64 0, Value.int IntKind.u32 0, Value.int IntKind.u32 0] [(0, v54)]) fun v55 =>
              Sb (mup (.int .i64) v36 i8 v55 h9) fun h10 =>
              J1 h10) (
              J1 h9)) (
            S.C I.f_space_New [v36] h7 fun v57 h11 =>
            Lp1 (Value.int IntKind.i64 0) h11 fun i10 h12 again1 =>
            Vb (lnS l1) fun v60 =>
            Vb (bin .lss i10 v60) fun v61 =>
            Br v61 (
              S.C I.f_space_Space_Mark [v57] h12 fun v65 h13 =>
              Vb (ixs 4 l1 i10) fun v68 =>
              Vb (fa 1 v68) fun v69 =>
              Vb (ldc v69 h13) fun v70 =>
              Vb (cvi .i64 v70) fun v71 =>
              Vb (bin .rem v71 (Value.int IntKind.i64 9)) fun v72 =>
              Vb (bin .mul (Value.int IntKind.i64 8) v72) fun v73 =>
              Vb (bin .add (Value.int IntKind.i64 24) v73) fun v74 =>
              Vb (ixs 4 l1 i10) fun v77 =>
              Vb (fa 2 v77) fun v78 =>
              Vb (ldc v78 h13) fun v79 =>
              Vb (cvi .i64 v79) fun v80 =>
              Vb (bin .rem v80 (Value.int IntKind.i64 9)) fun v81 =>
              Vb (bin .mul (Value.int IntKind.i64 8) v81) fun v82 =>
              Vb (bin .add (Value.int IntKind.i64 24) v82) fun v83 =>
              Jn2 (fun v14 e15 h14 =>
                  Vb (lda 4 g5 h14) fun v135 =>
                  S.C I.f_graph_Graph_Weight [v135, v57, v74, v83] h14 fun v139 h15 =>
                  Vb (lda 4 g5 h15) fun v141 =>
                  S.C I.f_graph_Graph_Out [v141, v57, v74] h15 fun v144 h16 =>
                  Vb (ext 0 v144) fun v145 =>
                  Vb (ext 1 v144) fun v146 =>
                  Vb (lda 4 g5 h16) fun v148 =>
                  S.C I.f_graph_Graph_In [v148, v57, v83] h16 fun v151 h17 =>
                  Vb (ext 0 v151) fun v152 =>
                  Vb (ext 1 v151) fun v153 =>
                  Vb (lda 4 g5 h17) fun v155 =>
                  S.C I.f_graph_Graph_Vertices [v155, v57] h17 fun v157 h18 =>
                  Vb (ext 0 v157) fun v158 =>
                  Vb (ext 1 v157) fun v159 =>
                  Jn1 (fun v202 h19 =>
                      Br v202 (
                        R (Value.bool false) h19) (
                        Vb (bin .add i10 (Value.int IntKind.i64 1)) fun v63 =>
                        again1 v63 h19)) fun J3 =>
                  S.C I.f_space_Space_Ended [v57] h18 fun v161 h20 =>
                  Br v161 (
                    J3 (Value.bool true) h20) (
                    Vb (bin .neq e15 (Value.int IntKind.i64 0)) fun v164 =>
                    Br v164 (
                      S.C I.f_space_Space_Mark [v57] h20 fun v167 h21 =>
                      Vb (bin .neq v167 v65) fun v169 =>
                      Br v169 (
                        J3 (Value.bool true) h21) (
                        Vb (bin .neq v14 (Value.int IntKind.i64 0)) fun v172 =>
                        Br v172 (
                          J3 (Value.bool true) h21) (
                          Vb (bin .neq v146 (Value.int IntKind.i64 0)) fun v178 =>
                          Br v178 (
                            Vb (lnS v145) fun v181 =>
                            Vb (bin .gtr v181 (Value.int IntKind.i64 0)) fun v182 =>
                            Br v182 (
                              J3 (Value.bool true) h21) (
                              Vb (bin .neq v153 (Value.int IntKind.i64 0)) fun v187 =>
                              Br v187 (
                                Vb (lnS v152) fun v190 =>
                                Vb (bin .gtr v190 (Value.int IntKind.i64 0)) fun v191 =>
                                Br v191 (
                                  J3 (Value.bool true) h21) (
                                  Vb (bin .neq v159 (Value.int IntKind.i64 0)) fun v196 =>
                                  Br v196 (
                                    Vb (lnS v158) fun v199 =>
                                    Vb (bin .gtr v199 (Value.int IntKind.i64 0)) fun v200 =>
                                    J3 v200 h21) (
                                    J3 (Value.bool false) h21))) (
                                Vb (bin .neq v159 (Value.int IntKind.i64 0)) fun v196_1 =>
                                Br v196_1 (
                                  Vb (lnS v158) fun v199_1 =>
                                  Vb (bin .gtr v199_1 (Value.int IntKind.i64 0)) fun v200_1 =>
                                  J3 v200_1 h21) (
                                  J3 (Value.bool false) h21)))) (
                            Vb (bin .neq v153 (Value.int IntKind.i64 0)) fun v187_1 =>
                            Br v187_1 (
                              Vb (lnS v152) fun v190_1 =>
                              Vb (bin .gtr v190_1 (Value.int IntKind.i64 0)) fun v191_1 =>
                              Br v191_1 (
                                J3 (Value.bool true) h21) (
                                Vb (bin .neq v159 (Value.int IntKind.i64 0)) fun v196_2 =>
                                Br v196_2 (
                                  Vb (lnS v158) fun v199_2 =>
                                  Vb (bin .gtr v199_2 (Value.int IntKind.i64 0)) fun v200_2 =>
                                  J3 v200_2 h21) (
                                  J3 (Value.bool false) h21))) (
                              Vb (bin .neq v159 (Value.int IntKind.i64 0)) fun v196_3 =>
                              Br v196_3 (
                                Vb (lnS v158) fun v199_3 =>
                                Vb (bin .gtr v199_3 (Value.int IntKind.i64 0)) fun v200_3 =>
                                J3 v200_3 h21) (
                                J3 (Value.bool false) h21)))))) (
                      Vb (bin .neq v146 (Value.int IntKind.i64 0)) fun v178_1 =>
                      Br v178_1 (
                        Vb (lnS v145) fun v181_1 =>
                        Vb (bin .gtr v181_1 (Value.int IntKind.i64 0)) fun v182_1 =>
                        Br v182_1 (
                          J3 (Value.bool true) h20) (
                          Vb (bin .neq v153 (Value.int IntKind.i64 0)) fun v187_2 =>
                          Br v187_2 (
                            Vb (lnS v152) fun v190_2 =>
                            Vb (bin .gtr v190_2 (Value.int IntKind.i64 0)) fun v191_2 =>
                            Br v191_2 (
                              J3 (Value.bool true) h20) (
                              Vb (bin .neq v159 (Value.int IntKind.i64 0)) fun v196_4 =>
                              Br v196_4 (
                                Vb (lnS v158) fun v199_4 =>
                                Vb (bin .gtr v199_4 (Value.int IntKind.i64 0)) fun v200_4 =>
                                J3 v200_4 h20) (
                                J3 (Value.bool false) h20))) (
                            Vb (bin .neq v159 (Value.int IntKind.i64 0)) fun v196_5 =>
                            Br v196_5 (
                              Vb (lnS v158) fun v199_5 =>
                              Vb (bin .gtr v199_5 (Value.int IntKind.i64 0)) fun v200_5 =>
                              J3 v200_5 h20) (
                              J3 (Value.bool false) h20)))) (
                        Vb (bin .neq v153 (Value.int IntKind.i64 0)) fun v187_3 =>
                        Br v187_3 (
                          Vb (lnS v152) fun v190_3 =>
                          Vb (bin .gtr v190_3 (Value.int IntKind.i64 0)) fun v191_3 =>
                          Br v191_3 (
                            J3 (Value.bool true) h20) (
                            Vb (bin .neq v159 (Value.int IntKind.i64 0)) fun v196_6 =>
                            Br v196_6 (
                              Vb (lnS v158) fun v199_6 =>
                              Vb (bin .gtr v199_6 (Value.int IntKind.i64 0)) fun v200_6 =>
                              J3 v200_6 h20) (
                              J3 (Value.bool false) h20))) (
                          Vb (bin .neq v159 (Value.int IntKind.i64 0)) fun v196_7 =>
                          Br v196_7 (
                            Vb (lnS v158) fun v199_7 =>
                            Vb (bin .gtr v199_7 (Value.int IntKind.i64 0)) fun v200_7 =>
                            J3 v200_7 h20) (
                            J3 (Value.bool false) h20)))))) fun J2 =>
              Vb (ixs 4 l1 i10) fun v86 =>
              Vb (fa 0 v86) fun v87 =>
              Vb (ldc v87 h13) fun v88 =>
              Vb (bin .rem v88 (Value.int IntKind.u8 8)) fun v89 =>
              Jn1 (fun v90 h22 =>
                  Br v90 (
                    Vb (lda 4 g5 h22) fun v94 =>
                    Vb (ixs 4 l1 i10) fun v98 =>
                    Vb (fa 3 v98) fun v99 =>
                    Vb (ldc v99 h22) fun v100 =>
                    S.C I.f_graph_Graph_Add [v94, v57, v100] h22 fun v101 h23 =>
                    Vb (ext 0 v101) fun v102 =>
                    Vb (ext 1 v101) fun v103 =>
                    J2 v102 v103 h23) (
                    Jn1 (fun v104 h24 =>
                        Br v104 (
                          Vb (lda 4 g5 h24) fun v108 =>
                          Vb (ixs 4 l1 i10) fun v114 =>
                          Vb (fa 3 v114) fun v115 =>
                          Vb (ldc v115 h24) fun v116 =>
                          S.C I.f_graph_Graph_Link [v108, v57, v74, v83, v116] h24 fun v117 h25 =>
                          Vb (ext 0 v117) fun v118 =>
                          Vb (ext 1 v117) fun v119 =>
                          J2 v118 v119 h25) (
                          Vb (bin .eql v89 (Value.int IntKind.u8 4)) fun v121 =>
                          Br v121 (
                            Vb (lda 4 g5 h24) fun v122 =>
                            S.C I.f_graph_Graph_Cut [v122, v57, v74] h24 fun v125 h26 =>
                            J2 (Value.int IntKind.i64 0) v125 h26) (
                            Vb (bin .eql v89 (Value.int IntKind.u8 5)) fun v127 =>
                            Br v127 (
                              Vb (lda 4 g5 h24) fun v129 =>
                              S.C I.f_graph_Graph_Drop [v129, v57, v74] h24 fun v132 h27 =>
                              Vb (ext 0 v132) fun v133 =>
                              Vb (ext 1 v132) fun v134 =>
                              J2 v133 v134 h27) (
                              J2 (Value.int IntKind.i64 0) (Value.int IntKind.i64 0) h24)))) fun J5 =>
                    Vb (bin .eql v89 (Value.int IntKind.u8 2)) fun v105 =>
                    Br v105 (
                      J5 v105 h22) (
                      Vb (bin .eql v89 (Value.int IntKind.u8 3)) fun v106 =>
                      J5 v106 h22))) fun J4 =>
              Vb (bin .eql v89 (Value.int IntKind.u8 0)) fun v91 =>
              Br v91 (
                J4 v91 h13) (
                Vb (bin .eql v89 (Value.int IntKind.u8 1)) fun v92 =>
                J4 v92 h13)) (
              R (Value.bool true) h12)))) fun J0 =>
    Vb (lnS vals0) fun v25 =>
    Vb (bin .gtr v25 (Value.int IntKind.i64 200)) fun v26 =>
    Br v26 (
      J0 (Value.bool true) h1) (
      Vb (lnS l1) fun v29 =>
      Vb (bin .gtr v29 (Value.int IntKind.i64 20)) fun v30 =>
      J0 v30 h1))

def F_simulcastlaw40_GraphVanishes (S : Sys) (I : Ids) (l0 at1 : Value) (h : Hp) (R : Value → Hp → Prop) : Prop :=
  S.C I.f_simulcastlaw40_awake [] h fun v27 h1 =>
  Vb (uno .not v27) fun v28 =>
  Br v28 (
    R (Value.bool false) h1) (
    Vb (lnS l0) fun v30 =>
    Vb (bin .gtr v30 (Value.int IntKind.i64 40)) fun v31 =>
    Br v31 (
      R (Value.bool true) h1) (
      S.C I.f_simulcastlaw40_played [l0] h1 fun v34 h2 =>
      Vb (ext 0 v34) fun v35 =>
      Vb (ext 1 v34) fun v36 =>
      Vb (ext 2 v34) fun v37 =>
      Vb (ext 3 v34) fun v38 =>
      Vb (ext 4 v34) fun v39 =>
      Eb (nw #[Value.int IntKind.i64 0, Value.int IntKind.i64 0, Value.int IntKind.i64 0, Value.int IntKind.i64 0] I.t_graph_Graph h2) fun g5 h3 =>
      Eb (nw #[Value.slice none 0 0, Value.slice none 0 0] I.t_simulcastref40_Graph h3) fun x7 h4 =>
      Sb (sto 4 g5 v35 h4) fun h5 =>
      Sb (sto 2 x7 v37 h5) fun h6 =>
      Vb (uno .not v39) fun v41 =>
      Br v41 (
        R (Value.bool false) h6) (
        S.C I.f_simulcastlaw40_handle [v38, at1] h6 fun v44 h7 =>
        Vb (lda 2 x7 h7) fun v45 =>
        Vb (lda 2 x7 h7) fun v49 =>
        S.C I.f_simulcastref40_Out [v45, v44] h7 fun v47 h8 =>
        lda 2 x7 h8 = some v49 ∧
        Vb (lnS v47) fun v48 =>
        S.C I.f_simulcastref40_In [v49, v44] h8 fun v51 h9 =>
        Vb (lnS v51) fun v52 =>
        Vb (bin .add v48 v52) fun v53 =>
        Vb (lda 2 x7 h9) fun v55 =>
        S.C I.f_simulcastref40_Weight [v55, v44, v44] h9 fun v58 h10 =>
        Vb (ext 0 v58) fun v59 =>
        Vb (ext 1 v58) fun v60 =>
        Jn1 (fun gone11 h11 =>
            Vb (lda 4 g5 h11) fun v65 =>
            S.C I.f_graph_Graph_Drop [v65, v36, v44] h11 fun v68 h12 =>
            Vb (ext 0 v68) fun v69 =>
            Vb (ext 1 v68) fun v70 =>
            Vb (lda 4 g5 h12) fun v72 =>
            S.C I.f_graph_Graph_Vertices [v72, v36] h12 fun v74 h13 =>
            Vb (ext 0 v74) fun v75 =>
            Vb (ext 1 v74) fun v76 =>
            Vb (fa 0 g5) fun v78 =>
            Vb (lda 3 v78 h13) fun v79 =>
            Vb (some (.func (.func I.f_space_Space_Get) #[v36] #[])) fun v81 =>
            S.C I.f_pool_Pool_Free [v79, v81] h13 fun v82 h14 =>
            Vb (ext 0 v82) fun v83 =>
            Vb (ext 1 v82) fun v84 =>
            Jn1 (fun v107 h15 =>
                Br v107 (
                  R (Value.bool false) h15) (
                  Vb (bin .neq v70 (Value.int IntKind.i64 0)) fun v109 =>
                  Br v109 (
                    Jn1 (fun v4 h16 =>
                        R v4 h16) fun J2 =>
                    Vb (bin .eql v70 (Value.int IntKind.i64 10)) fun v111 =>
                    Br v111 (
                      Vb (lnS v75) fun v114 =>
                      Vb (fa 0 x7) fun v115 =>
                      Vb (ldc v115 h15) fun v116 =>
                      Vb (lnS v116) fun v117 =>
                      Vb (bin .eql v114 v117) fun v118 =>
                      Br v118 (
                        Vb (lda 4 g5 h15) fun v121 =>
                        Vb (fa 1 x7) fun v124 =>
                        Vb (ldc v124 h15) fun v125 =>
                        Vb (lnS v125) fun v126 =>
                        S.C I.f_graph_Graph_Edges [v121, v36] h15 fun v123 h17 =>
                        ldc v124 h17 = some v125 ∧
                        Vb (bin .eql v123 v126) fun v127 =>
                        J2 v127 h17) (
                        J2 (Value.bool false) h15)) (
                      J2 (Value.bool false) h15)) (
                    Lp1 (Value.int IntKind.i64 0) h15 fun i20 h18 again0 =>
                    Vb (lnS v75) fun v131 =>
                    Vb (bin .lss i20 v131) fun v132 =>
                    Br v132 (
                      Vb (lda 4 g5 h18) fun v136 =>
                      Vb (ixs 1 v75 i20) fun v140 =>
                      Vb (ldc v140 h18) fun v141 =>
                      S.C I.f_graph_Graph_Out [v136, v36, v141] h18 fun v142 h19 =>
                      Vb (ext 0 v142) fun v143 =>
                      Vb (ext 1 v142) fun v144 =>
                      Vb (lda 4 g5 h19) fun v146 =>
                      Vb (ixs 1 v75 i20) fun v150 =>
                      Vb (ldc v150 h19) fun v151 =>
                      S.C I.f_graph_Graph_In [v146, v36, v151] h19 fun v152 h20 =>
                      Vb (ext 0 v152) fun v153 =>
                      Vb (ext 1 v152) fun v154 =>
                      Lp1 (Value.int IntKind.i64 0) h20 fun k25 h21 again1 =>
                      Vb (lnS v143) fun v157 =>
                      Vb (bin .lss k25 v157) fun v158 =>
                      Br v158 (
                        Vb (ixs 2 v143 k25) fun v163 =>
                        Vb (ixa 2 1 v163 (Value.int IntKind.i64 0)) fun v164 =>
                        Vb (ldc v164 h21) fun v165 =>
                        Vb (bin .eql v165 v44) fun v167 =>
                        Br v167 (
                          R (Value.bool false) h21) (
                          Vb (bin .add k25 (Value.int IntKind.i64 1)) fun v160 =>
                          again1 v160 h21)) (
                        Lp1 (Value.int IntKind.i64 0) h21 fun k26 h22 again2 =>
                        Vb (lnS v153) fun v170 =>
                        Vb (bin .lss k26 v170) fun v171 =>
                        Br v171 (
                          Vb (ixs 2 v153 k26) fun v176 =>
                          Vb (ixa 2 1 v176 (Value.int IntKind.i64 0)) fun v177 =>
                          Vb (ldc v177 h22) fun v178 =>
                          Vb (bin .eql v178 v44) fun v180 =>
                          Br v180 (
                            R (Value.bool false) h22) (
                            Vb (bin .add k26 (Value.int IntKind.i64 1)) fun v173 =>
                            again2 v173 h22)) (
                          Vb (ixs 1 v75 i20) fun v183 =>
                          Vb (ldc v183 h22) fun v184 =>
                          Vb (bin .eql v184 v44) fun v186 =>
                          Br v186 (
                            R (Value.bool false) h22) (
                            Vb (bin .add i20 (Value.int IntKind.i64 1)) fun v134 =>
                            again0 v134 h22)))) (
                      Jn1 (fun v4_1 h23 =>
                          R v4_1 h23) fun J3 =>
                      Vb (lnS v75) fun v188 =>
                      Vb (fa 0 x7) fun v189 =>
                      Vb (ldc v189 h18) fun v190 =>
                      Vb (lnS v190) fun v191 =>
                      Vb (bin .sub v191 (Value.int IntKind.i64 1)) fun v192 =>
                      Vb (bin .eql v188 v192) fun v193 =>
                      Br v193 (
                        Vb (lda 4 g5 h18) fun v195 =>
                        Vb (fa 1 x7) fun v198 =>
                        Vb (ldc v198 h18) fun v199 =>
                        Vb (lnS v199) fun v200 =>
                        Vb (bin .sub v200 gone11) fun v202 =>
                        S.C I.f_graph_Graph_Edges [v195, v36] h18 fun v197 h24 =>
                        ldc v198 h24 = some v199 ∧
                        Vb (bin .eql v197 v202) fun v203 =>
                        J3 v203 h24) (
                        J3 (Value.bool false) h18))))) fun J1 =>
            Vb (bin .neq v76 (Value.int IntKind.i64 0)) fun v86 =>
            Br v86 (
              J1 (Value.bool true) h14) (
              Vb (bin .neq v84 (Value.int IntKind.i64 0)) fun v89 =>
              Br v89 (
                J1 (Value.bool true) h14) (
                Vb (lnS v83) fun v93 =>
                S.C I.f_space_Space_Get [v36, (Value.int IntKind.i64 3)] h14 fun v95 h25 =>
                Vb (bin .neq v93 v95) fun v96 =>
                Br v96 (
                  J1 (Value.bool true) h25) (
                  S.C I.f_space_Space_Get [v36, (Value.int IntKind.i64 2)] h25 fun v100 h26 =>
                  S.C I.f_space_Space_Get [v36, (Value.int IntKind.i64 3)] h26 fun v102 h27 =>
                  S.C I.f_space_Space_Get [v36, (Value.int IntKind.i64 15)] h27 fun v104 h28 =>
                  Vb (bin .add v102 v104) fun v105 =>
                  Vb (bin .neq v100 v105) fun v106 =>
                  J1 v106 h28)))) fun J0 =>
        Br v60 (
          Vb (bin .sub v53 (Value.int IntKind.i64 1)) fun v63 =>
          J0 v63 h10) (
          J0 v53 h10))))

def F_simulcastlaw37_TreeShaped (S : Sys) (I : Ids) (l0 nodes1 : Value) (h : Hp) (R : Value → Hp → Prop) : Prop :=
  S.C I.f_simulcastlaw37_awake [] h fun v15 h1 =>
  Vb (uno .not v15) fun v16 =>
  Br v16 (
    R (Value.bool false) h1) (
    Vb (lnS l0) fun v18 =>
    Vb (bin .gtr v18 (Value.int IntKind.i64 40)) fun v19 =>
    Br v19 (
      R (Value.bool true) h1) (
      Vb (bin .rem nodes1 (Value.int IntKind.u8 24)) fun v21 =>
      Vb (cvi .i64 v21) fun v22 =>
      Vb (bin .add v22 (Value.int IntKind.i64 1)) fun v23 =>
      S.C I.f_simulcastlaw37_made [v23] h1 fun v26 h2 =>
      Vb (ext 0 v26) fun v27 =>
      Vb (ext 1 v26) fun v28 =>
      Eb (nw #[Value.int IntKind.i64 0, Value.int IntKind.i64 0, Value.int IntKind.i64 0, Value.int IntKind.i64 0] I.t_tree_Tree h2) fun t6 h3 =>
      Sb (sto 4 t6 v27 h3) fun h4 =>
      S.C I.f_simulcastlaw37_empty [v28] h4 fun v30 h5 =>
      Lp2 (Value.slice none 0 0) (Value.int IntKind.i64 0) h5 fun x9 i10 h6 again0 =>
      Vb (lnS l0) fun v33 =>
      Vb (bin .lss i10 v33) fun v34 =>
      Br v34 (
        Vb (lda 4 t6 h6) fun v38 =>
        Vb (ixs 3 l0 i10) fun v43 =>
        Vb (lda 3 v43 h6) fun v44 =>
        S.C I.f_simulcastlaw37_do [v38, v30, x9, v44, v23] h6 fun v46 h7 =>
        Vb (ext 0 v46) fun v47 =>
        Vb (ext 1 v46) fun v48 =>
        Vb (uno .not v48) fun v50 =>
        Br v50 (
          R (Value.bool false) h7) (
          Vb (bin .add i10 (Value.int IntKind.i64 1)) fun v36 =>
          again0 v47 v36 h7)) (
        Jn1 (fun v64 h8 =>
            Br v64 (
              R (Value.bool false) h8) (
              Vb (fa 0 t6) fun v66 =>
              Vb (lda 3 v66 h8) fun v67 =>
              Vb (some (.func (.func I.f_space_Space_Get) #[v30] #[])) fun v69 =>
              S.C I.f_pool_Pool_Free [v67, v69] h8 fun v70 h9 =>
              Vb (ext 0 v70) fun v71 =>
              Vb (ext 1 v70) fun v72 =>
              Jn1 (fun v4 h10 =>
                  R v4 h10) fun J1 =>
              Vb (bin .eql v72 (Value.int IntKind.i64 0)) fun v74 =>
              Br v74 (
                Vb (lnS v71) fun v77 =>
                S.C I.f_space_Space_Get [v30, (Value.int IntKind.i64 3)] h9 fun v79 h11 =>
                Vb (bin .eql v77 v79) fun v80 =>
                Br v80 (
                  S.C I.f_space_Space_Get [v30, (Value.int IntKind.i64 2)] h11 fun v84 h12 =>
                  Vb (lnS v71) fun v86 =>
                  Vb (lnS x9) fun v88 =>
                  Vb (bin .add v86 v88) fun v89 =>
                  Vb (bin .eql v84 v89) fun v90 =>
                  J1 v90 h12) (
                  J1 (Value.bool false) h11)) (
                J1 (Value.bool false) h9))) fun J0 =>
        S.C I.f_space_Space_Get [v30, (Value.int IntKind.i64 8)] h6 fun v54 h13 =>
        S.C I.f_simulcastlaw37_shaped [v30, v54, x9] h13 fun v56 h14 =>
        Vb (uno .not v56) fun v57 =>
        Br v57 (
          J0 (Value.bool true) h14) (
          S.C I.f_space_Space_Get [v30, (Value.int IntKind.i64 15)] h14 fun v60 h15 =>
          Vb (lnS x9) fun v62 =>
          Vb (bin .neq v60 v62) fun v63 =>
          J0 v63 h15))))

def F_simulcastlaw37_TreePlays (S : Sys) (I : Ids) (l0 nodes1 : Value) (h : Hp) (R : Value → Hp → Prop) : Prop :=
  S.C I.f_simulcastlaw37_awake [] h fun v13 h1 =>
  Vb (uno .not v13) fun v14 =>
  Br v14 (
    R (Value.bool false) h1) (
    Vb (lnS l0) fun v16 =>
    Vb (bin .gtr v16 (Value.int IntKind.i64 40)) fun v17 =>
    Br v17 (
      R (Value.bool true) h1) (
      Vb (bin .rem nodes1 (Value.int IntKind.u8 24)) fun v19 =>
      Vb (cvi .i64 v19) fun v20 =>
      Vb (bin .add v20 (Value.int IntKind.i64 1)) fun v21 =>
      S.C I.f_simulcastlaw37_made [v21] h1 fun v24 h2 =>
      Vb (ext 0 v24) fun v25 =>
      Vb (ext 1 v24) fun v26 =>
      Eb (nw #[Value.int IntKind.i64 0, Value.int IntKind.i64 0, Value.int IntKind.i64 0, Value.int IntKind.i64 0] I.t_tree_Tree h2) fun t6 h3 =>
      Sb (sto 4 t6 v25 h3) fun h4 =>
      S.C I.f_simulcastlaw37_empty [v26] h4 fun v28 h5 =>
      Lp2 (Value.slice none 0 0) (Value.int IntKind.i64 0) h5 fun x9 i10 h6 again0 =>
      Vb (lnS l0) fun v31 =>
      Vb (bin .lss i10 v31) fun v32 =>
      Br v32 (
        Vb (lda 4 t6 h6) fun v36 =>
        Vb (ixs 3 l0 i10) fun v41 =>
        Vb (lda 3 v41 h6) fun v42 =>
        S.C I.f_simulcastlaw37_do [v36, v28, x9, v42, v21] h6 fun v44 h7 =>
        Vb (ext 0 v44) fun v45 =>
        Vb (ext 1 v44) fun v46 =>
        Jn1 (fun v55 h8 =>
            Br v55 (
              R (Value.bool false) h8) (
              Vb (bin .add i10 (Value.int IntKind.i64 1)) fun v34 =>
              again0 v45 v34 h8)) fun J0 =>
        Vb (uno .not v46) fun v48 =>
        Br v48 (
          J0 (Value.bool true) h7) (
          Vb (lda 4 t6 h7) fun v50 =>
          S.C I.f_simulcastlaw37_same [v50, v28, v45] h7 fun v53 h9 =>
          Vb (uno .not v53) fun v54 =>
          J0 v54 h9)) (
        R (Value.bool true) h6)))

def F_simulcastlaw37_TreeLost (S : Sys) (I : Ids) (vals0 l1 : Value) (h : Hp) (R : Value → Hp → Prop) : Prop :=
  S.C I.f_simulcastlaw37_awake [] h fun v17 h1 =>
  Vb (uno .not v17) fun v18 =>
  Br v18 (
    R (Value.bool false) h1) (
    Jn1 (fun v26 h2 =>
        Br v26 (
          R (Value.bool true) h2) (
          S.C I.f_simulcastlaw37_made [(Value.int IntKind.i64 8)] h2 fun v28 h3 =>
          Vb (ext 0 v28) fun v29 =>
          Vb (ext 1 v28) fun v30 =>
          Eb (nw #[Value.int IntKind.i64 0, Value.int IntKind.i64 0, Value.int IntKind.i64 0, Value.int IntKind.i64 0] I.t_tree_Tree h3) fun t5 h4 =>
          Sb (sto 4 t5 v29 h4) fun h5 =>
          Eb (mmk h5) fun v31 h6 =>
          Lp1 (Value.int IntKind.i64 0) h6 fun i8 h7 again0 =>
          Vb (bin .lss i8 v30) fun v34 =>
          Br v34 (
            Jn0 (fun h8 =>
                Vb (bin .add i8 (Value.int IntKind.i64 1)) fun v36 =>
                again0 v36 h8) fun J1 =>
            Vb (bldS [(0, 1), (1, 1), (2, 1)] #[Value.int IntKind.i64 0, Value.int IntKind.u32 0, Value.int IntKind.u32 0] []) fun v39 =>
            Sb (mup (.int .i64) v31 i8 v39 h7) fun h9 =>
            Vb (lnS vals0) fun v42 =>
            Vb (bin .lss i8 v42) fun v43 =>
            Br v43 (
              Vb (ixs 1 vals0 i8) fun v48 =>
              Vb (ldc v48 h9) fun v49 =>
              Vb (bldS [(0, 1), (1, 1), (2, 1)] #[Value.int IntKind.i64 0, Value.int IntKind.u32 0, Value.int IntKind.u32 0] [(0, v49)]) fun v50 =>
              Sb (mup (.int .i64) v31 i8 v50 h9) fun h10 =>
              J1 h10) (
              J1 h9)) (
            S.C I.f_space_New [v31] h7 fun v52 h11 =>
            Lp1 (Value.int IntKind.i64 0) h11 fun i10 h12 again1 =>
            Vb (lnS l1) fun v55 =>
            Vb (bin .lss i10 v55) fun v56 =>
            Br v56 (
              S.C I.f_space_Space_Mark [v52] h12 fun v60 h13 =>
              Jn1 (fun e12 h14 =>
                  Jn1 (fun v167 h15 =>
                      Br v167 (
                        R (Value.bool false) h15) (
                        Vb (lda 4 t5 h15) fun v169 =>
                        S.C I.f_tree_Tree_Walk [v169, v52] h15 fun v171 h16 =>
                        Vb (ext 0 v171) fun v172 =>
                        Vb (ext 1 v171) fun v173 =>
                        Vb (ext 2 v171) fun v174 =>
                        Jn1 (fun v191 h17 =>
                            Br v191 (
                              R (Value.bool false) h17) (
                              Lp1 (Value.int IntKind.i64 1) h17 fun j16 h18 again2 =>
                              Vb (lnS v172) fun v194 =>
                              Vb (bin .lss j16 v194) fun v195 =>
                              Br v195 (
                                Vb (bin .sub j16 (Value.int IntKind.i64 1)) fun v200 =>
                                Vb (ixs 1 v172 v200) fun v201 =>
                                Vb (ldc v201 h18) fun v202 =>
                                Vb (ixs 1 v172 j16) fun v205 =>
                                Vb (ldc v205 h18) fun v206 =>
                                Vb (bin .geq v202 v206) fun v207 =>
                                Br v207 (
                                  R (Value.bool false) h18) (
                                  Vb (bin .add j16 (Value.int IntKind.i64 1)) fun v197 =>
                                  again2 v197 h18)) (
                                Vb (bin .add i10 (Value.int IntKind.i64 1)) fun v58 =>
                                again1 v58 h18))) fun J4 =>
                        Vb (bin .neq v174 (Value.int IntKind.i64 0)) fun v176 =>
                        Br v176 (
                          Vb (lnS v172) fun v179 =>
                          Vb (lnS v173) fun v181 =>
                          Vb (bin .add v179 v181) fun v182 =>
                          Vb (bin .gtr v182 (Value.int IntKind.i64 0)) fun v183 =>
                          Br v183 (
                            J4 (Value.bool true) h16) (
                            Vb (lnS v172) fun v187 =>
                            Vb (lnS v173) fun v189 =>
                            Vb (bin .neq v187 v189) fun v190 =>
                            J4 v190 h16)) (
                          Vb (lnS v172) fun v187_1 =>
                          Vb (lnS v173) fun v189_1 =>
                          Vb (bin .neq v187_1 v189_1) fun v190_1 =>
                          J4 v190_1 h16))) fun J3 =>
                  Vb (bin .neq e12 (Value.int IntKind.i64 0)) fun v157 =>
                  Br v157 (
                    S.C I.f_space_Space_Mark [v52] h14 fun v160 h19 =>
                    Vb (bin .neq v160 v60) fun v162 =>
                    Br v162 (
                      J3 (Value.bool true) h19) (
                      S.C I.f_space_Space_Ended [v52] h19 fun v166 h20 =>
                      J3 v166 h20)) (
                    S.C I.f_space_Space_Ended [v52] h14 fun v166_1 h21 =>
                    J3 v166_1 h21)) fun J2 =>
              Vb (ixs 3 l1 i10) fun v63 =>
              Vb (fa 0 v63) fun v64 =>
              Vb (ldc v64 h13) fun v65 =>
              Vb (bin .rem v65 (Value.int IntKind.u8 8)) fun v66 =>
              Vb (bin .eql v66 (Value.int IntKind.u8 3)) fun v85 =>
              Br v85 (
                Vb (lda 4 t5 h13) fun v87 =>
                Vb (ixs 3 l1 i10) fun v91 =>
                Vb (fa 1 v91) fun v92 =>
                Vb (ldc v92 h13) fun v93 =>
                S.C I.f_tree_Tree_Drop [v87, v52, v93] h13 fun v94 h22 =>
                Vb (ext 0 v94) fun v95 =>
                Vb (ext 1 v94) fun v96 =>
                Vb (ext 2 v94) fun v97 =>
                J2 v97 h22) (
                Vb (bin .eql v66 (Value.int IntKind.u8 4)) fun v99 =>
                Br v99 (
                  Vb (lda 4 t5 h13) fun v100 =>
                  Vb (ixs 3 l1 i10) fun v104 =>
                  Vb (fa 1 v104) fun v105 =>
                  Vb (ldc v105 h13) fun v106 =>
                  S.C I.f_tree_Tree_Get [v100, v52, v106] h13 fun v107 h23 =>
                  J2 (Value.int IntKind.i64 0) h23) (
                  Vb (bin .eql v66 (Value.int IntKind.u8 5)) fun v109 =>
                  Br v109 (
                    Vb (lda 4 t5 h13) fun v110 =>
                    Vb (ixs 3 l1 i10) fun v114 =>
                    Vb (fa 1 v114) fun v115 =>
                    Vb (ldc v115 h13) fun v116 =>
                    Vb (ixs 3 l1 i10) fun v119 =>
                    Vb (fa 2 v119) fun v120 =>
                    Vb (ldc v120 h13) fun v121 =>
                    S.C I.f_tree_Tree_Sum [v110, v52, v116, v121] h13 fun v122 h24 =>
                    Vb (lda 4 t5 h24) fun v123 =>
                    Vb (ixs 3 l1 i10) fun v127 =>
                    Vb (fa 1 v127) fun v128 =>
                    Vb (ldc v128 h24) fun v129 =>
                    Vb (ixs 3 l1 i10) fun v132 =>
                    Vb (fa 2 v132) fun v133 =>
                    Vb (ldc v133 h24) fun v134 =>
                    S.C I.f_tree_Tree_Count [v123, v52, v129, v134] h24 fun v135 h25 =>
                    J2 (Value.int IntKind.i64 0) h25) (
                    Vb (bin .eql v66 (Value.int IntKind.u8 6)) fun v137 =>
                    Br v137 (
                      Vb (lda 4 t5 h13) fun v138 =>
                      Vb (ixs 3 l1 i10) fun v142 =>
                      Vb (fa 1 v142) fun v143 =>
                      Vb (ldc v143 h13) fun v144 =>
                      S.C I.f_tree_Tree_Next [v138, v52, v144] h13 fun v145 h26 =>
                      J2 (Value.int IntKind.i64 0) h26) (
                      Vb (bin .eql v66 (Value.int IntKind.u8 7)) fun v147 =>
                      Br v147 (
                        Vb (lda 4 t5 h13) fun v148 =>
                        Vb (ixs 3 l1 i10) fun v152 =>
                        Vb (fa 1 v152) fun v153 =>
                        Vb (ldc v153 h13) fun v154 =>
                        S.C I.f_tree_Tree_Nth [v148, v52, v154] h13 fun v155 h27 =>
                        J2 (Value.int IntKind.i64 0) h27) (
                        Vb (lda 4 t5 h13) fun v68 =>
                        Vb (ixs 3 l1 i10) fun v72 =>
                        Vb (fa 1 v72) fun v73 =>
                        Vb (ldc v73 h13) fun v74 =>
                        Vb (ixs 3 l1 i10) fun v77 =>
                        Vb (fa 2 v77) fun v78 =>
                        Vb (ldc v78 h13) fun v79 =>
                        S.C I.f_tree_Tree_Put [v68, v52, v74, v79] h13 fun v80 h28 =>
                        Vb (ext 0 v80) fun v81 =>
                        Vb (ext 1 v80) fun v82 =>
                        Vb (ext 2 v80) fun v83 =>
                        J2 v83 h28)))))) (
              R (Value.bool true) h12)))) fun J0 =>
    Vb (lnS vals0) fun v20 =>
    Vb (bin .gtr v20 (Value.int IntKind.i64 200)) fun v21 =>
    Br v21 (
      J0 (Value.bool true) h1) (
      Vb (lnS l1) fun v24 =>
      Vb (bin .gtr v24 (Value.int IntKind.i64 20)) fun v25 =>
      J0 v25 h1))

def F_simulcastlaw40_GraphAnew (S : Sys) (I : Ids) (l0 c1 : Value) (h : Hp) (R : Value → Hp → Prop) : Prop :=
  Eb (nw (Value.cells c1) I.t_simulcastlaw40_Call h) fun c3 h1 =>
  S.C I.f_simulcastlaw40_awake [] h1 fun v30 h2 =>
  Vb (uno .not v30) fun v31 =>
  Br v31 (
    R (Value.bool false) h2) (
    Vb (lnS l0) fun v33 =>
    Vb (bin .gtr v33 (Value.int IntKind.i64 30)) fun v34 =>
    Br v34 (
      R (Value.bool true) h2) (
      S.C I.f_simulcastlaw40_played [l0] h2 fun v37 h3 =>
      Vb (ext 0 v37) fun v38 =>
      Vb (ext 1 v37) fun v39 =>
      Vb (ext 2 v37) fun v40 =>
      Vb (ext 3 v37) fun v41 =>
      Vb (ext 4 v37) fun v42 =>
      Eb (nw #[Value.int IntKind.i64 0, Value.int IntKind.i64 0, Value.int IntKind.i64 0, Value.int IntKind.i64 0] I.t_graph_Graph h3) fun g5 h4 =>
      Eb (nw #[Value.slice none 0 0, Value.slice none 0 0] I.t_simulcastref40_Graph h4) fun v7 h5 =>
      Sb (sto 4 g5 v38 h5) fun h6 =>
      Sb (sto 2 v7 v40 h6) fun h7 =>
      Vb (uno .not v42) fun v44 =>
      Br v44 (
        R (Value.bool false) h7) (
        S.C I.f_simulcastlaw40_made [(Value.int IntKind.i64 24)] h7 fun v46 h8 =>
        Vb (ext 0 v46) fun v47 =>
        Vb (ext 1 v46) fun v48 =>
        Eb (nw #[Value.int IntKind.i64 0, Value.int IntKind.i64 0, Value.int IntKind.i64 0, Value.int IntKind.i64 0] I.t_graph_Graph h8) fun v10 h9 =>
        Sb (sto 4 v10 v47 h9) fun h10 =>
        Eb (mmk h10) fun v49 h11 =>
        Eb (mmk h11) fun v50 h12 =>
        Lp1 (Value.int IntKind.i64 0) h12 fun i14 h13 again0 =>
        Vb (bin .lss i14 v48) fun v53 =>
        Br v53 (
          S.C I.f_space_Space_Get [v39, i14] h13 fun v60 h14 =>
          Vb (bldS [(0, 1), (1, 1), (2, 1)] #[Value.int IntKind.i64 0, Value.int IntKind.u32 0, Value.int IntKind.u32 0] [(0, v60)]) fun v61 =>
          Sb (mup (.int .i64) v49 i14 v61 h14) fun h15 =>
          Vb (bin .add i14 (Value.int IntKind.i64 1)) fun v55 =>
          again0 v55 h15) (
          S.C I.f_space_New [v49] h13 fun v63 h16 =>
          Vb (fa 1 c3) fun v65 =>
          Vb (ldc v65 h16) fun v66 =>
          Vb (fa 2 c3) fun v69 =>
          Vb (ldc v69 h16) fun v70 =>
          S.C I.f_simulcastlaw40_handle [v41, v66] h16 fun v67 h17 =>
          ldc v69 h17 = some v70 ∧
          S.C I.f_simulcastlaw40_handle [v41, v70] h17 fun v71 h18 =>
          Vb (lda 4 g5 h18) fun v73 =>
          Vb (fa 3 c3) fun v77 =>
          Vb (ldc v77 h18) fun v78 =>
          S.C I.f_graph_Graph_Link [v73, v63, v67, v71, v78] h18 fun v79 h19 =>
          Vb (ext 0 v79) fun v80 =>
          Vb (ext 1 v79) fun v81 =>
          Vb (lda 4 g5 h19) fun v83 =>
          S.C I.f_graph_Graph_Drop [v83, v63, v71] h19 fun v86 h20 =>
          Vb (ext 0 v86) fun v87 =>
          Vb (ext 1 v86) fun v88 =>
          Lp1 (Value.int IntKind.i64 0) h20 fun runs22 h21 again1 =>
          Vb (bin .leq runs22 v48) fun v91 =>
          Br v91 (
            S.C I.f_space_New [v50] h21 fun v95 h22 =>
            Vb (lda 4 g5 h22) fun v97 =>
            Vb (fa 3 c3) fun v101 =>
            Vb (ldc v101 h22) fun v102 =>
            S.C I.f_graph_Graph_Link [v97, v95, v67, v71, v102] h22 fun v103 h23 =>
            Vb (ext 0 v103) fun v104 =>
            Vb (ext 1 v103) fun v105 =>
            Vb (lda 4 g5 h23) fun v107 =>
            S.C I.f_graph_Graph_Drop [v107, v95, v71] h23 fun v110 h24 =>
            Vb (ext 0 v110) fun v111 =>
            Vb (ext 1 v110) fun v112 =>
            S.C I.f_space_Space_Need [v95] h24 fun v115 h25 =>
            Vb (ext 0 v115) fun v116 =>
            Vb (ext 1 v115) fun v117 =>
            Br v117 (
              Vb (lkm (.int .i64) (Value.agg #[Value.int IntKind.i64 0, Value.int IntKind.u32 0, Value.int IntKind.u32 0]) false v49 v116 h25) fun v123 =>
              Sb (mup (.int .i64) v50 v116 v123 h25) fun h26 =>
              Vb (bin .add runs22 (Value.int IntKind.i64 1)) fun v93 =>
              again1 v93 h26) (
              Jn1 (fun v4 h27 =>
                  R v4 h27) fun J0 =>
              Vb (bin .eql v80 v104) fun v126 =>
              Br v126 (
                Vb (bin .eql v81 v105) fun v130 =>
                Br v130 (
                  Vb (bin .eql v87 v111) fun v135 =>
                  Br v135 (
                    Vb (bin .eql v88 v112) fun v140 =>
                    Br v140 (
                      S.C I.f_space_Space_Writes [v95] h25 fun v144 h28 =>
                      Vb (lnS v144) fun v145 =>
                      S.C I.f_space_Space_Writes [v63] h28 fun v147 h29 =>
                      Vb (lnS v147) fun v148 =>
                      Vb (bin .eql v145 v148) fun v149 =>
                      Br v149 (
                        Vb (lda 4 g5 h29) fun v152 =>
                        S.C I.f_graph_Graph_Edges [v152, v63] h29 fun v154 h30 =>
                        S.C I.f_space_Space_Get [v63, (Value.int IntKind.i64 10)] h30 fun v156 h31 =>
                        Vb (bin .eql v154 v156) fun v157 =>
                        J0 v157 h31) (
                        J0 (Value.bool false) h29)) (
                      J0 (Value.bool false) h25)) (
                    J0 (Value.bool false) h25)) (
                  J0 (Value.bool false) h25)) (
                J0 (Value.bool false) h25))) (
            R (Value.bool false) h21)))))

def F_simulcastlaw37_TreeOrders (S : Sys) (I : Ids) (keys0 turns1 k2 : Value) (h : Hp) (R : Value → Hp → Prop) : Prop :=
  S.C I.f_simulcastlaw37_awake [] h fun v15 h1 =>
  Vb (uno .not v15) fun v16 =>
  Br v16 (
    R (Value.bool false) h1) (
    Jn1 (fun v24 h2 =>
        Br v24 (
          R (Value.bool true) h2) (
          S.C I.f_simulcastlaw37_made [(Value.int IntKind.i64 24)] h2 fun v26 h3 =>
          Vb (ext 0 v26) fun v27 =>
          Vb (ext 1 v26) fun v28 =>
          Eb (nw #[Value.int IntKind.i64 0, Value.int IntKind.i64 0, Value.int IntKind.i64 0, Value.int IntKind.i64 0] I.t_tree_Tree h3) fun t7 h4 =>
          Sb (sto 4 t7 v27 h4) fun h5 =>
          S.C I.f_simulcastlaw37_empty [v28] h5 fun v30 h6 =>
          S.C I.f_simulcastlaw37_empty [v28] h6 fun v32 h7 =>
          Lp1 (Value.int IntKind.i64 0) h7 fun i11 h8 again0 =>
          Vb (lnS keys0) fun v35 =>
          Vb (bin .lss i11 v35) fun v36 =>
          Br v36 (
            Vb (lda 4 t7 h8) fun v39 =>
            Vb (ixs 1 keys0 i11) fun v43 =>
            Vb (ldc v43 h8) fun v44 =>
            Vb (ixs 1 keys0 i11) fun v47 =>
            Vb (ldc v47 h8) fun v48 =>
            Vb (bin .mul v48 (Value.int IntKind.i64 3)) fun v49 =>
            S.C I.f_tree_Tree_Put [v39, v30, v44, v49] h8 fun v50 h9 =>
            Vb (bin .add i11 (Value.int IntKind.i64 1)) fun v38 =>
            again0 v38 h9) (
            Lp1 (Value.int IntKind.i64 0) h8 fun i12 h10 again1 =>
            Jn1 (fun v59 h11 =>
                Br v59 (
                  Jn0 (fun h12 =>
                      Vb (bin .add i12 (Value.int IntKind.i64 1)) fun v61 =>
                      again1 v61 h12) fun J2 =>
                  Vb (ixs 1 turns1 i12) fun v65 =>
                  Vb (ldc v65 h11) fun v66 =>
                  Vb (cvi .i64 v66) fun v67 =>
                  Vb (lnS keys0) fun v69 =>
                  Vb (bin .rem v67 v69) fun v70 =>
                  Vb (ixs 1 keys0 v70) fun v71 =>
                  Vb (ldc v71 h11) fun v72 =>
                  Vb (ixs 1 turns1 i12) fun v75 =>
                  Vb (ldc v75 h11) fun v76 =>
                  Vb (bin .rem v76 (Value.int IntKind.u8 3)) fun v77 =>
                  Vb (bin .eql v77 (Value.int IntKind.u8 0)) fun v78 =>
                  Br v78 (
                    Vb (lda 4 t7 h11) fun v79 =>
                    S.C I.f_tree_Tree_Drop [v79, v32, v72] h11 fun v82 h13 =>
                    J2 h13) (
                    Vb (lda 4 t7 h11) fun v83 =>
                    Vb (ixs 1 turns1 i12) fun v88 =>
                    Vb (ldc v88 h11) fun v89 =>
                    Vb (cvi .i64 v89) fun v90 =>
                    S.C I.f_tree_Tree_Put [v83, v32, v72, v90] h11 fun v91 h14 =>
                    J2 h14)) (
                  Vb (lnS keys0) fun v93 =>
                  Vb (bin .sub v93 (Value.int IntKind.i64 1)) fun v94 =>
                  Lp1 v94 h11 fun i14 h15 again2 =>
                  Vb (bin .geq i14 (Value.int IntKind.i64 0)) fun v96 =>
                  Br v96 (
                    Vb (lda 4 t7 h15) fun v99 =>
                    Vb (ixs 1 keys0 i14) fun v103 =>
                    Vb (ldc v103 h15) fun v104 =>
                    Vb (ixs 1 keys0 i14) fun v107 =>
                    Vb (ldc v107 h15) fun v108 =>
                    Vb (bin .mul v108 (Value.int IntKind.i64 3)) fun v109 =>
                    S.C I.f_tree_Tree_Put [v99, v32, v104, v109] h15 fun v110 h16 =>
                    Vb (bin .sub i14 (Value.int IntKind.i64 1)) fun v98 =>
                    again2 v98 h16) (
                    Jn1 (fun v6 h17 =>
                        R v6 h17) fun J3 =>
                    Vb (lda 4 t7 h15) fun v111 =>
                    Vb (lda 4 t7 h15) fun v116 =>
                    S.C I.f_simulcastlaw37_reads [v111, v30, v28, k2] h15 fun v115 h18 =>
                    lda 4 t7 h18 = some v116 ∧
                    S.C I.f_simulcastlaw37_reads [v116, v32, v28, k2] h18 fun v120 h19 =>
                    Vb (bin .eql v115 v120) fun v121 =>
                    Br v121 (
                      Vb (lda 4 t7 h19) fun v123 =>
                      Vb (bin .add k2 (Value.int IntKind.i64 100)) fun v127 =>
                      Vb (lda 4 t7 h19) fun v129 =>
                      Vb (bin .add k2 (Value.int IntKind.i64 100)) fun v133 =>
                      S.C I.f_tree_Tree_Sum [v123, v30, k2, v127] h19 fun v128 h20 =>
                      lda 4 t7 h20 = some v129 ∧
                      S.C I.f_tree_Tree_Sum [v129, v32, k2, v133] h20 fun v134 h21 =>
                      Vb (bin .eql v128 v134) fun v135 =>
                      Br v135 (
                        Vb (lda 4 t7 h21) fun v138 =>
                        Vb (lda 4 t7 h21) fun v141 =>
                        S.C I.f_tree_Tree_Len [v138, v30] h21 fun v140 h22 =>
                        lda 4 t7 h22 = some v141 ∧
                        S.C I.f_tree_Tree_Len [v141, v32] h22 fun v143 h23 =>
                        Vb (bin .eql v140 v143) fun v144 =>
                        J3 v144 h23) (
                        J3 (Value.bool false) h21)) (
                      J3 (Value.bool false) h19)))) fun J1 =>
            Vb (lnS turns1) fun v53 =>
            Vb (bin .lss i12 v53) fun v54 =>
            Br v54 (
              Vb (lnS keys0) fun v57 =>
              Vb (bin .gtr v57 (Value.int IntKind.i64 0)) fun v58 =>
              J1 v58 h10) (
              J1 (Value.bool false) h10)))) fun J0 =>
    Vb (lnS keys0) fun v18 =>
    Vb (bin .gtr v18 (Value.int IntKind.i64 20)) fun v19 =>
    Br v19 (
      J0 (Value.bool true) h1) (
      Vb (lnS turns1) fun v22 =>
      Vb (bin .gtr v22 (Value.int IntKind.i64 60)) fun v23 =>
      J0 v23 h1))

def F_simulcastlaw37_TreeAnew (S : Sys) (I : Ids) (l0 c1 : Value) (h : Hp) (R : Value → Hp → Prop) : Prop :=
  Eb (nw (Value.cells c1) I.t_simulcastlaw37_Call h) fun c3 h1 =>
  S.C I.f_simulcastlaw37_awake [] h1 fun v33 h2 =>
  Vb (uno .not v33) fun v34 =>
  Br v34 (
    R (Value.bool false) h2) (
    Vb (lnS l0) fun v36 =>
    Vb (bin .gtr v36 (Value.int IntKind.i64 30)) fun v37 =>
    Br v37 (
      R (Value.bool true) h2) (
      S.C I.f_simulcastlaw37_made [(Value.int IntKind.i64 20)] h2 fun v39 h3 =>
      Vb (ext 0 v39) fun v40 =>
      Vb (ext 1 v39) fun v41 =>
      Eb (nw #[Value.int IntKind.i64 0, Value.int IntKind.i64 0, Value.int IntKind.i64 0, Value.int IntKind.i64 0] I.t_tree_Tree h3) fun t5 h4 =>
      Sb (sto 4 t5 v40 h4) fun h5 =>
      S.C I.f_simulcastlaw37_empty [v41] h5 fun v43 h6 =>
      Lp2 (Value.slice none 0 0) (Value.int IntKind.i64 0) h6 fun x8 i9 h7 again0 =>
      Vb (lnS l0) fun v46 =>
      Vb (bin .lss i9 v46) fun v47 =>
      Br v47 (
        Vb (lda 4 t5 h7) fun v51 =>
        Vb (ixs 3 l0 i9) fun v56 =>
        Vb (lda 3 v56 h7) fun v57 =>
        S.C I.f_simulcastlaw37_do [v51, v43, x8, v57, (Value.int IntKind.i64 20)] h7 fun v58 h8 =>
        Vb (ext 0 v58) fun v59 =>
        Vb (ext 1 v58) fun v60 =>
        Vb (bin .add i9 (Value.int IntKind.i64 1)) fun v49 =>
        again0 v59 v49 h8) (
        Eb (mmk h7) fun v61 h9 =>
        Eb (mmk h9) fun v62 h10 =>
        Lp1 (Value.int IntKind.i64 0) h10 fun i12 h11 again1 =>
        Vb (bin .lss i12 v41) fun v65 =>
        Br v65 (
          S.C I.f_space_Space_Get [v43, i12] h11 fun v72 h12 =>
          Vb (bldS [(0, 1), (1, 1), (2, 1)] #[Value.int IntKind.i64 0, Value.int IntKind.u32 0, Value.int IntKind.u32 0] [(0, v72), (1, (Value.int IntKind.u32 1))]) fun v73 =>
          Sb (mup (.int .i64) v61 i12 v73 h12) fun h13 =>
          Vb (bin .add i12 (Value.int IntKind.i64 1)) fun v67 =>
          again1 v67 h13) (
          S.C I.f_space_New [v61] h11 fun v75 h14 =>
          Vb (lda 4 t5 h14) fun v77 =>
          Vb (fa 1 c3) fun v79 =>
          Vb (ldc v79 h14) fun v80 =>
          Vb (fa 2 c3) fun v81 =>
          Vb (ldc v81 h14) fun v82 =>
          S.C I.f_tree_Tree_Put [v77, v75, v80, v82] h14 fun v83 h15 =>
          Vb (ext 0 v83) fun v84 =>
          Vb (ext 1 v83) fun v85 =>
          Vb (ext 2 v83) fun v86 =>
          Vb (lda 4 t5 h15) fun v88 =>
          Vb (fa 1 c3) fun v90 =>
          Vb (ldc v90 h15) fun v91 =>
          Vb (bin .add v91 (Value.int IntKind.i64 1)) fun v92 =>
          S.C I.f_tree_Tree_Drop [v88, v75, v92] h15 fun v93 h16 =>
          Vb (ext 0 v93) fun v94 =>
          Vb (ext 1 v93) fun v95 =>
          Vb (ext 2 v93) fun v96 =>
          Lp1 (Value.int IntKind.i64 0) h16 fun runs20 h17 again2 =>
          Vb (bin .leq runs20 v41) fun v99 =>
          Br v99 (
            S.C I.f_space_New [v62] h17 fun v103 h18 =>
            Vb (lda 4 t5 h18) fun v105 =>
            Vb (fa 1 c3) fun v107 =>
            Vb (ldc v107 h18) fun v108 =>
            Vb (fa 2 c3) fun v109 =>
            Vb (ldc v109 h18) fun v110 =>
            S.C I.f_tree_Tree_Put [v105, v103, v108, v110] h18 fun v111 h19 =>
            Vb (ext 0 v111) fun v112 =>
            Vb (ext 1 v111) fun v113 =>
            Vb (ext 2 v111) fun v114 =>
            Vb (lda 4 t5 h19) fun v116 =>
            Vb (fa 1 c3) fun v118 =>
            Vb (ldc v118 h19) fun v119 =>
            Vb (bin .add v119 (Value.int IntKind.i64 1)) fun v120 =>
            S.C I.f_tree_Tree_Drop [v116, v103, v120] h19 fun v121 h20 =>
            Vb (ext 0 v121) fun v122 =>
            Vb (ext 1 v121) fun v123 =>
            Vb (ext 2 v121) fun v124 =>
            S.C I.f_space_Space_Need [v103] h20 fun v127 h21 =>
            Vb (ext 0 v127) fun v128 =>
            Vb (ext 1 v127) fun v129 =>
            Br v129 (
              Vb (lkm (.int .i64) (Value.agg #[Value.int IntKind.i64 0, Value.int IntKind.u32 0, Value.int IntKind.u32 0]) false v61 v128 h21) fun v135 =>
              Sb (mup (.int .i64) v62 v128 v135 h21) fun h22 =>
              Vb (bin .add runs20 (Value.int IntKind.i64 1)) fun v101 =>
              again2 v101 h22) (
              Jn1 (fun v172 h23 =>
                  Br v172 (
                    R (Value.bool false) h23) (
                    Lp1 (Value.int IntKind.i64 0) h23 fun i30 h24 again3 =>
                    Vb (bin .lss i30 v41) fun v175 =>
                    Br v175 (
                      Vb (lkm (.int .i64) (Value.agg #[Value.int IntKind.i64 0, Value.int IntKind.u32 0, Value.int IntKind.u32 0]) true v62 i30 h24) fun v181 =>
                      Vb (ext 0 v181) fun v182 =>
                      Vb (ext 1 v181) fun v183 =>
                      Eb (nw #[Value.int IntKind.i64 0, Value.int IntKind.u32 0, Value.int IntKind.u32 0] I.t_api_Word h24) fun v31 h25 =>
                      Sb (sto 3 v31 v182 h25) fun h26 =>
                      Jn1 (fun v193 h27 =>
                          Br v193 (
                            R (Value.bool false) h27) (
                            Vb (bin .add i30 (Value.int IntKind.i64 1)) fun v177 =>
                            again3 v177 h27)) fun J1 =>
                      Br v183 (
                        S.C I.f_space_Space_Get [v103, i30] h26 fun v188 h28 =>
                        S.C I.f_space_Space_Get [v75, i30] h28 fun v191 h29 =>
                        Vb (bin .neq v188 v191) fun v192 =>
                        J1 v192 h29) (
                        J1 (Value.bool false) h26)) (
                      R (Value.bool true) h24))) fun J0 =>
              Vb (bin .neq v84 v112) fun v138 =>
              Br v138 (
                J0 (Value.bool true) h21) (
                Vb (neg? (eqB v85 v113)) fun v142 =>
                Br v142 (
                  J0 (Value.bool true) h21) (
                  Vb (bin .neq v86 v114) fun v147 =>
                  Br v147 (
                    J0 (Value.bool true) h21) (
                    Vb (bin .neq v94 v122) fun v152 =>
                    Br v152 (
                      J0 (Value.bool true) h21) (
                      Vb (neg? (eqB v95 v123)) fun v157 =>
                      Br v157 (
                        J0 (Value.bool true) h21) (
                        Vb (bin .neq v96 v124) fun v162 =>
                        Br v162 (
                          J0 (Value.bool true) h21) (
                          S.C I.f_space_Space_Writes [v103] h21 fun v166 h30 =>
                          Vb (lnS v166) fun v167 =>
                          S.C I.f_space_Space_Writes [v75] h30 fun v169 h31 =>
                          Vb (lnS v169) fun v170 =>
                          Vb (bin .neq v167 v170) fun v171 =>
                          J0 v171 h31)))))))) (
            R (Value.bool false) h17)))))

def F_simulcastlaw40_awake (S : Sys) (I : Ids) (h : Hp) (R : Value → Hp → Prop) : Prop :=
  S.C I.f_simulcastlaw40_made [(Value.int IntKind.i64 4)] h fun v19 h1 =>
  Vb (ext 0 v19) fun v20 =>
  Vb (ext 1 v19) fun v21 =>
  Eb (nw #[Value.int IntKind.i64 0, Value.int IntKind.i64 0, Value.int IntKind.i64 0, Value.int IntKind.i64 0] I.t_graph_Graph h1) fun g1 h2 =>
  Sb (sto 4 g1 v20 h2) fun h3 =>
  S.C I.f_simulcastlaw40_empty [v21] h3 fun v23 h4 =>
  Vb (lda 4 g1 h4) fun v25 =>
  S.C I.f_graph_Graph_Add [v25, v23, (Value.int IntKind.i64 1)] h4 fun v27 h5 =>
  Vb (ext 0 v27) fun v28 =>
  Vb (ext 1 v27) fun v29 =>
  Vb (lda 4 g1 h5) fun v31 =>
  S.C I.f_graph_Graph_Add [v31, v23, (Value.int IntKind.i64 2)] h5 fun v33 h6 =>
  Vb (ext 0 v33) fun v34 =>
  Vb (ext 1 v33) fun v35 =>
  Vb (lda 4 g1 h6) fun v37 =>
  S.C I.f_graph_Graph_Link [v37, v23, v28, v34, (Value.int IntKind.i64 5)] h6 fun v41 h7 =>
  Vb (ext 0 v41) fun v42 =>
  Vb (ext 1 v41) fun v43 =>
  Vb (lda 4 g1 h7) fun v45 =>
  S.C I.f_graph_Graph_Link [v45, v23, v34, v34, (Value.int IntKind.i64 6)] h7 fun v49 h8 =>
  Vb (ext 0 v49) fun v50 =>
  Vb (ext 1 v49) fun v51 =>
  Vb (lda 4 g1 h8) fun v53 =>
  S.C I.f_graph_Graph_In [v53, v23, v34] h8 fun v56 h9 =>
  Vb (ext 0 v56) fun v57 =>
  Vb (ext 1 v56) fun v58 =>
  Jn1 (fun v92 h10 =>
      Br v92 (
        R (Value.bool false) h10) (
        Vb (lda 4 g1 h10) fun v94 =>
        S.C I.f_graph_Graph_Drop [v94, v23, v34] h10 fun v97 h11 =>
        Vb (ext 0 v97) fun v98 =>
        Vb (ext 1 v97) fun v99 =>
        Vb (lda 4 g1 h11) fun v101 =>
        S.C I.f_graph_Graph_Out [v101, v23, v28] h11 fun v104 h12 =>
        Vb (ext 0 v104) fun v105 =>
        Vb (ext 1 v104) fun v106 =>
        Jn1 (fun v0 h13 =>
            R v0 h13) fun J1 =>
        Vb (bin .eql v99 (Value.int IntKind.i64 0)) fun v108 =>
        Br v108 (
          Vb (bin .eql v106 (Value.int IntKind.i64 0)) fun v111 =>
          Br v111 (
            Vb (bin .eql v98 (Value.int IntKind.i64 2)) fun v115 =>
            Br v115 (
              Vb (lda 4 g1 h12) fun v118 =>
              S.C I.f_graph_Graph_Edges [v118, v23] h12 fun v120 h14 =>
              Vb (bin .eql v120 (Value.int IntKind.i64 0)) fun v121 =>
              Br v121 (
                Vb (lnS v105) fun v125 =>
                Vb (bin .eql v125 (Value.int IntKind.i64 0)) fun v126 =>
                J1 v126 h14) (
                J1 (Value.bool false) h14)) (
              J1 (Value.bool false) h12)) (
            J1 (Value.bool false) h12)) (
          J1 (Value.bool false) h12))) fun J0 =>
  Vb (bin .neq v29 (Value.int IntKind.i64 0)) fun v60 =>
  Br v60 (
    J0 (Value.bool true) h9) (
    Vb (bin .neq v35 (Value.int IntKind.i64 0)) fun v63 =>
    Br v63 (
      J0 (Value.bool true) h9) (
      Vb (bin .neq v43 (Value.int IntKind.i64 0)) fun v67 =>
      Br v67 (
        J0 (Value.bool true) h9) (
        Vb (bin .neq v51 (Value.int IntKind.i64 0)) fun v71 =>
        Br v71 (
          J0 (Value.bool true) h9) (
          Vb (bin .neq v58 (Value.int IntKind.i64 0)) fun v75 =>
          Br v75 (
            J0 (Value.bool true) h9) (
            Vb (bldA 1 #[Value.int IntKind.i64 0, Value.int IntKind.i64 0] [(0, v34), (1, (Value.int IntKind.i64 6))]) fun v80 =>
            Vb (bldA 1 #[Value.int IntKind.i64 0, Value.int IntKind.i64 0] [(0, v28), (1, (Value.int IntKind.i64 5))]) fun v82 =>
            Eb (bsl #[Value.int IntKind.i64 0, Value.int IntKind.i64 0] 2 2 I.t_2_int64 [(0, v80), (1, v82)] h9) fun v83 h15 =>
            S.C I.f_simulcastref40_Same [v57, v83] h15 fun v84 h16 =>
            Vb (uno .not v84) fun v85 =>
            Br v85 (
              J0 (Value.bool true) h16) (
              Vb (lda 4 g1 h16) fun v88 =>
              S.C I.f_graph_Graph_Edges [v88, v23] h16 fun v90 h17 =>
              Vb (bin .neq v90 (Value.int IntKind.i64 2)) fun v91 =>
              J0 v91 h17))))))

def F_simulcastlaw40_played (S : Sys) (I : Ids) (l0 : Value) (h : Hp) (R : Value → Hp → Prop) : Prop :=
  Eb (nw #[Value.int IntKind.i64 0, Value.int IntKind.i64 0, Value.int IntKind.i64 0, Value.int IntKind.i64 0] I.t_graph_Graph h) fun v2 h1 =>
  Eb (nw #[Value.slice none 0 0, Value.slice none 0 0] I.t_simulcastref40_Graph h1) fun v4 h2 =>
  S.C I.f_simulcastlaw40_made [(Value.int IntKind.i64 24)] h2 fun v17 h3 =>
  Vb (ext 0 v17) fun v18 =>
  Vb (ext 1 v17) fun v19 =>
  Eb (nw #[Value.int IntKind.i64 0, Value.int IntKind.i64 0, Value.int IntKind.i64 0, Value.int IntKind.i64 0] I.t_graph_Graph h3) fun g7 h4 =>
  Sb (sto 4 g7 v18 h4) fun h5 =>
  S.C I.f_simulcastlaw40_empty [v19] h5 fun v21 h6 =>
  Eb (nw #[Value.slice none 0 0, Value.slice none 0 0] I.t_simulcastref40_Graph h6) fun x10 h7 =>
  Lp2 (Value.slice none 0 0) (Value.int IntKind.i64 0) h7 fun all11 i12 h8 again0 =>
  Vb (lnS l0) fun v24 =>
  Vb (bin .lss i12 v24) fun v25 =>
  Br v25 (
    Jn3 (fun y13 more14 ok15 h9 =>
        Vb (uno .not ok15) fun v42 =>
        Br v42 (
          Vb (lda 4 g7 h9) fun v43 =>
          Vb (lda 2 x10 h9) fun v45 =>
          Sb (sto 4 v2 v43 h9) fun h10 =>
          lda 2 x10 h10 = some v45 ∧
          Sb (sto 2 v4 v45 h10) fun h11 =>
          Vb (lda 4 v2 h11) fun r0 =>
          Vb (lda 2 v4 h11) fun r2 =>
          R (.tuple #[r0, v21, r2, all11, (Value.bool false)]) h11) (
          Vb (lda 2 y13 h9) fun v47 =>
          Sb (sto 2 x10 v47 h9) fun h12 =>
          Vb (bin .add i12 (Value.int IntKind.i64 1)) fun v27 =>
          again0 more14 v27 h12)) fun J0 =>
    Vb (lda 4 g7 h8) fun v29 =>
    Vb (lda 2 x10 h8) fun v31 =>
    Vb (ixs 4 l0 i12) fun v35 =>
    Vb (lda 4 v35 h8) fun v36 =>
    And (
      S.C I.f_simulcastlaw40_do [v29, v21, v31, all11, v36] h8 fun v37 h13 =>
      Vb (ext 0 v37) fun v38 =>
      Vb (ext 1 v37) fun v39 =>
      Vb (ext 2 v37) fun v40 =>
      Eb (nw #[Value.slice none 0 0, Value.slice none 0 0] I.t_simulcastref40_Graph h13) fun y13_1 h14 =>
      Sb (sto 2 y13_1 v38 h14) fun h15 =>
      J0 y13_1 v39 v40 h15) (
      Eb (nw #[Value.slice none 0 0, Value.slice none 0 0] I.t_simulcastref40_Graph h8) fun y13_2 h16 =>
      lda 4 v35 h16 = some v36 ∧
      lda 2 x10 h16 = some v31 ∧
      lda 4 g7 h16 = some v29 ∧
      S.C I.f_simulcastlaw40_do [v29, v21, v31, all11, v36] h16 fun v37_1 h17 =>
      Vb (ext 0 v37_1) fun v38_1 =>
      Vb (ext 1 v37_1) fun v39_1 =>
      Vb (ext 2 v37_1) fun v40_1 =>
      Sb (sto 2 y13_2 v38_1 h17) fun h18 =>
      J0 y13_2 v39_1 v40_1 h18)) (
    Vb (lda 4 g7 h8) fun v49 =>
    Vb (lda 2 x10 h8) fun v51 =>
    Sb (sto 4 v2 v49 h8) fun h19 =>
    lda 2 x10 h19 = some v51 ∧
    Sb (sto 2 v4 v51 h19) fun h20 =>
    Vb (lda 4 v2 h20) fun r0 =>
    Vb (lda 2 v4 h20) fun r2 =>
    R (.tuple #[r0, v21, r2, all11, (Value.bool true)]) h20)

def F_graph_Graph_Vertices (S : Sys) (I : Ids) (g0 s1 : Value) (h : Hp) (R : Value → Hp → Prop) : Prop :=
  Eb (nw (Value.cells g0) I.t_graph_Graph h) fun g2 h1 =>
  Eb (nw #[Value.slice none 0 0] I.t_s_int64 h1) fun out6 h2 =>
  Eb (nw #[Value.int IntKind.i64 0] I.t_api_Errno h2) fun e7 h3 =>
  Sb (sto 1 e7 (Value.int IntKind.i64 0) h3) fun h4 =>
  Vb (lda 4 g2 h4) fun v9 =>
  Vb (lda 4 g2 h4) fun v11 =>
  S.C I.f_graph_Graph_all [v11] h4 fun v12 h5 =>
  lda 4 g2 h5 = some v9 ∧
  S.C I.f_graph_Graph_through [v9, s1, v12, e7] h5 fun v13 h6 =>
  Rg S.C S.Y v13 h6 (fun l0 as0 h7 R0 =>
      A1 as0 fun v14 =>
      Sb (bgn l0 h7) fun h8 =>
      Vb (ldc out6 h8) fun v15 =>
      Eb (bsl #[Value.int IntKind.i64 0] 1 1 I.t_int64 [(0, v14)] h8) fun v17 h9 =>
      Ap I.t_int64 #[Value.int IntKind.i64 0] 1 8 v15 v17 h9 fun v18 h10 =>
      Sb (sto 1 out6 v18 h10) fun h11 =>
      Sb (fin l0 none h11) fun h12 =>
      R0 (.bool true) h12) fun j0 h13 =>
  Jp j0 (
    Vb (ldc e7 h13) fun v19 =>
    Vb (bin .neq v19 (Value.int IntKind.i64 0)) fun v20 =>
    Br v20 (
      Vb (ldc e7 h13) fun v21 =>
      Sb (tkd h6.size h13) fun h14 =>
      R (.tuple #[(Value.slice none 0 0), v21]) h14) (
      Vb (ldc out6 h13) fun v22 =>
      Sb (tkd h6.size h13) fun h15 =>
      R (.tuple #[v22, (Value.int IntKind.i64 0)]) h15)) (
    Sb (tkd h6.size h13) fun h16 =>
    R (.tuple #[(Value.slice none 0 0), (Value.int IntKind.i64 0)]) h16) fun id0 =>
    Xb id0 0 (
    Vb (ldc e7 h13) fun v19_1 =>
    Vb (bin .neq v19_1 (Value.int IntKind.i64 0)) fun v20_1 =>
    Br v20_1 (
      Vb (ldc e7 h13) fun v21_1 =>
      Sb (tkd h6.size h13) fun h17 =>
      R (.tuple #[(Value.slice none 0 0), v21_1]) h17) (
      Vb (ldc out6 h13) fun v22_1 =>
      Sb (tkd h6.size h13) fun h18 =>
      R (.tuple #[v22_1, (Value.int IntKind.i64 0)]) h18)) (
    False)

def F_graph_Graph_Out (S : Sys) (I : Ids) (g0 s1 n2 : Value) (h : Hp) (R : Value → Hp → Prop) : Prop :=
  Eb (nw (Value.cells g0) I.t_graph_Graph h) fun g3 h1 =>
  Vb (lda 4 g3 h1) fun v8 =>
  Vb (lda 4 g3 h1) fun v11 =>
  S.C I.f_graph_Graph_out [v11, n2] h1 fun v13 h2 =>
  lda 4 g3 h2 = some v8 ∧
  S.C I.f_graph_Graph_edges [v8, s1, n2, v13, (Value.int IntKind.i64 2)] h2 fun v14 h3 =>
  Vb (ext 0 v14) fun v15 =>
  Vb (ext 1 v14) fun v16 =>
  R (.tuple #[v15, v16]) h3

def F_graph_Graph_In (S : Sys) (I : Ids) (g0 s1 n2 : Value) (h : Hp) (R : Value → Hp → Prop) : Prop :=
  Eb (nw (Value.cells g0) I.t_graph_Graph h) fun g3 h1 =>
  Vb (lda 4 g3 h1) fun v8 =>
  Vb (lda 4 g3 h1) fun v11 =>
  S.C I.f_graph_Graph_in [v11, n2] h1 fun v13 h2 =>
  lda 4 g3 h2 = some v8 ∧
  S.C I.f_graph_Graph_edges [v8, s1, n2, v13, (Value.int IntKind.i64 1)] h2 fun v14 h3 =>
  Vb (ext 0 v14) fun v15 =>
  Vb (ext 1 v14) fun v16 =>
  R (.tuple #[v15, v16]) h3

def F_graph_Graph_Edges (S : Sys) (I : Ids) (g0 s1 : Value) (h : Hp) (R : Value → Hp → Prop) : Prop :=
  Eb (nw (Value.cells g0) I.t_graph_Graph h) fun g2 h1 =>
  Vb (fa 3 g2) fun v6 =>
  Vb (ldc v6 h1) fun v7 =>
  Vb (bin .add v7 (Value.int IntKind.i64 2)) fun v8 =>
  S.C I.f_space_Space_Get [s1, v8] h1 fun v9 h2 =>
  R v9 h2

def F_simulcastlaw40_handle (S : Sys) (I : Ids) (all0 n1 : Value) (h : Hp) (R : Value → Hp → Prop) : Prop :=
  Jn1 (fun v11 h1 =>
      Br v11 (
        Vb (cvi .i64 n1) fun v13 =>
        R v13 h1) (
        Vb (cvi .i64 n1) fun v16 =>
        Vb (lnS all0) fun v18 =>
        Vb (bin .rem v16 v18) fun v19 =>
        Vb (ixs 1 all0 v19) fun v20 =>
        Vb (ldc v20 h1) fun v21 =>
        R v21 h1)) fun J0 =>
  Vb (bin .lss n1 (Value.int IntKind.i16 0)) fun v6 =>
  Br v6 (
    J0 (Value.bool true) h) (
    Vb (lnS all0) fun v9 =>
    Vb (bin .eql v9 (Value.int IntKind.i64 0)) fun v10 =>
    J0 v10 h)

def F_graph_Graph_Weight (S : Sys) (I : Ids) (g0 s1 a2 b3 : Value) (h : Hp) (R : Value → Hp → Prop) : Prop :=
  Eb (nw (Value.cells g0) I.t_graph_Graph h) fun g4 h1 =>
  Jn1 (fun v23 h2 =>
      Br v23 (
        R (.tuple #[(Value.int IntKind.i64 0), (Value.bool false)]) h2) (
        Vb (lda 4 g4 h2) fun v25 =>
        S.C I.f_graph_Graph_find [v25, s1, a2, b3] h2 fun v29 h3 =>
        Vb (ext 0 v29) fun v30 =>
        Vb (ext 1 v29) fun v31 =>
        Jn1 (fun v37 h4 =>
            Br v37 (
              R (.tuple #[(Value.int IntKind.i64 0), (Value.bool false)]) h4) (
              S.C I.f_graph_at [v30, (Value.int IntKind.i64 3)] h4 fun v40 h5 =>
              S.C I.f_space_Space_Get [s1, v40] h5 fun v41 h6 =>
              R (.tuple #[v41, (Value.bool true)]) h6)) fun J1 =>
        Vb (bin .eql v30 (Value.int IntKind.i64 0)) fun v33 =>
        Br v33 (
          J1 (Value.bool true) h3) (
          Vb (bin .neq v31 (Value.int IntKind.i64 0)) fun v36 =>
          J1 v36 h3))) fun J0 =>
  Vb (lda 4 g4 h1) fun v12 =>
  S.C I.f_graph_Graph_vertex [v12, s1, a2] h1 fun v15 h7 =>
  Vb (uno .not v15) fun v16 =>
  Br v16 (
    J0 (Value.bool true) h7) (
    Vb (lda 4 g4 h7) fun v18 =>
    S.C I.f_graph_Graph_vertex [v18, s1, b3] h7 fun v21 h8 =>
    Vb (uno .not v21) fun v22 =>
    J0 v22 h8)

def F_simulcastref40_Weight (S : Sys) (I : Ids) (g0 from1 to2 : Value) (h : Hp) (R : Value → Hp → Prop) : Prop :=
  Eb (nw (Value.cells g0) I.t_simulcastref40_Graph h) fun g3 h1 =>
  Lp1 (Value.int IntKind.i64 0) h1 fun i8 h2 again0 =>
  Vb (fa 1 g3) fun v10 =>
  Vb (ldc v10 h2) fun v11 =>
  Vb (lnS v11) fun v12 =>
  Vb (bin .lss i8 v12) fun v13 =>
  Br v13 (
    Jn1 (fun v33 h3 =>
        Br v33 (
          Vb (fa 1 g3) fun v34 =>
          Vb (ldc v34 h3) fun v35 =>
          Vb (ixs 4 v35 i8) fun v37 =>
          Vb (fa 3 v37) fun v38 =>
          Vb (ldc v38 h3) fun v39 =>
          R (.tuple #[v39, (Value.bool true)]) h3) (
          Vb (bin .add i8 (Value.int IntKind.i64 1)) fun v15 =>
          again0 v15 h3)) fun J0 =>
    Vb (fa 1 g3) fun v16 =>
    Vb (ldc v16 h2) fun v17 =>
    Vb (ixs 4 v17 i8) fun v19 =>
    Vb (fa 1 v19) fun v20 =>
    Vb (ldc v20 h2) fun v21 =>
    Vb (bin .eql v21 from1) fun v23 =>
    Br v23 (
      Vb (fa 1 g3) fun v25 =>
      Vb (ldc v25 h2) fun v26 =>
      Vb (ixs 4 v26 i8) fun v28 =>
      Vb (fa 2 v28) fun v29 =>
      Vb (ldc v29 h2) fun v30 =>
      Vb (bin .eql v30 to2) fun v32 =>
      J0 v32 h2) (
      J0 (Value.bool false) h2)) (
    R (.tuple #[(Value.int IntKind.i64 0), (Value.bool false)]) h2)

def F_graph_Graph_Label (S : Sys) (I : Ids) (g0 s1 n2 : Value) (h : Hp) (R : Value → Hp → Prop) : Prop :=
  Eb (nw (Value.cells g0) I.t_graph_Graph h) fun g3 h1 =>
  Vb (lda 4 g3 h1) fun v8 =>
  S.C I.f_graph_Graph_vertex [v8, s1, n2] h1 fun v11 h2 =>
  Vb (uno .not v11) fun v12 =>
  Br v12 (
    R (.tuple #[(Value.int IntKind.i64 0), (Value.int IntKind.i64 10)]) h2) (
    S.C I.f_graph_at [n2, (Value.int IntKind.i64 1)] h2 fun v15 h3 =>
    S.C I.f_space_Space_Get [s1, v15] h3 fun v16 h4 =>
    R (.tuple #[v16, (Value.int IntKind.i64 0)]) h4)

def F_simulcastref40_Has (S : Sys) (I : Ids) (g0 v1 : Value) (h : Hp) (R : Value → Hp → Prop) : Prop :=
  Eb (nw (Value.cells g0) I.t_simulcastref40_Graph h) fun g2 h1 =>
  Lp1 (Value.int IntKind.i64 0) h1 fun i5 h2 again0 =>
  Vb (fa 0 g2) fun v7 =>
  Vb (ldc v7 h2) fun v8 =>
  Vb (lnS v8) fun v9 =>
  Vb (bin .lss i5 v9) fun v10 =>
  Br v10 (
    Vb (fa 0 g2) fun v13 =>
    Vb (ldc v13 h2) fun v14 =>
    Vb (ixs 2 v14 i5) fun v16 =>
    Vb (fa 0 v16) fun v17 =>
    Vb (ldc v17 h2) fun v18 =>
    Vb (bin .eql v18 v1) fun v20 =>
    Br v20 (
      R (Value.bool true) h2) (
      Vb (bin .add i5 (Value.int IntKind.i64 1)) fun v12 =>
      again0 v12 h2)) (
    R (Value.bool false) h2)

def F_simulcastref40_Label (S : Sys) (I : Ids) (g0 v1 : Value) (h : Hp) (R : Value → Hp → Prop) : Prop :=
  Eb (nw (Value.cells g0) I.t_simulcastref40_Graph h) fun g2 h1 =>
  Lp1 (Value.int IntKind.i64 0) h1 fun i5 h2 again0 =>
  Vb (fa 0 g2) fun v7 =>
  Vb (ldc v7 h2) fun v8 =>
  Vb (lnS v8) fun v9 =>
  Vb (bin .lss i5 v9) fun v10 =>
  Br v10 (
    Vb (fa 0 g2) fun v13 =>
    Vb (ldc v13 h2) fun v14 =>
    Vb (ixs 2 v14 i5) fun v16 =>
    Vb (fa 0 v16) fun v17 =>
    Vb (ldc v17 h2) fun v18 =>
    Vb (bin .eql v18 v1) fun v20 =>
    Br v20 (
      Vb (fa 0 g2) fun v21 =>
      Vb (ldc v21 h2) fun v22 =>
      Vb (ixs 2 v22 i5) fun v24 =>
      Vb (fa 1 v24) fun v25 =>
      Vb (ldc v25 h2) fun v26 =>
      R v26 h2) (
      Vb (bin .add i5 (Value.int IntKind.i64 1)) fun v12 =>
      again0 v12 h2)) (
    R (Value.int IntKind.i64 0) h2)

def F_simulcastlaw40_made (S : Sys) (I : Ids) (nodes0 : Value) (h : Hp) (R : Value → Hp → Prop) : Prop :=
  Eb (nw #[Value.int IntKind.i64 0, Value.int IntKind.i64 0, Value.int IntKind.i64 0, Value.int IntKind.i64 0] I.t_graph_Graph h) fun v2 h1 =>
  Vb (bldS [(0, 1), (1, 1), (2, 1)] #[Value.int IntKind.i64 0, Value.int IntKind.i64 0, Value.int IntKind.i64 0] [(0, (Value.int IntKind.i64 1)), (1, (Value.int IntKind.i64 24)), (2, nodes0)]) fun v5 =>
  Vb (bldS [(0, 3), (3, 1)] #[Value.int IntKind.i64 0, Value.int IntKind.i64 0, Value.int IntKind.i64 0, Value.int IntKind.i64 0] [(0, v5), (1, (Value.int IntKind.i64 8))]) fun v6 =>
  Vb (bin .mul (Value.int IntKind.i64 8) nodes0) fun v8 =>
  Vb (bin .add (Value.int IntKind.i64 24) v8) fun v9 =>
  Sb (sto 4 v2 v6 h1) fun h2 =>
  Vb (lda 4 v2 h2) fun r0 =>
  R (.tuple #[r0, v9]) h2

def F_simulcastlaw40_empty (S : Sys) (I : Ids) (places0 : Value) (h : Hp) (R : Value → Hp → Prop) : Prop :=
  Eb (mmk h) fun v5 h1 =>
  Lp1 (Value.int IntKind.i64 0) h1 fun i4 h2 again0 =>
  Vb (bin .lss i4 places0) fun v8 =>
  Br v8 (
    Vb (bldS [(0, 1), (1, 1), (2, 1)] #[Value.int IntKind.i64 0, Value.int IntKind.u32 0, Value.int IntKind.u32 0] []) fun v13 =>
    Sb (mup (.int .i64) v5 i4 v13 h2) fun h3 =>
    Vb (bin .add i4 (Value.int IntKind.i64 1)) fun v10 =>
    again0 v10 h3) (
    S.C I.f_space_New [v5] h2 fun v15 h4 =>
    R v15 h4)

def F_simulcastlaw40_do (S : Sys) (I : Ids) (g0 s1 x2 all3 c4 : Value) (h : Hp) (R : Value → Hp → Prop) : Prop :=
  Eb (nw (Value.cells g0) I.t_graph_Graph h) fun g5 h1 =>
  Eb (nw (Value.cells x2) I.t_simulcastref40_Graph h1) fun x7 h2 =>
  Eb (nw (Value.cells c4) I.t_simulcastlaw40_Call h2) fun c9 h3 =>
  Eb (nw #[Value.slice none 0 0, Value.slice none 0 0] I.t_simulcastref40_Graph h3) fun v10 h4 =>
  Vb (fa 1 c9) fun v30 =>
  Vb (ldc v30 h4) fun v31 =>
  Vb (fa 2 c9) fun v34 =>
  Vb (ldc v34 h4) fun v35 =>
  S.C I.f_simulcastlaw40_handle [all3, v31] h4 fun v32 h5 =>
  ldc v34 h5 = some v35 ∧
  S.C I.f_simulcastlaw40_handle [all3, v35] h5 fun v36 h6 =>
  Vb (fa 0 x7) fun v37 =>
  Vb (ldc v37 h6) fun v38 =>
  Vb (lnS v38) fun v39 =>
  Vb (fa 1 x7) fun v40 =>
  Vb (ldc v40 h6) fun v41 =>
  Vb (lnS v41) fun v42 =>
  Vb (bin .add v39 v42) fun v43 =>
  Vb (fa 0 c9) fun v44 =>
  Vb (ldc v44 h6) fun v45 =>
  Vb (bin .rem v45 (Value.int IntKind.u8 8)) fun v46 =>
  Jn1 (fun v47 h7 =>
      Br v47 (
        Vb (lda 4 g5 h7) fun v51 =>
        Vb (fa 3 c9) fun v53 =>
        Vb (ldc v53 h7) fun v54 =>
        S.C I.f_graph_Graph_Add [v51, s1, v54] h7 fun v55 h8 =>
        Vb (ext 0 v55) fun v56 =>
        Vb (ext 1 v55) fun v57 =>
        Vb (fa 0 g5) fun v59 =>
        Vb (fa 2 v59) fun v60 =>
        Vb (ldc v60 h8) fun v61 =>
        Vb (bin .geq v43 v61) fun v62 =>
        Br v62 (
          Jn2 (fun v11 v12 h9 =>
              Vb (lda 2 v10 h9) fun r0 =>
              R (.tuple #[r0, v11, v12]) h9) fun J1 =>
          Vb (lda 2 x7 h8) fun v63 =>
          Vb (bin .eql v57 (Value.int IntKind.i64 9)) fun v66 =>
          Br v66 (
            Vb (bin .eql v56 (Value.int IntKind.i64 0)) fun v69 =>
            Sb (sto 2 v10 v63 h8) fun h10 =>
            J1 all3 v69 h10) (
            Sb (sto 2 v10 v63 h8) fun h11 =>
            J1 all3 (Value.bool false) h11)) (
          Vb (fa 0 g5) fun v72 =>
          Vb (lda 3 v72 h8) fun v73 =>
          S.C I.f_pool_Pool_Node [v73, v56] h8 fun v75 h12 =>
          Vb (ext 0 v75) fun v76 =>
          Vb (ext 1 v75) fun v77 =>
          Jn2 (fun v11_1 v12_1 h13 =>
              Vb (lda 2 v10 h13) fun r0 =>
              R (.tuple #[r0, v11_1, v12_1]) h13) fun J2 =>
          Vb (lda 2 x7 h12) fun v78 =>
          Vb (fa 3 c9) fun v80 =>
          Vb (ldc v80 h12) fun v81 =>
          S.C I.f_simulcastref40_Add [v78, v56, v81] h12 fun v82 h14 =>
          Eb (bsl #[Value.int IntKind.i64 0] 1 1 I.t_int64 [(0, v56)] h14) fun v85 h15 =>
          Ap I.t_int64 #[Value.int IntKind.i64 0] 1 8 all3 v85 h15 fun v86 h16 =>
          Vb (bin .eql v57 (Value.int IntKind.i64 0)) fun v88 =>
          Br v88 (
            Br v77 (
              Vb (lda 2 x7 h16) fun v93 =>
              S.C I.f_simulcastref40_Has [v93, v56] h16 fun v95 h17 =>
              Vb (uno .not v95) fun v96 =>
              Br v96 (
                Vb (lda 2 x7 h17) fun v99 =>
                S.C I.f_simulcastref40_Is [v99, v56] h17 fun v101 h18 =>
                Vb (uno .not v101) fun v102 =>
                Sb (sto 2 v10 v82 h18) fun h19 =>
                J2 v86 v102 h19) (
                Sb (sto 2 v10 v82 h17) fun h20 =>
                J2 v86 (Value.bool false) h20)) (
              Sb (sto 2 v10 v82 h16) fun h21 =>
              J2 v86 (Value.bool false) h21)) (
            Sb (sto 2 v10 v82 h16) fun h22 =>
            J2 v86 (Value.bool false) h22))) (
        Jn1 (fun v104 h23 =>
            Br v104 (
              Vb (lda 4 g5 h23) fun v108 =>
              Vb (fa 3 c9) fun v112 =>
              Vb (ldc v112 h23) fun v113 =>
              S.C I.f_graph_Graph_Link [v108, s1, v32, v36, v113] h23 fun v114 h24 =>
              Vb (ext 0 v114) fun v115 =>
              Vb (ext 1 v114) fun v116 =>
              Vb (lda 2 x7 h24) fun v118 =>
              S.C I.f_simulcastref40_Weight [v118, v32, v36] h24 fun v121 h25 =>
              Vb (ext 0 v121) fun v122 =>
              Vb (ext 1 v121) fun v123 =>
              Jn1 (fun v124 h26 =>
                  Br v124 (
                    Jn2 (fun v11_2 v12_2 h27 =>
                        Vb (lda 2 v10 h27) fun r0 =>
                        R (.tuple #[r0, v11_2, v12_2]) h27) fun J5 =>
                    Vb (lda 2 x7 h26) fun v135 =>
                    Vb (bin .eql v116 (Value.int IntKind.i64 10)) fun v138 =>
                    Br v138 (
                      Vb (bin .eql v115 (Value.int IntKind.i64 0)) fun v141 =>
                      Sb (sto 2 v10 v135 h26) fun h28 =>
                      J5 all3 v141 h28) (
                      Sb (sto 2 v10 v135 h26) fun h29 =>
                      J5 all3 (Value.bool false) h29)) (
                    Br v123 (
                      Jn2 (fun v11_3 v12_3 h30 =>
                          Vb (lda 2 v10 h30) fun r0 =>
                          R (.tuple #[r0, v11_3, v12_3]) h30) fun J6 =>
                      Vb (lda 2 x7 h26) fun v145 =>
                      Vb (bin .eql v116 (Value.int IntKind.i64 11)) fun v148 =>
                      Br v148 (
                        Vb (bin .eql v115 (Value.int IntKind.i64 0)) fun v151 =>
                        Sb (sto 2 v10 v145 h26) fun h31 =>
                        J6 all3 v151 h31) (
                        Sb (sto 2 v10 v145 h26) fun h32 =>
                        J6 all3 (Value.bool false) h32)) (
                      Vb (fa 0 g5) fun v155 =>
                      Vb (fa 2 v155) fun v156 =>
                      Vb (ldc v156 h26) fun v157 =>
                      Vb (bin .geq v43 v157) fun v158 =>
                      Br v158 (
                        Jn2 (fun v11_4 v12_4 h33 =>
                            Vb (lda 2 v10 h33) fun r0 =>
                            R (.tuple #[r0, v11_4, v12_4]) h33) fun J7 =>
                        Vb (lda 2 x7 h26) fun v159 =>
                        Vb (bin .eql v116 (Value.int IntKind.i64 9)) fun v162 =>
                        Br v162 (
                          Vb (bin .eql v115 (Value.int IntKind.i64 0)) fun v165 =>
                          Sb (sto 2 v10 v159 h26) fun h34 =>
                          J7 all3 v165 h34) (
                          Sb (sto 2 v10 v159 h26) fun h35 =>
                          J7 all3 (Value.bool false) h35)) (
                        Vb (fa 0 g5) fun v168 =>
                        Vb (lda 3 v168 h26) fun v169 =>
                        S.C I.f_pool_Pool_Node [v169, v115] h26 fun v171 h36 =>
                        Vb (ext 0 v171) fun v172 =>
                        Vb (ext 1 v171) fun v173 =>
                        Jn2 (fun v11_5 v12_5 h37 =>
                            Vb (lda 2 v10 h37) fun r0 =>
                            R (.tuple #[r0, v11_5, v12_5]) h37) fun J8 =>
                        Vb (lda 2 x7 h36) fun v174 =>
                        Vb (fa 3 c9) fun v178 =>
                        Vb (ldc v178 h36) fun v179 =>
                        S.C I.f_simulcastref40_Link [v174, v115, v32, v36, v179] h36 fun v180 h38 =>
                        Eb (bsl #[Value.int IntKind.i64 0] 1 1 I.t_int64 [(0, v115)] h38) fun v183 h39 =>
                        Ap I.t_int64 #[Value.int IntKind.i64 0] 1 8 all3 v183 h39 fun v184 h40 =>
                        Vb (bin .eql v116 (Value.int IntKind.i64 0)) fun v186 =>
                        Br v186 (
                          Br v173 (
                            Vb (lda 2 x7 h40) fun v191 =>
                            S.C I.f_simulcastref40_Has [v191, v115] h40 fun v193 h41 =>
                            Vb (uno .not v193) fun v194 =>
                            Br v194 (
                              Vb (lda 2 x7 h41) fun v197 =>
                              S.C I.f_simulcastref40_Is [v197, v115] h41 fun v199 h42 =>
                              Vb (uno .not v199) fun v200 =>
                              Sb (sto 2 v10 v180 h42) fun h43 =>
                              J8 v184 v200 h43) (
                              Sb (sto 2 v10 v180 h41) fun h44 =>
                              J8 v184 (Value.bool false) h44)) (
                            Sb (sto 2 v10 v180 h40) fun h45 =>
                            J8 v184 (Value.bool false) h45)) (
                          Sb (sto 2 v10 v180 h40) fun h46 =>
                          J8 v184 (Value.bool false) h46))))) fun J4 =>
              Vb (lda 2 x7 h25) fun v125 =>
              S.C I.f_simulcastref40_Has [v125, v32] h25 fun v127 h47 =>
              Vb (uno .not v127) fun v128 =>
              Br v128 (
                J4 (Value.bool true) h47) (
                Vb (lda 2 x7 h47) fun v130 =>
                S.C I.f_simulcastref40_Has [v130, v36] h47 fun v132 h48 =>
                Vb (uno .not v132) fun v133 =>
                J4 v133 h48)) (
              Vb (bin .eql v46 (Value.int IntKind.u8 4)) fun v203 =>
              Br v203 (
                Vb (lda 4 g5 h23) fun v204 =>
                S.C I.f_graph_Graph_Cut [v204, s1, v32] h23 fun v207 h49 =>
                Vb (lda 2 x7 h49) fun v208 =>
                S.C I.f_simulcastref40_Is [v208, v32] h49 fun v210 h50 =>
                Vb (uno .not v210) fun v211 =>
                Br v211 (
                  Vb (lda 2 x7 h50) fun v212 =>
                  Vb (bin .eql v207 (Value.int IntKind.i64 10)) fun v215 =>
                  Sb (sto 2 v10 v212 h50) fun h51 =>
                  Vb (lda 2 v10 h51) fun r0 =>
                  R (.tuple #[r0, all3, v215]) h51) (
                  Vb (lda 2 x7 h50) fun v216 =>
                  S.C I.f_simulcastref40_Cut [v216, v32] h50 fun v218 h52 =>
                  Vb (bin .eql v207 (Value.int IntKind.i64 0)) fun v221 =>
                  Sb (sto 2 v10 v218 h52) fun h53 =>
                  Vb (lda 2 v10 h53) fun r0 =>
                  R (.tuple #[r0, all3, v221]) h53)) (
                Vb (bin .eql v46 (Value.int IntKind.u8 5)) fun v223 =>
                Br v223 (
                  Vb (lda 4 g5 h23) fun v225 =>
                  S.C I.f_graph_Graph_Drop [v225, s1, v32] h23 fun v228 h54 =>
                  Vb (ext 0 v228) fun v229 =>
                  Vb (ext 1 v228) fun v230 =>
                  Vb (lda 2 x7 h54) fun v231 =>
                  S.C I.f_simulcastref40_Has [v231, v32] h54 fun v233 h55 =>
                  Vb (uno .not v233) fun v234 =>
                  Br v234 (
                    Jn2 (fun v11_6 v12_6 h56 =>
                        Vb (lda 2 v10 h56) fun r0 =>
                        R (.tuple #[r0, v11_6, v12_6]) h56) fun J9 =>
                    Vb (lda 2 x7 h55) fun v235 =>
                    Vb (bin .eql v230 (Value.int IntKind.i64 10)) fun v238 =>
                    Br v238 (
                      Vb (bin .eql v229 (Value.int IntKind.i64 0)) fun v241 =>
                      Sb (sto 2 v10 v235 h55) fun h57 =>
                      J9 all3 v241 h57) (
                      Sb (sto 2 v10 v235 h55) fun h58 =>
                      J9 all3 (Value.bool false) h58)) (
                    Jn2 (fun v11_7 v12_7 h59 =>
                        Vb (lda 2 v10 h59) fun r0 =>
                        R (.tuple #[r0, v11_7, v12_7]) h59) fun J10 =>
                    Vb (lda 2 x7 h55) fun v243 =>
                    S.C I.f_simulcastref40_Drop [v243, v32] h55 fun v245 h60 =>
                    Vb (bin .eql v230 (Value.int IntKind.i64 0)) fun v248 =>
                    Br v248 (
                      Vb (lda 2 x7 h60) fun v251 =>
                      S.C I.f_simulcastref40_Label [v251, v32] h60 fun v253 h61 =>
                      Vb (bin .eql v229 v253) fun v254 =>
                      Sb (sto 2 v10 v245 h61) fun h62 =>
                      J10 all3 v254 h62) (
                      Sb (sto 2 v10 v245 h60) fun h63 =>
                      J10 all3 (Value.bool false) h63))) (
                  Vb (lda 2 x7 h23) fun v256 =>
                  Sb (sto 2 v10 v256 h23) fun h64 =>
                  Vb (lda 2 v10 h64) fun r0 =>
                  R (.tuple #[r0, all3, (Value.bool true)]) h64)))) fun J3 =>
        Vb (bin .eql v46 (Value.int IntKind.u8 2)) fun v105 =>
        Br v105 (
          J3 v105 h7) (
          Vb (bin .eql v46 (Value.int IntKind.u8 3)) fun v106 =>
          J3 v106 h7))) fun J0 =>
  Vb (bin .eql v46 (Value.int IntKind.u8 0)) fun v48 =>
  Br v48 (
    J0 v48 h6) (
    Vb (bin .eql v46 (Value.int IntKind.u8 1)) fun v49 =>
    J0 v49 h6)

def F_simulcastlaw40_same (S : Sys) (I : Ids) (g0 s1 x2 : Value) (h : Hp) (R : Value → Hp → Prop) : Prop :=
  Eb (nw (Value.cells g0) I.t_graph_Graph h) fun g3 h1 =>
  Eb (nw (Value.cells x2) I.t_simulcastref40_Graph h1) fun x5 h2 =>
  Vb (lda 4 g3 h2) fun v18 =>
  S.C I.f_graph_Graph_Vertices [v18, s1] h2 fun v20 h3 =>
  Vb (ext 0 v20) fun v21 =>
  Vb (ext 1 v20) fun v22 =>
  Jn1 (fun v61 h4 =>
      Br v61 (
        R (Value.bool false) h4) (
        Lp1 (Value.int IntKind.i64 0) h4 fun i9 h5 again0 =>
        Vb (lnS v21) fun v64 =>
        Vb (bin .lss i9 v64) fun v65 =>
        Br v65 (
          Vb (fa 0 x5) fun v68 =>
          Vb (ldc v68 h5) fun v69 =>
          Vb (ixs 2 v69 i9) fun v71 =>
          Vb (fa 0 v71) fun v72 =>
          Vb (ldc v72 h5) fun v73 =>
          Vb (lda 4 g3 h5) fun v75 =>
          S.C I.f_graph_Graph_Label [v75, s1, v73] h5 fun v78 h6 =>
          Vb (ext 0 v78) fun v79 =>
          Vb (ext 1 v78) fun v80 =>
          Vb (lda 4 g3 h6) fun v82 =>
          S.C I.f_graph_Graph_Out [v82, s1, v73] h6 fun v85 h7 =>
          Vb (ext 0 v85) fun v86 =>
          Vb (ext 1 v85) fun v87 =>
          Vb (lda 4 g3 h7) fun v89 =>
          S.C I.f_graph_Graph_In [v89, s1, v73] h7 fun v92 h8 =>
          Vb (ext 0 v92) fun v93 =>
          Vb (ext 1 v92) fun v94 =>
          Jn1 (fun v138 h9 =>
              Br v138 (
                R (Value.bool false) h9) (
                Vb (bin .add i9 (Value.int IntKind.i64 1)) fun v67 =>
                again0 v67 h9)) fun J1 =>
          Vb (ixs 1 v21 i9) fun v97 =>
          Vb (ldc v97 h8) fun v98 =>
          Vb (bin .neq v98 v73) fun v100 =>
          Br v100 (
            J1 (Value.bool true) h8) (
            Vb (fa 0 x5) fun v103 =>
            Vb (ldc v103 h8) fun v104 =>
            Vb (ixs 2 v104 i9) fun v106 =>
            Vb (fa 1 v106) fun v107 =>
            Vb (ldc v107 h8) fun v108 =>
            Vb (bin .neq v79 v108) fun v109 =>
            Br v109 (
              J1 (Value.bool true) h8) (
              Vb (bin .neq v80 (Value.int IntKind.i64 0)) fun v113 =>
              Br v113 (
                J1 (Value.bool true) h8) (
                Vb (bin .neq v87 (Value.int IntKind.i64 0)) fun v117 =>
                Br v117 (
                  J1 (Value.bool true) h8) (
                  Vb (bin .neq v94 (Value.int IntKind.i64 0)) fun v121 =>
                  Br v121 (
                    J1 (Value.bool true) h8) (
                    Vb (lda 2 x5 h8) fun v125 =>
                    S.C I.f_simulcastref40_Out [v125, v73] h8 fun v127 h10 =>
                    S.C I.f_simulcastref40_Same [v86, v127] h10 fun v128 h11 =>
                    Vb (uno .not v128) fun v129 =>
                    Br v129 (
                      J1 (Value.bool true) h11) (
                      Vb (lda 2 x5 h11) fun v133 =>
                      S.C I.f_simulcastref40_In [v133, v73] h11 fun v135 h12 =>
                      S.C I.f_simulcastref40_Same [v93, v135] h12 fun v136 h13 =>
                      Vb (uno .not v136) fun v137 =>
                      J1 v137 h13))))))) (
          R (Value.bool true) h5))) fun J0 =>
  Vb (bin .neq v22 (Value.int IntKind.i64 0)) fun v24 =>
  Br v24 (
    J0 (Value.bool true) h3) (
    Vb (lnS v21) fun v27 =>
    Vb (fa 0 x5) fun v28 =>
    Vb (ldc v28 h3) fun v29 =>
    Vb (lnS v29) fun v30 =>
    Vb (bin .neq v27 v30) fun v31 =>
    Br v31 (
      J0 (Value.bool true) h3) (
      Vb (lda 4 g3 h3) fun v34 =>
      Vb (fa 1 x5) fun v37 =>
      Vb (ldc v37 h3) fun v38 =>
      Vb (lnS v38) fun v39 =>
      S.C I.f_graph_Graph_Edges [v34, s1] h3 fun v36 h14 =>
      ldc v37 h14 = some v38 ∧
      Vb (bin .neq v36 v39) fun v40 =>
      Br v40 (
        J0 (Value.bool true) h14) (
        Vb (fa 0 x5) fun v45 =>
        Vb (ldc v45 h14) fun v46 =>
        Vb (lnS v46) fun v47 =>
        S.C I.f_space_Space_Get [s1, (Value.int IntKind.i64 9)] h14 fun v44 h15 =>
        ldc v45 h15 = some v46 ∧
        Vb (bin .neq v44 v47) fun v48 =>
        Br v48 (
          J0 (Value.bool true) h15) (
          Vb (fa 0 x5) fun v53 =>
          Vb (ldc v53 h15) fun v54 =>
          Vb (lnS v54) fun v55 =>
          Vb (fa 1 x5) fun v56 =>
          Vb (ldc v56 h15) fun v57 =>
          Vb (lnS v57) fun v58 =>
          Vb (bin .add v55 v58) fun v59 =>
          S.C I.f_space_Space_Get [s1, (Value.int IntKind.i64 15)] h15 fun v52 h16 =>
          ldc v56 h16 = some v57 ∧
          ldc v53 h16 = some v54 ∧
          Vb (bin .neq v52 v59) fun v60 =>
          J0 v60 h16))))

def F_space_New (S : Sys) (I : Ids) (known0 : Value) (h : Hp) (R : Value → Hp → Prop) : Prop :=
  Eb (mmk h) fun v6 h1 =>
  Eb (mmk h1) fun v7 h2 =>
  Vb (bldS [(0, 1), (1, 1), (2, 1), (3, 1), (4, 1)] #[Value.map none, Value.map none, Value.slice none 0 0, Value.int IntKind.i64 0, Value.bool false] [(0, v6), (1, v7)]) fun v8 =>
  Eb (nw (Value.cells v8) I.t_space_Space h2) fun v9 h3 =>
  Eb (rng known0 h3) fun v11 h4 =>
  Lp0 h4 fun h5 again0 =>
  Nx v11 h5 fun v12 h6 =>
  Vb (ext 0 v12) fun v13 =>
  Br v13 (
    Vb (ent v11 h6) fun v14 =>
    Vb (ext 0 v14) fun v15 =>
    Vb (ext 1 v14) fun v16 =>
    Eb (nw #[Value.int IntKind.i64 0, Value.int IntKind.u32 0, Value.int IntKind.u32 0] I.t_api_Word h6) fun w5 h7 =>
    Sb (sto 3 w5 v16 h7) fun h8 =>
    Vb (fa 2 w5) fun v17 =>
    Vb (ldc v17 h8) fun v18 =>
    Vb (bin .eql v18 (Value.int IntKind.u32 0)) fun v19 =>
    Br v19 (
      Vb (nck v9) fun v21 =>
      Vb (fa 0 v21) fun v22 =>
      Vb (ldc v22 h8) fun v23 =>
      Vb (lda 3 w5 h8) fun v25 =>
      Sb (mup (.int .i64) v23 v15 v25 h8) fun h9 =>
      again0 h9) (
      again0 h8)) (
    R v9 h6)

def F_space_Space_Mark (S : Sys) (I : Ids) (s0 : Value) (h : Hp) (R : Value → Hp → Prop) : Prop :=
  Vb (pos? (eqP s0 (Value.pointer none))) fun v4 =>
  Br v4 (
    R (Value.int IntKind.i64 0) h) (
    Vb (nck s0) fun v6 =>
    Vb (fa 2 v6) fun v7 =>
    Vb (ldc v7 h) fun v8 =>
    Vb (lnS v8) fun v9 =>
    R v9 h)

def F_graph_Graph_Add (S : Sys) (I : Ids) (g0 s1 name2 : Value) (h : Hp) (R : Value → Hp → Prop) : Prop :=
  Eb (nw (Value.cells g0) I.t_graph_Graph h) fun g3 h1 =>
  Eb (nw #[Value.int IntKind.i64 0] I.t_api_Errno h1) fun e7 h2 =>
  S.C I.f_space_Space_Mark [s1] h2 fun v15 h3 =>
  Vb (fa 0 g3) fun v17 =>
  Vb (lda 3 v17 h3) fun v18 =>
  S.C I.f_pool_Pool_Take [v18, s1] h3 fun v20 h4 =>
  Vb (ext 0 v20) fun v21 =>
  Vb (ext 1 v20) fun v22 =>
  Sb (sto 1 e7 v22 h4) fun h5 =>
  Vb (ldc e7 h5) fun v23 =>
  Vb (bin .neq v23 (Value.int IntKind.i64 0)) fun v24 =>
  Br v24 (
    Vb (ldc e7 h5) fun v25 =>
    Sb (sto 1 e7 v25 h5) fun h6 =>
    S.D I.f_graph_undo [s1, v15, e7] h6 fun h7 =>
    Vb (ldc e7 h7) fun r1 =>
    R (.tuple #[(Value.int IntKind.i64 0), r1]) h7) (
    Vb (lda 4 g3 h5) fun v27 =>
    S.C I.f_graph_Graph_vertexMark [v27] h5 fun v28 h8 =>
    Eb (bsl #[Value.int IntKind.i64 0] 1 8 I.t_int64 [(0, v28), (1, name2), (4, (Value.int IntKind.i64 0)), (5, (Value.int IntKind.i64 0)), (6, (Value.int IntKind.i64 0)), (7, (Value.int IntKind.i64 0))] h8) fun v30 h9 =>
    Vb (lnS v30) fun v31 =>
    Lp1 (Value.int IntKind.i64 0) h9 fun v32 h10 again0 =>
    Vb (bin .lss v32 v31) fun v33 =>
    Br v33 (
      Jn0 (fun h11 =>
          Vb (bin .add v32 (Value.int IntKind.i64 1)) fun v49 =>
          again0 v49 h11) fun J0 =>
      Vb (ixs 1 v30 v32) fun v35 =>
      Vb (ldc v35 h10) fun v36 =>
      Jn1 (fun v42 h12 =>
          Br v42 (
            S.C I.f_graph_at [v21, v32] h12 fun v46 h13 =>
            S.C I.f_space_Space_Put [s1, v46, v36] h13 fun v48 h14 =>
            J0 h14) (
            J0 h12)) fun J1 =>
      Vb (bin .neq v32 (Value.int IntKind.i64 2)) fun v38 =>
      Br v38 (
        Vb (bin .neq v32 (Value.int IntKind.i64 3)) fun v41 =>
        J1 v41 h10) (
        J1 (Value.bool false) h10)) (
      Vb (lda 4 g3 h10) fun v50 =>
      Vb (lda 4 g3 h10) fun v52 =>
      S.C I.f_graph_Graph_all [v52] h10 fun v53 h15 =>
      lda 4 g3 h15 = some v50 ∧
      S.C I.f_graph_Graph_link [v50, s1, v53, v21] h15 fun v55 h16 =>
      Vb (bin .neq v55 (Value.int IntKind.i64 0)) fun v57 =>
      Br v57 (
        Sb (sto 1 e7 v55 h16) fun h17 =>
        S.D I.f_graph_undo [s1, v15, e7] h17 fun h18 =>
        Vb (ldc e7 h18) fun r1 =>
        R (.tuple #[(Value.int IntKind.i64 0), r1]) h18) (
        Vb (fa 3 g3) fun v60 =>
        Vb (ldc v60 h16) fun v61 =>
        Vb (bin .add v61 (Value.int IntKind.i64 1)) fun v62 =>
        S.C I.f_graph_more [s1, v62, (Value.int IntKind.i64 1)] h16 fun v63 h19 =>
        Vb (fa 3 g3) fun v65 =>
        Vb (ldc v65 h19) fun v66 =>
        Vb (bin .add v66 (Value.int IntKind.i64 7)) fun v67 =>
        S.C I.f_graph_more [s1, v67, (Value.int IntKind.i64 1)] h19 fun v68 h20 =>
        Sb (sto 1 e7 (Value.int IntKind.i64 0) h20) fun h21 =>
        S.D I.f_graph_undo [s1, v15, e7] h21 fun h22 =>
        Vb (ldc e7 h22) fun r1 =>
        R (.tuple #[v21, r1]) h22)))

def F_graph_Graph_Link (S : Sys) (I : Ids) (g0 s1 a2 b3 heavy4 : Value) (h : Hp) (R : Value → Hp → Prop) : Prop :=
  Eb (nw (Value.cells g0) I.t_graph_Graph h) fun g5 h1 =>
  Eb (nw #[Value.int IntKind.i64 0] I.t_api_Errno h1) fun e11 h2 =>
  S.C I.f_space_Space_Mark [s1] h2 fun v22 h3 =>
  Jn1 (fun v34 h4 =>
      Br v34 (
        Sb (sto 1 e11 (Value.int IntKind.i64 10) h4) fun h5 =>
        S.D I.f_graph_undo [s1, v22, e11] h5 fun h6 =>
        Vb (ldc e11 h6) fun r1 =>
        R (.tuple #[(Value.int IntKind.i64 0), r1]) h6) (
        Vb (lda 4 g5 h4) fun v36 =>
        S.C I.f_graph_Graph_find [v36, s1, a2, b3] h4 fun v40 h7 =>
        Vb (ext 0 v40) fun v41 =>
        Vb (ext 1 v40) fun v42 =>
        Vb (bin .neq v41 (Value.int IntKind.i64 0)) fun v44 =>
        Br v44 (
          Sb (sto 1 e11 (Value.int IntKind.i64 11) h7) fun h8 =>
          S.D I.f_graph_undo [s1, v22, e11] h8 fun h9 =>
          Vb (ldc e11 h9) fun r1 =>
          R (.tuple #[(Value.int IntKind.i64 0), r1]) h9) (
          Vb (fa 0 g5) fun v46 =>
          Vb (lda 3 v46 h7) fun v47 =>
          S.C I.f_pool_Pool_Take [v47, s1] h7 fun v49 h10 =>
          Vb (ext 0 v49) fun v50 =>
          Vb (ext 1 v49) fun v51 =>
          Sb (sto 1 e11 v51 h10) fun h11 =>
          Vb (ldc e11 h11) fun v52 =>
          Vb (bin .neq v52 (Value.int IntKind.i64 0)) fun v53 =>
          Br v53 (
            Vb (ldc e11 h11) fun v54 =>
            Sb (sto 1 e11 v54 h11) fun h12 =>
            S.D I.f_graph_undo [s1, v22, e11] h12 fun h13 =>
            Vb (ldc e11 h13) fun r1 =>
            R (.tuple #[(Value.int IntKind.i64 0), r1]) h13) (
            Vb (bin .neq v42 (Value.int IntKind.i64 0)) fun v56 =>
            Br v56 (
              Sb (sto 1 e11 v42 h11) fun h14 =>
              S.D I.f_graph_undo [s1, v22, e11] h14 fun h15 =>
              Vb (ldc e11 h15) fun r1 =>
              R (.tuple #[(Value.int IntKind.i64 0), r1]) h15) (
              Vb (lda 4 g5 h11) fun v59 =>
              S.C I.f_graph_Graph_edgeMark [v59] h11 fun v60 h16 =>
              Eb (bsl #[Value.int IntKind.i64 0] 1 4 I.t_int64 [(0, v60), (1, a2), (2, b3), (3, heavy4)] h16) fun v64 h17 =>
              Vb (lnS v64) fun v65 =>
              Lp1 (Value.int IntKind.i64 0) h17 fun v66 h18 again0 =>
              Vb (bin .lss v66 v65) fun v67 =>
              Br v67 (
                Vb (ixs 1 v64 v66) fun v69 =>
                Vb (ldc v69 h18) fun v70 =>
                S.C I.f_graph_at [v50, v66] h18 fun v74 h19 =>
                S.C I.f_space_Space_Put [s1, v74, v70] h19 fun v76 h20 =>
                Vb (bin .add v66 (Value.int IntKind.i64 1)) fun v77 =>
                again0 v77 h20) (
                Vb (lda 4 g5 h18) fun v78 =>
                Vb (lda 4 g5 h18) fun v80 =>
                S.C I.f_graph_Graph_out [v80, a2] h18 fun v82 h21 =>
                lda 4 g5 h21 = some v78 ∧
                S.C I.f_graph_Graph_link [v78, s1, v82, v50] h21 fun v84 h22 =>
                Vb (bin .neq v84 (Value.int IntKind.i64 0)) fun v86 =>
                Br v86 (
                  Sb (sto 1 e11 v84 h22) fun h23 =>
                  S.D I.f_graph_undo [s1, v22, e11] h23 fun h24 =>
                  Vb (ldc e11 h24) fun r1 =>
                  R (.tuple #[(Value.int IntKind.i64 0), r1]) h24) (
                  Vb (lda 4 g5 h22) fun v88 =>
                  Vb (lda 4 g5 h22) fun v90 =>
                  S.C I.f_graph_Graph_in [v90, b3] h22 fun v92 h25 =>
                  lda 4 g5 h25 = some v88 ∧
                  S.C I.f_graph_Graph_link [v88, s1, v92, v50] h25 fun v94 h26 =>
                  Vb (bin .neq v94 (Value.int IntKind.i64 0)) fun v96 =>
                  Br v96 (
                    Sb (sto 1 e11 v94 h26) fun h27 =>
                    S.D I.f_graph_undo [s1, v22, e11] h27 fun h28 =>
                    Vb (ldc e11 h28) fun r1 =>
                    R (.tuple #[(Value.int IntKind.i64 0), r1]) h28) (
                    S.C I.f_graph_at [a2, (Value.int IntKind.i64 6)] h26 fun v100 h29 =>
                    S.C I.f_graph_more [s1, v100, (Value.int IntKind.i64 1)] h29 fun v101 h30 =>
                    S.C I.f_graph_at [b3, (Value.int IntKind.i64 7)] h30 fun v104 h31 =>
                    S.C I.f_graph_more [s1, v104, (Value.int IntKind.i64 1)] h31 fun v105 h32 =>
                    Vb (fa 3 g5) fun v107 =>
                    Vb (ldc v107 h32) fun v108 =>
                    Vb (bin .add v108 (Value.int IntKind.i64 2)) fun v109 =>
                    S.C I.f_graph_more [s1, v109, (Value.int IntKind.i64 1)] h32 fun v110 h33 =>
                    Vb (fa 3 g5) fun v112 =>
                    Vb (ldc v112 h33) fun v113 =>
                    Vb (bin .add v113 (Value.int IntKind.i64 7)) fun v114 =>
                    S.C I.f_graph_more [s1, v114, (Value.int IntKind.i64 1)] h33 fun v115 h34 =>
                    Sb (sto 1 e11 (Value.int IntKind.i64 0) h34) fun h35 =>
                    S.D I.f_graph_undo [s1, v22, e11] h35 fun h36 =>
                    Vb (ldc e11 h36) fun r1 =>
                    R (.tuple #[v50, r1]) h36)))))))) fun J0 =>
  Vb (lda 4 g5 h3) fun v23 =>
  S.C I.f_graph_Graph_vertex [v23, s1, a2] h3 fun v26 h37 =>
  Vb (uno .not v26) fun v27 =>
  Br v27 (
    J0 (Value.bool true) h37) (
    Vb (lda 4 g5 h37) fun v29 =>
    S.C I.f_graph_Graph_vertex [v29, s1, b3] h37 fun v32 h38 =>
    Vb (uno .not v32) fun v33 =>
    J0 v33 h38)

def F_graph_Graph_Cut (S : Sys) (I : Ids) (g0 s1 n2 : Value) (h : Hp) (R : Value → Hp → Prop) : Prop :=
  Eb (nw (Value.cells g0) I.t_graph_Graph h) fun g3 h1 =>
  Eb (nw #[Value.int IntKind.i64 0] I.t_api_Errno h1) fun e6 h2 =>
  S.C I.f_space_Space_Mark [s1] h2 fun v9 h3 =>
  Vb (lda 4 g3 h3) fun v10 =>
  S.C I.f_graph_Graph_edge [v10, s1, n2] h3 fun v13 h4 =>
  Vb (uno .not v13) fun v14 =>
  Br v14 (
    Sb (sto 1 e6 (Value.int IntKind.i64 10) h4) fun h5 =>
    S.D I.f_graph_undo [s1, v9, e6] h5 fun h6 =>
    Vb (ldc e6 h6) fun r0 =>
    R r0 h6) (
    Vb (lda 4 g3 h4) fun v15 =>
    S.C I.f_graph_Graph_cut [v15, s1, n2] h4 fun v18 h7 =>
    Sb (sto 1 e6 v18 h7) fun h8 =>
    S.D I.f_graph_undo [s1, v9, e6] h8 fun h9 =>
    Vb (ldc e6 h9) fun r0 =>
    R r0 h9)

def F_graph_Graph_Drop (S : Sys) (I : Ids) (g0 s1 n2 : Value) (h : Hp) (R : Value → Hp → Prop) : Prop :=
  Eb (nw (Value.cells g0) I.t_graph_Graph h) fun g3 h1 =>
  Eb (nw #[Value.int IntKind.i64 0] I.t_api_Errno h1) fun e7 h2 =>
  S.C I.f_space_Space_Mark [s1] h2 fun v16 h3 =>
  Vb (lda 4 g3 h3) fun v17 =>
  S.C I.f_graph_Graph_vertex [v17, s1, n2] h3 fun v20 h4 =>
  Vb (uno .not v20) fun v21 =>
  Br v21 (
    Sb (sto 1 e7 (Value.int IntKind.i64 10) h4) fun h5 =>
    S.D I.f_graph_undo [s1, v16, e7] h5 fun h6 =>
    Vb (ldc e7 h6) fun r1 =>
    R (.tuple #[(Value.int IntKind.i64 0), r1]) h6) (
    S.C I.f_graph_at [n2, (Value.int IntKind.i64 1)] h4 fun v24 h7 =>
    S.C I.f_space_Space_Get [s1, v24] h7 fun v25 h8 =>
    Vb (lda 4 g3 h8) fun v26 =>
    Vb (lda 4 g3 h8) fun v29 =>
    S.C I.f_graph_Graph_out [v26, n2] h8 fun v28 h9 =>
    lda 4 g3 h9 = some v29 ∧
    S.C I.f_graph_Graph_in [v29, n2] h9 fun v31 h10 =>
    Eb (bsl #[Value.int IntKind.i64 0, Value.int IntKind.i64 0, Value.int IntKind.i64 0] 3 2 I.t_graph_list [(0, v28), (1, v31)] h10) fun v32 h11 =>
    Vb (lnS v32) fun v33 =>
    Lp1 (Value.int IntKind.i64 0) h11 fun v34 h12 again0 =>
    Vb (bin .lss v34 v33) fun v35 =>
    Br v35 (
      Vb (ixs 3 v32 v34) fun v36 =>
      Vb (lda 3 v36 h12) fun v37 =>
      Eb (nw #[Value.int IntKind.i64 0, Value.int IntKind.i64 0, Value.int IntKind.i64 0] I.t_graph_list h12) fun l10 h13 =>
      Sb (sto 3 l10 v37 h13) fun h14 =>
      Vb (lda 4 g3 h14) fun v38 =>
      Vb (lda 3 l10 h14) fun v40 =>
      S.C I.f_graph_Graph_empty [v38, s1, v40] h14 fun v41 h15 =>
      Vb (bin .neq v41 (Value.int IntKind.i64 0)) fun v43 =>
      Br v43 (
        Sb (sto 1 e7 v41 h15) fun h16 =>
        S.D I.f_graph_undo [s1, v16, e7] h16 fun h17 =>
        Vb (ldc e7 h17) fun r1 =>
        R (.tuple #[(Value.int IntKind.i64 0), r1]) h17) (
        Vb (bin .add v34 (Value.int IntKind.i64 1)) fun v45 =>
        again0 v45 h15)) (
      Vb (lda 4 g3 h12) fun v46 =>
      Vb (lda 4 g3 h12) fun v48 =>
      S.C I.f_graph_Graph_all [v48] h12 fun v49 h18 =>
      lda 4 g3 h18 = some v46 ∧
      S.C I.f_graph_Graph_unlink [v46, s1, v49, n2] h18 fun v51 h19 =>
      Vb (bin .neq v51 (Value.int IntKind.i64 0)) fun v53 =>
      Br v53 (
        Sb (sto 1 e7 v51 h19) fun h20 =>
        S.D I.f_graph_undo [s1, v16, e7] h20 fun h21 =>
        Vb (ldc e7 h21) fun r1 =>
        R (.tuple #[(Value.int IntKind.i64 0), r1]) h21) (
        Vb (fa 3 g3) fun v56 =>
        Vb (ldc v56 h19) fun v57 =>
        Vb (bin .add v57 (Value.int IntKind.i64 1)) fun v58 =>
        S.C I.f_graph_more [s1, v58, (Value.int IntKind.i64 (-1))] h19 fun v59 h22 =>
        Vb (fa 3 g3) fun v61 =>
        Vb (ldc v61 h22) fun v62 =>
        Vb (bin .add v62 (Value.int IntKind.i64 7)) fun v63 =>
        S.C I.f_graph_more [s1, v63, (Value.int IntKind.i64 (-1))] h22 fun v64 h23 =>
        Vb (fa 0 g3) fun v65 =>
        Vb (lda 3 v65 h23) fun v66 =>
        S.C I.f_pool_Pool_Give [v66, s1, n2] h23 fun v69 h24 =>
        Vb (bin .neq v69 (Value.int IntKind.i64 0)) fun v71 =>
        Br v71 (
          Sb (sto 1 e7 v69 h24) fun h25 =>
          S.D I.f_graph_undo [s1, v16, e7] h25 fun h26 =>
          Vb (ldc e7 h26) fun r1 =>
          R (.tuple #[(Value.int IntKind.i64 0), r1]) h26) (
          Sb (sto 1 e7 (Value.int IntKind.i64 0) h24) fun h27 =>
          S.D I.f_graph_undo [s1, v16, e7] h27 fun h28 =>
          Vb (ldc e7 h28) fun r1 =>
          R (.tuple #[v25, r1]) h28))))

def F_space_Space_Ended (S : Sys) (I : Ids) (s0 : Value) (h : Hp) (R : Value → Hp → Prop) : Prop :=
  Jn1 (fun v2 h1 =>
      R v2 h1) fun J0 =>
  Vb (pos? (eqP s0 (Value.pointer none))) fun v4 =>
  Br v4 (
    J0 (Value.bool true) h) (
    Vb (nck s0) fun v7 =>
    Vb (fa 4 v7) fun v8 =>
    Vb (ldc v8 h) fun v9 =>
    J0 v9 h)

def F_simulcastref40_Out (S : Sys) (I : Ids) (g0 v1 : Value) (h : Hp) (R : Value → Hp → Prop) : Prop :=
  Eb (nw (Value.cells g0) I.t_simulcastref40_Graph h) fun g2 h1 =>
  Lp2 (Value.slice none 0 0) (Value.int IntKind.i64 0) h1 fun out5 i6 h2 again0 =>
  Vb (fa 1 g2) fun v8 =>
  Vb (ldc v8 h2) fun v9 =>
  Vb (lnS v9) fun v10 =>
  Vb (bin .lss i6 v10) fun v11 =>
  Br v11 (
    Jn1 (fun out5_1 h3 =>
        Vb (bin .add i6 (Value.int IntKind.i64 1)) fun v13 =>
        again0 out5_1 v13 h3) fun J0 =>
    Vb (fa 1 g2) fun v14 =>
    Vb (ldc v14 h2) fun v15 =>
    Vb (ixs 4 v15 i6) fun v17 =>
    Vb (fa 1 v17) fun v18 =>
    Vb (ldc v18 h2) fun v19 =>
    Vb (bin .eql v19 v1) fun v21 =>
    Br v21 (
      Vb (fa 1 g2) fun v23 =>
      Vb (ldc v23 h2) fun v24 =>
      Vb (ixs 4 v24 i6) fun v26 =>
      Vb (fa 2 v26) fun v27 =>
      Vb (ldc v27 h2) fun v28 =>
      Vb (fa 1 g2) fun v29 =>
      Vb (ldc v29 h2) fun v30 =>
      Vb (ixs 4 v30 i6) fun v32 =>
      Vb (fa 3 v32) fun v33 =>
      Vb (ldc v33 h2) fun v34 =>
      Vb (bldA 1 #[Value.int IntKind.i64 0, Value.int IntKind.i64 0] [(0, v28), (1, v34)]) fun v35 =>
      Eb (bsl #[Value.int IntKind.i64 0, Value.int IntKind.i64 0] 2 1 I.t_2_int64 [(0, v35)] h2) fun v36 h4 =>
      Ap I.t_2_int64 #[Value.int IntKind.i64 0, Value.int IntKind.i64 0] 2 16 out5 v36 h4 fun v37 h5 =>
      J0 v37 h5) (
      J0 out5 h2)) (
    R out5 h2)

def F_simulcastref40_In (S : Sys) (I : Ids) (g0 v1 : Value) (h : Hp) (R : Value → Hp → Prop) : Prop :=
  Eb (nw (Value.cells g0) I.t_simulcastref40_Graph h) fun g2 h1 =>
  Lp2 (Value.slice none 0 0) (Value.int IntKind.i64 0) h1 fun out5 i6 h2 again0 =>
  Vb (fa 1 g2) fun v8 =>
  Vb (ldc v8 h2) fun v9 =>
  Vb (lnS v9) fun v10 =>
  Vb (bin .lss i6 v10) fun v11 =>
  Br v11 (
    Jn1 (fun out5_1 h3 =>
        Vb (bin .add i6 (Value.int IntKind.i64 1)) fun v13 =>
        again0 out5_1 v13 h3) fun J0 =>
    Vb (fa 1 g2) fun v14 =>
    Vb (ldc v14 h2) fun v15 =>
    Vb (ixs 4 v15 i6) fun v17 =>
    Vb (fa 2 v17) fun v18 =>
    Vb (ldc v18 h2) fun v19 =>
    Vb (bin .eql v19 v1) fun v21 =>
    Br v21 (
      Vb (fa 1 g2) fun v23 =>
      Vb (ldc v23 h2) fun v24 =>
      Vb (ixs 4 v24 i6) fun v26 =>
      Vb (fa 1 v26) fun v27 =>
      Vb (ldc v27 h2) fun v28 =>
      Vb (fa 1 g2) fun v29 =>
      Vb (ldc v29 h2) fun v30 =>
      Vb (ixs 4 v30 i6) fun v32 =>
      Vb (fa 3 v32) fun v33 =>
      Vb (ldc v33 h2) fun v34 =>
      Vb (bldA 1 #[Value.int IntKind.i64 0, Value.int IntKind.i64 0] [(0, v28), (1, v34)]) fun v35 =>
      Eb (bsl #[Value.int IntKind.i64 0, Value.int IntKind.i64 0] 2 1 I.t_2_int64 [(0, v35)] h2) fun v36 h4 =>
      Ap I.t_2_int64 #[Value.int IntKind.i64 0, Value.int IntKind.i64 0] 2 16 out5 v36 h4 fun v37 h5 =>
      J0 v37 h5) (
      J0 out5 h2)) (
    R out5 h2)

def F_pool_Pool_Free (S : Sys) (I : Ids) (p0 w1 : Value) (h : Hp) (R : Value → Hp → Prop) : Prop :=
  Eb (nw (Value.cells p0) I.t_pool_Pool h) fun p2 h1 =>
  Vb (lda 3 p2 h1) fun v11 =>
  S.C I.f_pool_Pool_Check [v11] h1 fun v12 h2 =>
  Vb (bin .neq v12 (Value.int IntKind.i64 0)) fun v14 =>
  Br v14 (
    R (.tuple #[(Value.slice none 0 0), v12]) h2) (
    Vb (fa 0 p2) fun v17 =>
    Vb (ldc v17 h2) fun v18 =>
    Cv S.C S.Y w1 [v18] h2 fun v19 h3 =>
    Lp2 (Value.slice none 0 0) v19 h3 fun out7 at8 h4 again0 =>
    Vb (lda 3 p2 h4) fun v21 =>
    S.C I.f_pool_Pool_Node [v21, at8] h4 fun v23 h5 =>
    Vb (ext 0 v23) fun v24 =>
    Vb (ext 1 v23) fun v25 =>
    Vb (bin .eql at8 (Value.int IntKind.i64 0)) fun v28 =>
    Br v28 (
      R (.tuple #[out7, (Value.int IntKind.i64 0)]) h5) (
      Jn1 (fun v29 h6 =>
          Br v29 (
            R (.tuple #[(Value.slice none 0 0), (Value.int IntKind.i64 24)]) h6) (
            Eb (bsl #[Value.int IntKind.i64 0] 1 1 I.t_int [(0, v24)] h6) fun v41 h7 =>
            Ap I.t_int #[Value.int IntKind.i64 0] 1 8 out7 v41 h7 fun v42 h8 =>
            Cv S.C S.Y w1 [at8] h8 fun v45 h9 =>
            again0 v42 v45 h9)) fun J0 =>
      Vb (uno .not v25) fun v31 =>
      Br v31 (
        J0 (Value.bool true) h5) (
        Vb (lnS out7) fun v34 =>
        Vb (fa 2 p2) fun v35 =>
        Vb (ldc v35 h5) fun v36 =>
        Vb (bin .geq v34 v36) fun v37 =>
        J0 v37 h5)))

def F_space_Space_Get (S : Sys) (I : Ids) (s0 at1 : Value) (h : Hp) (R : Value → Hp → Prop) : Prop :=
  S.C I.f_space_Space_reads [s0, at1] h fun v9 h1 =>
  Vb (uno .not v9) fun v10 =>
  Br v10 (
    R (Value.int IntKind.i64 0) h1) (
    S.C I.f_space_Space_value [s0, at1] h1 fun v14 h2 =>
    Vb (ext 0 v14) fun v15 =>
    Vb (ext 1 v14) fun v16 =>
    R v15 h2)

def F_simulcastlaw37_awake (S : Sys) (I : Ids) (h : Hp) (R : Value → Hp → Prop) : Prop :=
  S.C I.f_simulcastlaw37_made [(Value.int IntKind.i64 4)] h fun v19 h1 =>
  Vb (ext 0 v19) fun v20 =>
  Vb (ext 1 v19) fun v21 =>
  Eb (nw #[Value.int IntKind.i64 0, Value.int IntKind.i64 0, Value.int IntKind.i64 0, Value.int IntKind.i64 0] I.t_tree_Tree h1) fun t1 h2 =>
  Sb (sto 4 t1 v20 h2) fun h3 =>
  S.C I.f_simulcastlaw37_empty [v21] h3 fun v23 h4 =>
  Eb (bsl #[Value.int IntKind.i64 0] 1 3 I.t_int64 [(0, (Value.int IntKind.i64 3)), (1, (Value.int IntKind.i64 1)), (2, (Value.int IntKind.i64 2))] h4) fun v24 h5 =>
  Vb (lnS v24) fun v25 =>
  Lp1 (Value.int IntKind.i64 0) h5 fun v26 h6 again0 =>
  Vb (bin .lss v26 v25) fun v27 =>
  Br v27 (
    Vb (ixs 1 v24 v26) fun v28 =>
    Vb (ldc v28 h6) fun v29 =>
    Vb (lda 4 t1 h6) fun v31 =>
    Vb (bin .mul (Value.int IntKind.i64 10) v29) fun v35 =>
    S.C I.f_tree_Tree_Put [v31, v23, v29, v35] h6 fun v36 h7 =>
    Vb (ext 0 v36) fun v37 =>
    Vb (ext 1 v36) fun v38 =>
    Vb (ext 2 v36) fun v39 =>
    Jn1 (fun v44 h8 =>
        Br v44 (
          R (Value.bool false) h8) (
          Vb (bin .add v26 (Value.int IntKind.i64 1)) fun v45 =>
          again0 v45 h8)) fun J0 =>
    Br v38 (
      J0 (Value.bool true) h7) (
      Vb (bin .neq v39 (Value.int IntKind.i64 0)) fun v43 =>
      J0 v43 h7)) (
    Vb (lda 4 t1 h6) fun v46 =>
    Vb (lda 4 t1 h6) fun v49 =>
    S.C I.f_tree_Tree_Sum [v46, v23, (Value.int IntKind.i64 1), (Value.int IntKind.i64 2)] h6 fun v48 h9 =>
    lda 4 t1 h9 = some v49 ∧
    S.C I.f_tree_Tree_Count [v49, v23, (Value.int IntKind.i64 2), (Value.int IntKind.i64 9)] h9 fun v51 h10 =>
    Vb (lda 4 t1 h10) fun v53 =>
    S.C I.f_tree_Tree_Next [v53, v23, (Value.int IntKind.i64 2)] h10 fun v55 h11 =>
    Vb (ext 0 v55) fun v56 =>
    Vb (ext 1 v55) fun v57 =>
    Vb (lda 4 t1 h11) fun v59 =>
    S.C I.f_tree_Tree_Nth [v59, v23, (Value.int IntKind.i64 2)] h11 fun v61 h12 =>
    Vb (ext 0 v61) fun v62 =>
    Vb (ext 1 v61) fun v63 =>
    Vb (lda 4 t1 h12) fun v65 =>
    S.C I.f_tree_Tree_Drop [v65, v23, (Value.int IntKind.i64 1)] h12 fun v67 h13 =>
    Vb (ext 0 v67) fun v68 =>
    Vb (ext 1 v67) fun v69 =>
    Vb (ext 2 v67) fun v70 =>
    Jn1 (fun v0 h14 =>
        R v0 h14) fun J1 =>
    Vb (bin .eql v48 (Value.int IntKind.i64 30)) fun v72 =>
    Br v72 (
      Vb (bin .eql v51 (Value.int IntKind.i64 2)) fun v75 =>
      Br v75 (
        Vb (bin .eql v56 (Value.int IntKind.i64 2)) fun v79 =>
        Br v79 (
          Br v57 (
            Vb (bin .eql v62 (Value.int IntKind.i64 3)) fun v86 =>
            Br v86 (
              Br v63 (
                Vb (bin .eql v68 (Value.int IntKind.i64 10)) fun v93 =>
                Br v93 (
                  Br v69 (
                    Vb (bin .eql v70 (Value.int IntKind.i64 0)) fun v100 =>
                    Br v100 (
                      Vb (lda 4 t1 h13) fun v103 =>
                      S.C I.f_tree_Tree_Sum [v103, v23, (Value.int IntKind.i64 (-5)), (Value.int IntKind.i64 9)] h13 fun v105 h15 =>
                      Vb (bin .eql v105 (Value.int IntKind.i64 50)) fun v106 =>
                      Br v106 (
                        Vb (lda 4 t1 h15) fun v109 =>
                        S.C I.f_tree_Tree_Len [v109, v23] h15 fun v111 h16 =>
                        Vb (bin .eql v111 (Value.int IntKind.i64 2)) fun v112 =>
                        J1 v112 h16) (
                        J1 (Value.bool false) h15)) (
                      J1 (Value.bool false) h13)) (
                    J1 (Value.bool false) h13)) (
                  J1 (Value.bool false) h13)) (
                J1 (Value.bool false) h13)) (
              J1 (Value.bool false) h13)) (
            J1 (Value.bool false) h13)) (
          J1 (Value.bool false) h13)) (
        J1 (Value.bool false) h13)) (
      J1 (Value.bool false) h13))

def F_simulcastlaw37_made (S : Sys) (I : Ids) (nodes0 : Value) (h : Hp) (R : Value → Hp → Prop) : Prop :=
  Eb (nw #[Value.int IntKind.i64 0, Value.int IntKind.i64 0, Value.int IntKind.i64 0, Value.int IntKind.i64 0] I.t_tree_Tree h) fun v2 h1 =>
  Vb (bldS [(0, 1), (1, 1), (2, 1)] #[Value.int IntKind.i64 0, Value.int IntKind.i64 0, Value.int IntKind.i64 0] [(0, (Value.int IntKind.i64 1)), (1, (Value.int IntKind.i64 24)), (2, nodes0)]) fun v5 =>
  Vb (bldS [(0, 3), (3, 1)] #[Value.int IntKind.i64 0, Value.int IntKind.i64 0, Value.int IntKind.i64 0, Value.int IntKind.i64 0] [(0, v5), (1, (Value.int IntKind.i64 8))]) fun v6 =>
  Vb (bin .mul (Value.int IntKind.i64 8) nodes0) fun v8 =>
  Vb (bin .add (Value.int IntKind.i64 24) v8) fun v9 =>
  Sb (sto 4 v2 v6 h1) fun h2 =>
  Vb (lda 4 v2 h2) fun r0 =>
  R (.tuple #[r0, v9]) h2

def F_simulcastlaw37_empty (S : Sys) (I : Ids) (places0 : Value) (h : Hp) (R : Value → Hp → Prop) : Prop :=
  Eb (mmk h) fun v5 h1 =>
  Lp1 (Value.int IntKind.i64 0) h1 fun i4 h2 again0 =>
  Vb (bin .lss i4 places0) fun v8 =>
  Br v8 (
    Vb (bldS [(0, 1), (1, 1), (2, 1)] #[Value.int IntKind.i64 0, Value.int IntKind.u32 0, Value.int IntKind.u32 0] []) fun v13 =>
    Sb (mup (.int .i64) v5 i4 v13 h2) fun h3 =>
    Vb (bin .add i4 (Value.int IntKind.i64 1)) fun v10 =>
    again0 v10 h3) (
    S.C I.f_space_New [v5] h2 fun v15 h4 =>
    R v15 h4)

def F_simulcastlaw37_do (S : Sys) (I : Ids) (t0 s1 l2 c3 nodes4 : Value) (h : Hp) (R : Value → Hp → Prop) : Prop :=
  Eb (nw (Value.cells t0) I.t_tree_Tree h) fun t5 h1 =>
  Eb (nw (Value.cells c3) I.t_simulcastlaw37_Call h1) fun c8 h2 =>
  Vb (fa 0 c8) fun v36 =>
  Vb (ldc v36 h2) fun v37 =>
  Vb (bin .rem v37 (Value.int IntKind.u8 8)) fun v38 =>
  Vb (bin .eql v38 (Value.int IntKind.u8 3)) fun v40 =>
  Br v40 (
    Vb (lda 4 t5 h2) fun v42 =>
    Vb (fa 1 c8) fun v44 =>
    Vb (ldc v44 h2) fun v45 =>
    S.C I.f_tree_Tree_Drop [v42, s1, v45] h2 fun v46 h3 =>
    Vb (ext 0 v46) fun v47 =>
    Vb (ext 1 v46) fun v48 =>
    Vb (ext 2 v46) fun v49 =>
    Vb (fa 1 c8) fun v52 =>
    Vb (ldc v52 h3) fun v53 =>
    S.C I.f_simulcastref37_Get [l2, v53] h3 fun v54 h4 =>
    Vb (ext 0 v54) fun v55 =>
    Vb (ext 1 v54) fun v56 =>
    Jn2 (fun v10 v11 h5 =>
        R (.tuple #[v10, v11]) h5) fun J0 =>
    Vb (fa 1 c8) fun v58 =>
    Vb (ldc v58 h4) fun v59 =>
    S.C I.f_simulcastref37_Drop [l2, v59] h4 fun v60 h6 =>
    Vb (bin .eql v49 (Value.int IntKind.i64 0)) fun v62 =>
    Br v62 (
      Vb (bin .eql v47 v55) fun v66 =>
      Br v66 (
        Vb (pos? (eqB v48 v56)) fun v71 =>
        J0 v60 v71 h6) (
        J0 v60 (Value.bool false) h6)) (
      J0 v60 (Value.bool false) h6)) (
    Vb (bin .eql v38 (Value.int IntKind.u8 4)) fun v74 =>
    Br v74 (
      Vb (lda 4 t5 h2) fun v76 =>
      Vb (fa 1 c8) fun v78 =>
      Vb (ldc v78 h2) fun v79 =>
      S.C I.f_tree_Tree_Get [v76, s1, v79] h2 fun v80 h7 =>
      Vb (ext 0 v80) fun v81 =>
      Vb (ext 1 v80) fun v82 =>
      Vb (fa 1 c8) fun v85 =>
      Vb (ldc v85 h7) fun v86 =>
      S.C I.f_simulcastref37_Get [l2, v86] h7 fun v87 h8 =>
      Vb (ext 0 v87) fun v88 =>
      Vb (ext 1 v87) fun v89 =>
      Jn2 (fun v10_1 v11_1 h9 =>
          R (.tuple #[v10_1, v11_1]) h9) fun J1 =>
      Vb (bin .eql v81 v88) fun v93 =>
      Br v93 (
        Vb (pos? (eqB v82 v89)) fun v97 =>
        J1 l2 v97 h8) (
        J1 l2 (Value.bool false) h8)) (
      Vb (bin .eql v38 (Value.int IntKind.u8 5)) fun v100 =>
      Br v100 (
        Vb (fa 1 c8) fun v103 =>
        Vb (ldc v103 h2) fun v104 =>
        Vb (fa 2 c8) fun v105 =>
        Vb (ldc v105 h2) fun v106 =>
        S.C I.f_simulcastref37_Range [l2, v104, v106] h2 fun v107 h10 =>
        Vb (ext 0 v107) fun v108 =>
        Vb (ext 1 v107) fun v109 =>
        Jn2 (fun v10_2 v11_2 h11 =>
            R (.tuple #[v10_2, v11_2]) h11) fun J2 =>
        Vb (lda 4 t5 h10) fun v111 =>
        Vb (fa 1 c8) fun v113 =>
        Vb (ldc v113 h10) fun v114 =>
        Vb (fa 2 c8) fun v115 =>
        Vb (ldc v115 h10) fun v116 =>
        S.C I.f_tree_Tree_Sum [v111, s1, v114, v116] h10 fun v117 h12 =>
        Vb (bin .eql v117 v108) fun v119 =>
        Br v119 (
          Vb (lda 4 t5 h12) fun v121 =>
          Vb (fa 1 c8) fun v123 =>
          Vb (ldc v123 h12) fun v124 =>
          Vb (fa 2 c8) fun v125 =>
          Vb (ldc v125 h12) fun v126 =>
          S.C I.f_tree_Tree_Count [v121, s1, v124, v126] h12 fun v127 h13 =>
          Vb (bin .eql v127 v109) fun v129 =>
          J2 l2 v129 h13) (
          J2 l2 (Value.bool false) h12)) (
        Vb (bin .eql v38 (Value.int IntKind.u8 6)) fun v132 =>
        Br v132 (
          Vb (lda 4 t5 h2) fun v134 =>
          Vb (fa 1 c8) fun v136 =>
          Vb (ldc v136 h2) fun v137 =>
          S.C I.f_tree_Tree_Next [v134, s1, v137] h2 fun v138 h14 =>
          Vb (ext 0 v138) fun v139 =>
          Vb (ext 1 v138) fun v140 =>
          Vb (fa 1 c8) fun v143 =>
          Vb (ldc v143 h14) fun v144 =>
          S.C I.f_simulcastref37_Next [l2, v144] h14 fun v145 h15 =>
          Vb (ext 0 v145) fun v146 =>
          Vb (ext 1 v145) fun v147 =>
          Jn2 (fun v10_3 v11_3 h16 =>
              R (.tuple #[v10_3, v11_3]) h16) fun J3 =>
          Vb (bin .eql v139 v146) fun v151 =>
          Br v151 (
            Vb (pos? (eqB v140 v147)) fun v155 =>
            J3 l2 v155 h15) (
            J3 l2 (Value.bool false) h15)) (
          Vb (bin .eql v38 (Value.int IntKind.u8 7)) fun v158 =>
          Br v158 (
            Vb (lda 4 t5 h2) fun v160 =>
            Vb (fa 1 c8) fun v162 =>
            Vb (ldc v162 h2) fun v163 =>
            S.C I.f_tree_Tree_Nth [v160, s1, v163] h2 fun v164 h17 =>
            Vb (ext 0 v164) fun v165 =>
            Vb (ext 1 v164) fun v166 =>
            Vb (fa 1 c8) fun v169 =>
            Vb (ldc v169 h17) fun v170 =>
            S.C I.f_simulcastref37_Nth [l2, v170] h17 fun v171 h18 =>
            Vb (ext 0 v171) fun v172 =>
            Vb (ext 1 v171) fun v173 =>
            Jn2 (fun v10_4 v11_4 h19 =>
                R (.tuple #[v10_4, v11_4]) h19) fun J4 =>
            Vb (bin .eql v165 v172) fun v177 =>
            Br v177 (
              Vb (pos? (eqB v166 v173)) fun v181 =>
              J4 l2 v181 h18) (
              J4 l2 (Value.bool false) h18)) (
            Vb (lda 4 t5 h2) fun v184 =>
            Vb (fa 1 c8) fun v186 =>
            Vb (ldc v186 h2) fun v187 =>
            Vb (fa 2 c8) fun v188 =>
            Vb (ldc v188 h2) fun v189 =>
            S.C I.f_tree_Tree_Put [v184, s1, v187, v189] h2 fun v190 h20 =>
            Vb (ext 0 v190) fun v191 =>
            Vb (ext 1 v190) fun v192 =>
            Vb (ext 2 v190) fun v193 =>
            Vb (fa 1 c8) fun v196 =>
            Vb (ldc v196 h20) fun v197 =>
            S.C I.f_simulcastref37_Get [l2, v197] h20 fun v198 h21 =>
            Vb (ext 0 v198) fun v199 =>
            Vb (ext 1 v198) fun v200 =>
            Jn1 (fun v208 h22 =>
                Br v208 (
                  Jn2 (fun v10_5 v11_5 h23 =>
                      R (.tuple #[v10_5, v11_5]) h23) fun J6 =>
                  Vb (bin .eql v193 (Value.int IntKind.i64 9)) fun v211 =>
                  Br v211 (
                    Vb (bin .eql v191 (Value.int IntKind.i64 0)) fun v214 =>
                    Br v214 (
                      Vb (uno .not v192) fun v218 =>
                      J6 l2 v218 h22) (
                      J6 l2 (Value.bool false) h22)) (
                    J6 l2 (Value.bool false) h22)) (
                  Jn2 (fun v10_6 v11_6 h24 =>
                      R (.tuple #[v10_6, v11_6]) h24) fun J7 =>
                  Vb (fa 1 c8) fun v221 =>
                  Vb (ldc v221 h22) fun v222 =>
                  Vb (fa 2 c8) fun v223 =>
                  Vb (ldc v223 h22) fun v224 =>
                  S.C I.f_simulcastref37_Put [l2, v222, v224] h22 fun v225 h25 =>
                  Vb (bin .eql v193 (Value.int IntKind.i64 0)) fun v227 =>
                  Br v227 (
                    Vb (bin .eql v191 v199) fun v231 =>
                    Br v231 (
                      Vb (pos? (eqB v192 v200)) fun v236 =>
                      J7 v225 v236 h25) (
                      J7 v225 (Value.bool false) h25)) (
                    J7 v225 (Value.bool false) h25))) fun J5 =>
            Vb (uno .not v200) fun v202 =>
            Br v202 (
              Vb (lnS l2) fun v205 =>
              Vb (bin .geq v205 nodes4) fun v207 =>
              J5 v207 h21) (
              J5 (Value.bool false) h21))))))

def F_simulcastlaw37_shaped (S : Sys) (I : Ids) (s0 at1 l2 : Value) (h : Hp) (R : Value → Hp → Prop) : Prop :=
  S.C I.f_simulcastref37_Top [l2] h fun v13 h1 =>
  Vb (bin .lss v13 (Value.int IntKind.i64 0)) fun v15 =>
  Br v15 (
    Vb (bin .eql at1 (Value.int IntKind.i64 0)) fun v17 =>
    R v17 h1) (
    Vb (lnS l2) fun v20 =>
    Lp2 (Value.int IntKind.i64 0) (Value.int IntKind.i64 0) h1 fun sum9 i11 h2 again0 =>
    Vb (lnS l2) fun v23 =>
    Vb (bin .lss i11 v23) fun v24 =>
    Br v24 (
      Vb (ixs 2 l2 i11) fun v30 =>
      Vb (fa 1 v30) fun v31 =>
      Vb (ldc v31 h2) fun v32 =>
      Vb (bin .add sum9 v32) fun v33 =>
      Vb (bin .add i11 (Value.int IntKind.i64 1)) fun v26 =>
      again0 v33 v26 h2) (
      Jn1 (fun v6 h3 =>
          R v6 h3) fun J0 =>
      Vb (bin .gtr at1 (Value.int IntKind.i64 0)) fun v35 =>
      Br v35 (
        Vb (ixs 2 l2 v13) fun v42 =>
        Vb (fa 0 v42) fun v43 =>
        Vb (ldc v43 h2) fun v44 =>
        S.C I.f_space_Space_Get [s0, at1] h2 fun v39 h4 =>
        ldc v43 h4 = some v44 ∧
        Vb (bin .eql v39 v44) fun v45 =>
        Br v45 (
          Vb (bin .add at1 (Value.int IntKind.i64 1)) fun v50 =>
          Vb (ixs 2 l2 v13) fun v54 =>
          Vb (fa 1 v54) fun v55 =>
          Vb (ldc v55 h4) fun v56 =>
          S.C I.f_space_Space_Get [s0, v50] h4 fun v51 h5 =>
          ldc v55 h5 = some v56 ∧
          Vb (bin .eql v51 v56) fun v57 =>
          Br v57 (
            Vb (bin .add at1 (Value.int IntKind.i64 4)) fun v62 =>
            S.C I.f_space_Space_Get [s0, v62] h5 fun v63 h6 =>
            Vb (bin .eql v63 v20) fun v65 =>
            Br v65 (
              Vb (bin .add at1 (Value.int IntKind.i64 5)) fun v70 =>
              S.C I.f_space_Space_Get [s0, v70] h6 fun v71 h7 =>
              Vb (bin .eql v71 sum9) fun v73 =>
              Br v73 (
                Vb (bin .add at1 (Value.int IntKind.i64 2)) fun v79 =>
                Vb (slc 2 l2 none (some v13) none) fun v83 =>
                S.C I.f_space_Space_Get [s0, v79] h7 fun v80 h8 =>
                S.C I.f_simulcastlaw37_shaped [s0, v80, v83] h8 fun v84 h9 =>
                Br v84 (
                  Vb (bin .add at1 (Value.int IntKind.i64 3)) fun v90 =>
                  Vb (bin .add v13 (Value.int IntKind.i64 1)) fun v94 =>
                  Vb (slc 2 l2 (some v94) none none) fun v95 =>
                  S.C I.f_space_Space_Get [s0, v90] h9 fun v91 h10 =>
                  S.C I.f_simulcastlaw37_shaped [s0, v91, v95] h10 fun v96 h11 =>
                  J0 v96 h11) (
                  J0 (Value.bool false) h9)) (
                J0 (Value.bool false) h7)) (
              J0 (Value.bool false) h6)) (
            J0 (Value.bool false) h5)) (
          J0 (Value.bool false) h4)) (
        J0 (Value.bool false) h2)))

def F_simulcastlaw37_same (S : Sys) (I : Ids) (t0 s1 l2 : Value) (h : Hp) (R : Value → Hp → Prop) : Prop :=
  Eb (nw (Value.cells t0) I.t_tree_Tree h) fun t3 h1 =>
  Vb (lda 4 t3 h1) fun v12 =>
  S.C I.f_tree_Tree_Walk [v12, s1] h1 fun v14 h2 =>
  Vb (ext 0 v14) fun v15 =>
  Vb (ext 1 v14) fun v16 =>
  Vb (ext 2 v14) fun v17 =>
  Jn1 (fun v41 h3 =>
      Br v41 (
        R (Value.bool false) h3) (
        Lp1 (Value.int IntKind.i64 0) h3 fun i10 h4 again0 =>
        Vb (lnS l2) fun v44 =>
        Vb (bin .lss i10 v44) fun v45 =>
        Br v45 (
          Jn1 (fun v69 h5 =>
              Br v69 (
                R (Value.bool false) h5) (
                Vb (bin .add i10 (Value.int IntKind.i64 1)) fun v47 =>
                again0 v47 h5)) fun J1 =>
          Vb (ixs 1 v15 i10) fun v50 =>
          Vb (ldc v50 h4) fun v51 =>
          Vb (ixs 2 l2 i10) fun v54 =>
          Vb (fa 0 v54) fun v55 =>
          Vb (ldc v55 h4) fun v56 =>
          Vb (bin .neq v51 v56) fun v57 =>
          Br v57 (
            J1 (Value.bool true) h4) (
            Vb (ixs 1 v16 i10) fun v61 =>
            Vb (ldc v61 h4) fun v62 =>
            Vb (ixs 2 l2 i10) fun v65 =>
            Vb (fa 1 v65) fun v66 =>
            Vb (ldc v66 h4) fun v67 =>
            Vb (bin .neq v62 v67) fun v68 =>
            J1 v68 h4)) (
          R (Value.bool true) h4))) fun J0 =>
  Vb (bin .neq v17 (Value.int IntKind.i64 0)) fun v19 =>
  Br v19 (
    J0 (Value.bool true) h2) (
    Vb (lnS v15) fun v22 =>
    Vb (lnS l2) fun v24 =>
    Vb (bin .neq v22 v24) fun v25 =>
    Br v25 (
      J0 (Value.bool true) h2) (
      Vb (lnS v16) fun v29 =>
      Vb (lnS l2) fun v31 =>
      Vb (bin .neq v29 v31) fun v32 =>
      Br v32 (
        J0 (Value.bool true) h2) (
        Vb (lda 4 t3 h2) fun v35 =>
        S.C I.f_tree_Tree_Len [v35, s1] h2 fun v37 h6 =>
        Vb (lnS l2) fun v39 =>
        Vb (bin .neq v37 v39) fun v40 =>
        J0 v40 h6)))

def F_tree_Tree_Drop (S : Sys) (I : Ids) (t0 s1 k2 : Value) (h : Hp) (R : Value → Hp → Prop) : Prop :=
  Eb (nw (Value.cells t0) I.t_tree_Tree h) fun t3 h1 =>
  Eb (nw #[Value.int IntKind.i64 0] I.t_api_Errno h1) fun e8 h2 =>
  S.C I.f_space_Space_Mark [s1] h2 fun v17 h3 =>
  Vb (lda 4 t3 h3) fun v18 =>
  S.C I.f_tree_Tree_work [v18, s1] h3 fun v20 h4 =>
  S.C I.f_tree_work_path [v20, k2] h4 fun v24 h5 =>
  Vb (ext 0 v24) fun v25 =>
  Vb (ext 1 v24) fun v26 =>
  Vb (nck v20) fun v29 =>
  Vb (fa 5 v29) fun v30 =>
  Vb (ldc v30 h5) fun v31 =>
  Br v31 (
    Sb (sto 1 e8 (Value.int IntKind.i64 24) h5) fun h6 =>
    S.D I.f_tree_undo [s1, v17, e8] h6 fun h7 =>
    Vb (ldc e8 h7) fun r2 =>
    R (.tuple #[(Value.int IntKind.i64 0), (Value.bool false), r2]) h7) (
    Vb (uno .not v26) fun v34 =>
    Br v34 (
      Sb (sto 1 e8 (Value.int IntKind.i64 0) h5) fun h8 =>
      S.D I.f_tree_undo [s1, v17, e8] h8 fun h9 =>
      Vb (ldc e8 h9) fun r2 =>
      R (.tuple #[(Value.int IntKind.i64 0), (Value.bool false), r2]) h9) (
      Vb (lnS v25) fun v37 =>
      Vb (bin .sub v37 (Value.int IntKind.i64 1)) fun v38 =>
      Vb (ixs 2 v25 v38) fun v39 =>
      Vb (fa 0 v39) fun v40 =>
      Vb (ldc v40 h5) fun v41 =>
      Vb (lnS v25) fun v44 =>
      Vb (bin .sub v44 (Value.int IntKind.i64 1)) fun v45 =>
      Vb (slc 2 v25 none (some v45) none) fun v46 =>
      S.C I.f_tree_work_get [v20, v41, (Value.int IntKind.i64 1)] h5 fun v49 h10 =>
      S.C I.f_tree_work_get [v20, v41, (Value.int IntKind.i64 2)] h10 fun v56 h11 =>
      S.C I.f_tree_work_get [v20, v41, (Value.int IntKind.i64 3)] h11 fun v59 h12 =>
      S.C I.f_tree_work_merge [v20, v56, v59] h12 fun v60 h13 =>
      S.C I.f_tree_work_hang [v20, v46, k2, v60] h13 fun v61 h14 =>
      Vb (uno .neg v49) fun v65 =>
      S.C I.f_tree_work_add [v20, v46, (Value.int IntKind.i64 (-1)), v65] h14 fun v66 h15 =>
      Vb (fa 3 t3) fun v68 =>
      Vb (ldc v68 h15) fun v69 =>
      Vb (bin .add v69 (Value.int IntKind.i64 7)) fun v70 =>
      Vb (fa 3 t3) fun v72 =>
      Vb (ldc v72 h15) fun v73 =>
      Vb (bin .add v73 (Value.int IntKind.i64 7)) fun v74 =>
      S.C I.f_space_Space_Get [s1, v74] h15 fun v75 h16 =>
      ldc v68 h16 = some v69 ∧
      Vb (bin .sub v75 (Value.int IntKind.i64 1)) fun v76 =>
      S.C I.f_space_Space_Put [s1, v70, v76] h16 fun v77 h17 =>
      Vb (nck v20) fun v79 =>
      Vb (fa 5 v79) fun v80 =>
      Vb (ldc v80 h17) fun v81 =>
      Br v81 (
        Sb (sto 1 e8 (Value.int IntKind.i64 24) h17) fun h18 =>
        S.D I.f_tree_undo [s1, v17, e8] h18 fun h19 =>
        Vb (ldc e8 h19) fun r2 =>
        R (.tuple #[(Value.int IntKind.i64 0), (Value.bool false), r2]) h19) (
        Vb (fa 0 t3) fun v82 =>
        Vb (lda 3 v82 h17) fun v83 =>
        S.C I.f_pool_Pool_Give [v83, s1, v41] h17 fun v86 h20 =>
        Vb (bin .neq v86 (Value.int IntKind.i64 0)) fun v88 =>
        Br v88 (
          Sb (sto 1 e8 v86 h20) fun h21 =>
          S.D I.f_tree_undo [s1, v17, e8] h21 fun h22 =>
          Vb (ldc e8 h22) fun r2 =>
          R (.tuple #[(Value.int IntKind.i64 0), (Value.bool false), r2]) h22) (
          Sb (sto 1 e8 (Value.int IntKind.i64 0) h20) fun h23 =>
          S.D I.f_tree_undo [s1, v17, e8] h23 fun h24 =>
          Vb (ldc e8 h24) fun r2 =>
          R (.tuple #[v49, (Value.bool true), r2]) h24))))

def F_tree_Tree_Get (S : Sys) (I : Ids) (t0 s1 k2 : Value) (h : Hp) (R : Value → Hp → Prop) : Prop :=
  Eb (nw (Value.cells t0) I.t_tree_Tree h) fun t3 h1 =>
  Eb (nw (Value.cells k2) I.t_int64 h1) fun k5 h2 =>
  Eb (nw #[Value.int IntKind.i64 0] I.t_int64 h2) fun v6 h3 =>
  Eb (nw #[Value.bool false] I.t_bool h3) fun v7 h4 =>
  Vb (lda 4 t3 h4) fun v10 =>
  S.C I.f_tree_Tree_work [v10, s1] h4 fun v12 h5 =>
  Eb (nw #[Value.pointer none] I.t_p_tree_work h5) fun w8 h6 =>
  Sb (sto 1 w8 v12 h6) fun h7 =>
  Vb (ldc w8 h7) fun v13 =>
  Vb (ldc k5 h7) fun v14 =>
  S.C I.f_tree_work_way [v13, v14] h7 fun v15 h8 =>
  Rg S.C S.Y v15 h8 (fun l0 as0 h9 R0 =>
      A1 as0 fun v16 =>
      Eb (nw #[Value.int IntKind.i64 0, Value.int IntKind.i64 0] I.t_tree_step h9) fun x9 h10 =>
      Sb (sto 2 x9 v16 h10) fun h11 =>
      Sb (bgn l0 h11) fun h12 =>
      Vb (fa 1 x9) fun v17 =>
      Vb (ldc v17 h12) fun v18 =>
      Vb (ldc k5 h12) fun v19 =>
      Vb (bin .eql v18 v19) fun v20 =>
      Br v20 (
        Vb (ldc w8 h12) fun v21 =>
        Vb (fa 0 x9) fun v22 =>
        Vb (ldc v22 h12) fun v23 =>
        S.C I.f_tree_work_get [v21, v23, (Value.int IntKind.i64 1)] h12 fun v24 h13 =>
        Sb (sto 1 v6 v24 h13) fun h14 =>
        Sb (sto 1 v7 (Value.bool true) h14) fun h15 =>
        Sb (fin l0 (some .ret) h15) fun h16 =>
        R0 (.bool false) h16) (
        Sb (fin l0 none h12) fun h17 =>
        R0 (.bool true) h17)) fun j0 h18 =>
  Jp j0 (
    Sb (sto 1 v6 (Value.int IntKind.i64 0) h18) fun h19 =>
    Sb (sto 1 v7 (Value.bool false) h19) fun h20 =>
    Sb (tkd h8.size h20) fun h21 =>
    Vb (ldc v6 h21) fun r0 =>
    Vb (ldc v7 h21) fun r1 =>
    R (.tuple #[r0, r1]) h21) (
    Sb (tkd h8.size h18) fun h22 =>
    Vb (ldc v6 h22) fun r0 =>
    Vb (ldc v7 h22) fun r1 =>
    R (.tuple #[r0, r1]) h22) fun id0 =>
    Xb id0 0 (
    Sb (sto 1 v6 (Value.int IntKind.i64 0) h18) fun h23 =>
    Sb (sto 1 v7 (Value.bool false) h23) fun h24 =>
    Sb (tkd h8.size h24) fun h25 =>
    Vb (ldc v6 h25) fun r0 =>
    Vb (ldc v7 h25) fun r1 =>
    R (.tuple #[r0, r1]) h25) (
    False)

def F_tree_Tree_Sum (S : Sys) (I : Ids) (t0 s1 from2 to3 : Value) (h : Hp) (R : Value → Hp → Prop) : Prop :=
  Eb (nw (Value.cells t0) I.t_tree_Tree h) fun t4 h1 =>
  Vb (lda 4 t4 h1) fun v9 =>
  S.C I.f_tree_Tree_between [v9, s1, from2, to3, (Value.int IntKind.i64 5), (.func (.func I.f_tree_Tree_Sum_1) #[] #[])] h1 fun v13 h2 =>
  R v13 h2

def F_tree_Tree_Count (S : Sys) (I : Ids) (t0 s1 from2 to3 : Value) (h : Hp) (R : Value → Hp → Prop) : Prop :=
  Eb (nw (Value.cells t0) I.t_tree_Tree h) fun t4 h1 =>
  Vb (lda 4 t4 h1) fun v9 =>
  S.C I.f_tree_Tree_between [v9, s1, from2, to3, (Value.int IntKind.i64 4), (.func (.func I.f_tree_Tree_Count_1) #[] #[])] h1 fun v13 h2 =>
  R v13 h2

def F_tree_Tree_Next (S : Sys) (I : Ids) (t0 s1 k2 : Value) (h : Hp) (R : Value → Hp → Prop) : Prop :=
  Eb (nw (Value.cells t0) I.t_tree_Tree h) fun t3 h1 =>
  Eb (nw (Value.cells k2) I.t_int64 h1) fun k5 h2 =>
  Vb (lda 4 t3 h2) fun v12 =>
  S.C I.f_tree_Tree_work [v12, s1] h2 fun v14 h3 =>
  Eb (nw #[Value.int IntKind.i64 0] I.t_int64 h3) fun best9 h4 =>
  Eb (nw #[Value.bool false] I.t_bool h4) fun ok10 h5 =>
  Sb (sto 1 best9 (Value.int IntKind.i64 0) h5) fun h6 =>
  Sb (sto 1 ok10 (Value.bool false) h6) fun h7 =>
  Vb (ldc k5 h7) fun v16 =>
  S.C I.f_tree_work_way [v14, v16] h7 fun v17 h8 =>
  Rg S.C S.Y v17 h8 (fun l0 as0 h9 R0 =>
      A1 as0 fun v18 =>
      Eb (nw #[Value.int IntKind.i64 0, Value.int IntKind.i64 0] I.t_tree_step h9) fun x11 h10 =>
      Sb (sto 2 x11 v18 h10) fun h11 =>
      Sb (bgn l0 h11) fun h12 =>
      Vb (fa 1 x11) fun v19 =>
      Vb (ldc v19 h12) fun v20 =>
      Vb (ldc k5 h12) fun v21 =>
      Vb (bin .geq v20 v21) fun v22 =>
      Br v22 (
        Vb (fa 1 x11) fun v23 =>
        Vb (ldc v23 h12) fun v24 =>
        Sb (sto 1 best9 v24 h12) fun h13 =>
        Sb (sto 1 ok10 (Value.bool true) h13) fun h14 =>
        Sb (fin l0 none h14) fun h15 =>
        R0 (.bool true) h15) (
        Sb (fin l0 none h12) fun h16 =>
        R0 (.bool true) h16)) fun j0 h17 =>
  Jp j0 (
    Vb (ldc best9 h17) fun v25 =>
    Vb (ldc ok10 h17) fun v26 =>
    Sb (tkd h8.size h17) fun h18 =>
    R (.tuple #[v25, v26]) h18) (
    Sb (tkd h8.size h17) fun h19 =>
    R (.tuple #[(Value.int IntKind.i64 0), (Value.bool false)]) h19) fun id0 =>
    Xb id0 0 (
    Vb (ldc best9 h17) fun v25_1 =>
    Vb (ldc ok10 h17) fun v26_1 =>
    Sb (tkd h8.size h17) fun h20 =>
    R (.tuple #[v25_1, v26_1]) h20) (
    False)

def F_tree_Tree_Nth (S : Sys) (I : Ids) (t0 s1 n2 : Value) (h : Hp) (R : Value → Hp → Prop) : Prop :=
  Eb (nw (Value.cells t0) I.t_tree_Tree h) fun t3 h1 =>
  Vb (lda 4 t3 h1) fun v14 =>
  S.C I.f_tree_Tree_work [v14, s1] h1 fun v16 h2 =>
  Vb (bin .lss n2 (Value.int IntKind.i64 0)) fun v18 =>
  Br v18 (
    R (.tuple #[(Value.int IntKind.i64 0), (Value.bool false)]) h2) (
    Vb (fa 3 t3) fun v20 =>
    Vb (ldc v20 h2) fun v21 =>
    S.C I.f_space_Space_Get [s1, v21] h2 fun v22 h3 =>
    Lp3 n2 (Value.int IntKind.i64 0) v22 h3 fun n2_1 steps9 at10 h4 again0 =>
    Jn1 (fun v32 h5 =>
        Br v32 (
          Jn2 (fun n2_2 at10_1 h6 =>
              Vb (bin .add steps9 (Value.int IntKind.i64 1)) fun v34 =>
              again0 n2_2 v34 at10_1 h6) fun J1 =>
          S.C I.f_tree_work_get [v16, at10, (Value.int IntKind.i64 2)] h5 fun v37 h7 =>
          Vb (lda 4 t3 h7) fun v38 =>
          S.C I.f_tree_Tree_work [v38, s1] h7 fun v40 h8 =>
          S.C I.f_tree_work_of [v40, v37, (Value.int IntKind.i64 4)] h8 fun v43 h9 =>
          Vb (bin .eql n2_1 v43) fun v54 =>
          Br v54 (
            S.C I.f_tree_work_get [v16, at10, (Value.int IntKind.i64 0)] h9 fun v57 h10 =>
            R (.tuple #[v57, (Value.bool true)]) h10) (
            Vb (bin .lss n2_1 v43) fun v61 =>
            Br v61 (
              J1 n2_1 v37 h9) (
              Vb (bin .add v43 (Value.int IntKind.i64 1)) fun v46 =>
              Vb (bin .sub n2_1 v46) fun v47 =>
              S.C I.f_tree_work_get [v16, at10, (Value.int IntKind.i64 3)] h9 fun v50 h11 =>
              J1 v47 v50 h11))) (
          R (.tuple #[(Value.int IntKind.i64 0), (Value.bool false)]) h5)) fun J0 =>
    S.C I.f_tree_work_is [v16, at10] h4 fun v25 h12 =>
    Br v25 (
      Vb (fa 0 t3) fun v28 =>
      Vb (fa 2 v28) fun v29 =>
      Vb (ldc v29 h12) fun v30 =>
      Vb (bin .lss steps9 v30) fun v31 =>
      J0 v31 h12) (
      J0 (Value.bool false) h12))

def F_tree_Tree_Put (S : Sys) (I : Ids) (t0 s1 k2 v3 : Value) (h : Hp) (R : Value → Hp → Prop) : Prop :=
  Eb (nw (Value.cells t0) I.t_tree_Tree h) fun t4 h1 =>
  Eb (nw #[Value.int IntKind.i64 0] I.t_api_Errno h1) fun e10 h2 =>
  S.C I.f_space_Space_Mark [s1] h2 fun v23 h3 =>
  Vb (lda 4 t4 h3) fun v24 =>
  S.C I.f_tree_Tree_work [v24, s1] h3 fun v26 h4 =>
  S.C I.f_tree_work_path [v26, k2] h4 fun v30 h5 =>
  Vb (ext 0 v30) fun v31 =>
  Vb (ext 1 v30) fun v32 =>
  Vb (nck v26) fun v34 =>
  Vb (fa 5 v34) fun v35 =>
  Vb (ldc v35 h5) fun v36 =>
  Br v36 (
    Sb (sto 1 e10 (Value.int IntKind.i64 24) h5) fun h6 =>
    S.D I.f_tree_undo [s1, v23, e10] h6 fun h7 =>
    Vb (ldc e10 h7) fun r2 =>
    R (.tuple #[(Value.int IntKind.i64 0), (Value.bool false), r2]) h7) (
    Br v32 (
      Vb (lnS v31) fun v40 =>
      Vb (bin .sub v40 (Value.int IntKind.i64 1)) fun v41 =>
      Vb (ixs 2 v31 v41) fun v42 =>
      Vb (fa 0 v42) fun v43 =>
      Vb (ldc v43 h5) fun v44 =>
      S.C I.f_tree_work_get [v26, v44, (Value.int IntKind.i64 1)] h5 fun v47 h8 =>
      S.C I.f_tree_work_put [v26, v44, (Value.int IntKind.i64 1), v3] h8 fun v51 h9 =>
      Vb (bin .sub v3 v47) fun v56 =>
      S.C I.f_tree_work_add [v26, v31, (Value.int IntKind.i64 0), v56] h9 fun v57 h10 =>
      Sb (sto 1 e10 (Value.int IntKind.i64 0) h10) fun h11 =>
      S.D I.f_tree_undo [s1, v23, e10] h11 fun h12 =>
      Vb (ldc e10 h12) fun r2 =>
      R (.tuple #[v47, (Value.bool true), r2]) h12) (
      Vb (fa 0 t4) fun v60 =>
      Vb (lda 3 v60 h5) fun v61 =>
      S.C I.f_pool_Pool_Take [v61, s1] h5 fun v63 h13 =>
      Vb (ext 0 v63) fun v64 =>
      Vb (ext 1 v63) fun v65 =>
      Sb (sto 1 e10 v65 h13) fun h14 =>
      Vb (ldc e10 h14) fun v66 =>
      Vb (bin .neq v66 (Value.int IntKind.i64 0)) fun v67 =>
      Br v67 (
        Vb (ldc e10 h14) fun v68 =>
        Sb (sto 1 e10 v68 h14) fun h15 =>
        S.D I.f_tree_undo [s1, v23, e10] h15 fun h16 =>
        Vb (ldc e10 h16) fun r2 =>
        R (.tuple #[(Value.int IntKind.i64 0), (Value.bool false), r2]) h16) (
        Lp1 (Value.int IntKind.i64 0) h14 fun i17 h17 again0 =>
        Jn1 (fun v83 h18 =>
            Br v83 (
              Vb (bin .add i17 (Value.int IntKind.i64 1)) fun v85 =>
              again0 v85 h18) (
              S.C I.f_tree_work_put [v26, v64, (Value.int IntKind.i64 0), k2] h18 fun v90 h19 =>
              S.C I.f_tree_work_put [v26, v64, (Value.int IntKind.i64 1), v3] h19 fun v94 h20 =>
              Jn2 (fun a19 b20 h21 =>
                  S.C I.f_tree_work_put [v26, v64, (Value.int IntKind.i64 2), a19] h21 fun v113 h22 =>
                  S.C I.f_tree_work_put [v26, v64, (Value.int IntKind.i64 3), b20] h22 fun v117 h23 =>
                  S.C I.f_tree_work_refresh [v26, v64] h23 fun v120 h24 =>
                  Vb (slc 2 v31 none (some i17) none) fun v124 =>
                  S.C I.f_tree_work_add [v26, v124, (Value.int IntKind.i64 1), v3] h24 fun v126 h25 =>
                  Vb (slc 2 v31 none (some i17) none) fun v130 =>
                  S.C I.f_tree_work_hang [v26, v130, k2, v64] h25 fun v133 h26 =>
                  Vb (fa 3 t4) fun v135 =>
                  Vb (ldc v135 h26) fun v136 =>
                  Vb (bin .add v136 (Value.int IntKind.i64 7)) fun v137 =>
                  Vb (fa 3 t4) fun v139 =>
                  Vb (ldc v139 h26) fun v140 =>
                  Vb (bin .add v140 (Value.int IntKind.i64 7)) fun v141 =>
                  S.C I.f_space_Space_Get [s1, v141] h26 fun v142 h27 =>
                  ldc v135 h27 = some v136 ∧
                  Vb (bin .add v142 (Value.int IntKind.i64 1)) fun v143 =>
                  S.C I.f_space_Space_Put [s1, v137, v143] h27 fun v144 h28 =>
                  Vb (nck v26) fun v146 =>
                  Vb (fa 5 v146) fun v147 =>
                  Vb (ldc v147 h28) fun v148 =>
                  Br v148 (
                    Sb (sto 1 e10 (Value.int IntKind.i64 24) h28) fun h29 =>
                    S.D I.f_tree_undo [s1, v23, e10] h29 fun h30 =>
                    Vb (ldc e10 h30) fun r2 =>
                    R (.tuple #[(Value.int IntKind.i64 0), (Value.bool false), r2]) h30) (
                    Sb (sto 1 e10 (Value.int IntKind.i64 0) h28) fun h31 =>
                    S.D I.f_tree_undo [s1, v23, e10] h31 fun h32 =>
                    Vb (ldc e10 h32) fun r2 =>
                    R (.tuple #[(Value.int IntKind.i64 0), (Value.bool false), r2]) h32)) fun J1 =>
              Vb (lnS v31) fun v97 =>
              Vb (bin .lss i17 v97) fun v98 =>
              Br v98 (
                Vb (ixs 2 v31 i17) fun v103 =>
                Vb (fa 0 v103) fun v104 =>
                Vb (ldc v104 h20) fun v105 =>
                S.C I.f_tree_work_split [v26, v105, k2] h20 fun v107 h33 =>
                Vb (ext 0 v107) fun v108 =>
                Vb (ext 1 v107) fun v109 =>
                J1 v108 v109 h33) (
                J1 (Value.int IntKind.i64 0) (Value.int IntKind.i64 0) h20))) fun J0 =>
        Vb (lnS v31) fun v71 =>
        Vb (bin .lss i17 v71) fun v72 =>
        Br v72 (
          Vb (ixs 2 v31 i17) fun v76 =>
          Vb (fa 1 v76) fun v77 =>
          Vb (ldc v77 h17) fun v78 =>
          S.C I.f_tree_rank [v78] h17 fun v79 h34 =>
          S.C I.f_tree_rank [k2] h34 fun v81 h35 =>
          Vb (bin .gtr v79 v81) fun v82 =>
          J0 v82 h35) (
          J0 (Value.bool false) h17))))

def F_tree_Tree_Walk (S : Sys) (I : Ids) (t0 s1 : Value) (h : Hp) (R : Value → Hp → Prop) : Prop :=
  Eb (nw (Value.cells t0) I.t_tree_Tree h) fun t2 h1 =>
  Vb (lda 4 t2 h1) fun v10 =>
  S.C I.f_tree_Tree_work [v10, s1] h1 fun v12 h2 =>
  Vb (bldS [(0, 1), (1, 1), (2, 1), (3, 1)] #[Value.pointer none, Value.slice none 0 0, Value.slice none 0 0, Value.bool false] [(0, v12)]) fun v13 =>
  Eb (nw #[Value.pointer none, Value.slice none 0 0, Value.slice none 0 0, Value.bool false] I.t_tree_walker h2) fun x7 h3 =>
  Sb (sto 4 x7 v13 h3) fun h4 =>
  Vb (fa 3 t2) fun v16 =>
  Vb (ldc v16 h4) fun v17 =>
  S.C I.f_space_Space_Get [s1, v17] h4 fun v18 h5 =>
  S.C I.f_tree_walker_below [x7, v18] h5 fun v19 h6 =>
  Vb (ext 0 v19) fun v20 =>
  Vb (ext 1 v19) fun v21 =>
  Jn1 (fun v30 h7 =>
      Br v30 (
        R (.tuple #[(Value.slice none 0 0), (Value.slice none 0 0), (Value.int IntKind.i64 24)]) h7) (
        Vb (fa 1 x7) fun v31 =>
        Vb (ldc v31 h7) fun v32 =>
        Vb (fa 2 x7) fun v33 =>
        Vb (ldc v33 h7) fun v34 =>
        R (.tuple #[v32, v34, (Value.int IntKind.i64 0)]) h7)) fun J0 =>
  Vb (fa 3 x7) fun v22 =>
  Vb (ldc v22 h6) fun v23 =>
  Br v23 (
    J0 (Value.bool true) h6) (
    Vb (lda 4 t2 h6) fun v26 =>
    S.C I.f_tree_Tree_Len [v26, s1] h6 fun v28 h8 =>
    Vb (bin .neq v20 v28) fun v29 =>
    J0 v29 h8)

def F_space_Space_Need (S : Sys) (I : Ids) (s0 : Value) (h : Hp) (R : Value → Hp → Prop) : Prop :=
  Jn1 (fun v12 h1 =>
      Br v12 (
        R (.tuple #[(Value.int IntKind.i64 0), (Value.bool false)]) h1) (
        Vb (nck s0) fun v14 =>
        Vb (fa 3 v14) fun v15 =>
        Vb (ldc v15 h1) fun v16 =>
        R (.tuple #[v16, (Value.bool true)]) h1)) fun J0 =>
  Vb (pos? (eqP s0 (Value.pointer none))) fun v5 =>
  Br v5 (
    J0 (Value.bool true) h) (
    Vb (nck s0) fun v8 =>
    Vb (fa 4 v8) fun v9 =>
    Vb (ldc v9 h) fun v10 =>
    Vb (uno .not v10) fun v11 =>
    J0 v11 h)

def F_space_Space_Writes (S : Sys) (I : Ids) (s0 : Value) (h : Hp) (R : Value → Hp → Prop) : Prop :=
  Vb (pos? (eqP s0 (Value.pointer none))) fun v7 =>
  Br v7 (
    R (Value.slice none 0 0) h) (
    Vb (nck s0) fun v10 =>
    Vb (fa 2 v10) fun v11 =>
    Vb (ldc v11 h) fun v12 =>
    Vb (lnS v12) fun v13 =>
    Lp2 (Value.slice none 0 0) (Value.int IntKind.i64 0) h fun out3 v14 h1 again0 =>
    Vb (bin .lss v14 v13) fun v15 =>
    Br v15 (
      Vb (ixs 2 v12 v14) fun v16 =>
      Vb (lda 2 v16 h1) fun v17 =>
      Eb (nw #[Value.int IntKind.i64 0, Value.int IntKind.i64 0] I.t_space_put h1) fun p5 h2 =>
      Sb (sto 2 p5 v17 h2) fun h3 =>
      Vb (fa 0 p5) fun v19 =>
      Vb (ldc v19 h3) fun v20 =>
      Eb (bsl #[Value.int IntKind.i64 0] 1 1 I.t_api_Loc [(0, v20)] h3) fun v21 h4 =>
      Ap I.t_api_Loc #[Value.int IntKind.i64 0] 1 8 out3 v21 h4 fun v22 h5 =>
      Vb (bin .add v14 (Value.int IntKind.i64 1)) fun v23 =>
      again0 v22 v23 h5) (
      S.C I.f_slices_Sort_api_Loc_api_Loc [out3] h1 fun v25 h6 =>
      S.C I.f_slices_Compact_api_Loc_api_Loc [out3] h6 fun v27 h7 =>
      R v27 h7))

def F_simulcastlaw37_reads (S : Sys) (I : Ids) (t0 s1 places2 k3 : Value) (h : Hp) (R : Value → Hp → Prop) : Prop :=
  Eb (nw (Value.cells t0) I.t_tree_Tree h) fun t4 h1 =>
  Eb (mmk h1) fun v12 h2 =>
  Lp1 (Value.int IntKind.i64 0) h2 fun i10 h3 again0 =>
  Vb (bin .lss i10 places2) fun v15 =>
  Br v15 (
    S.C I.f_space_Space_Get [s1, i10] h3 fun v22 h4 =>
    Vb (bldS [(0, 1), (1, 1), (2, 1)] #[Value.int IntKind.i64 0, Value.int IntKind.u32 0, Value.int IntKind.u32 0] [(0, v22)]) fun v23 =>
    Sb (mup (.int .i64) v12 i10 v23 h4) fun h5 =>
    Vb (bin .add i10 (Value.int IntKind.i64 1)) fun v17 =>
    again0 v17 h5) (
    S.C I.f_space_New [v12] h3 fun v25 h6 =>
    Vb (lda 4 t4 h6) fun v26 =>
    S.C I.f_tree_Tree_Get [v26, v25, k3] h6 fun v29 h7 =>
    S.C I.f_space_Space_Reads [v25] h7 fun v31 h8 =>
    Vb (lnS v31) fun v32 =>
    R v32 h8)

def F_tree_Tree_Len (S : Sys) (I : Ids) (t0 s1 : Value) (h : Hp) (R : Value → Hp → Prop) : Prop :=
  Eb (nw (Value.cells t0) I.t_tree_Tree h) fun t2 h1 =>
  Vb (fa 3 t2) fun v6 =>
  Vb (ldc v6 h1) fun v7 =>
  Vb (bin .add v7 (Value.int IntKind.i64 7)) fun v8 =>
  S.C I.f_space_Space_Get [s1, v8] h1 fun v9 h2 =>
  R v9 h2

def F_simulcastref40_Same (S : Sys) (I : Ids) (a0 b1 : Value) (h : Hp) (R : Value → Hp → Prop) : Prop :=
  Vb (lnS a0) fun v7 =>
  Vb (lnS b1) fun v9 =>
  Vb (bin .neq v7 v9) fun v10 =>
  Br v10 (
    R (Value.bool false) h) (
    Lp1 (Value.int IntKind.i64 0) h fun i5 h1 again0 =>
    Vb (lnS a0) fun v13 =>
    Vb (bin .lss i5 v13) fun v14 =>
    Br v14 (
      Vb (ixs 2 a0 i5) fun v19 =>
      Vb (lda 2 v19 h1) fun v20 =>
      Vb (ixs 2 b1 i5) fun v23 =>
      Vb (lda 2 v23 h1) fun v24 =>
      Vb (neg? (eqA [true, true] v20 v24)) fun v25 =>
      Br v25 (
        R (Value.bool false) h1) (
        Vb (bin .add i5 (Value.int IntKind.i64 1)) fun v16 =>
        again0 v16 h1)) (
      R (Value.bool true) h1))

def F_graph_Graph_through (S : Sys) (I : Ids) (g0 s1 l2 e3 : Value) (h : Hp) (R : Value → Hp → Prop) : Prop :=
  Eb (nw (Value.cells g0) I.t_graph_Graph h) fun g4 h1 =>
  Eb (nw (Value.cells s1) I.t_p_space_Space h1) fun s5 h2 =>
  Eb (nw (Value.cells l2) I.t_graph_list h2) fun l6 h3 =>
  Eb (nw (Value.cells e3) I.t_p_api_Errno h3) fun e7 h4 =>
  Vb (some (.func (.func I.f_graph_Graph_through_1) #[] #[s5, l6, g4, e7])) fun v9 =>
  R v9 h4

def F_graph_Graph_all (S : Sys) (I : Ids) (g0 : Value) (h : Hp) (R : Value → Hp → Prop) : Prop :=
  Eb (nw (Value.cells g0) I.t_graph_Graph h) fun g1 h1 =>
  Eb (nw #[Value.int IntKind.i64 0, Value.int IntKind.i64 0, Value.int IntKind.i64 0] I.t_graph_list h1) fun v2 h2 =>
  Vb (fa 3 g1) fun v3 =>
  Vb (ldc v3 h2) fun v4 =>
  Vb (bin .add v4 (Value.int IntKind.i64 0)) fun v5 =>
  Vb (bldS [(0, 1), (1, 1), (2, 1)] #[Value.int IntKind.i64 0, Value.int IntKind.i64 0, Value.int IntKind.i64 0] [(0, v5), (1, (Value.int IntKind.i64 2)), (2, (Value.int IntKind.i64 3))]) fun v6 =>
  Sb (sto 3 v2 v6 h2) fun h3 =>
  Vb (lda 3 v2 h3) fun r0 =>
  R r0 h3

def F_graph_Graph_edges (S : Sys) (I : Ids) (g0 s1 n2 l3 whom4 : Value) (h : Hp) (R : Value → Hp → Prop) : Prop :=
  Eb (nw (Value.cells g0) I.t_graph_Graph h) fun g5 h1 =>
  Eb (nw (Value.cells s1) I.t_p_space_Space h1) fun s6 h2 =>
  Eb (nw (Value.cells l3) I.t_graph_list h2) fun l8 h3 =>
  Eb (nw (Value.cells whom4) I.t_api_Loc h3) fun whom9 h4 =>
  Vb (lda 4 g5 h4) fun v15 =>
  Vb (ldc s6 h4) fun v16 =>
  S.C I.f_graph_Graph_vertex [v15, v16, n2] h4 fun v18 h5 =>
  Vb (uno .not v18) fun v19 =>
  Br v19 (
    R (.tuple #[(Value.slice none 0 0), (Value.int IntKind.i64 10)]) h5) (
    Eb (nw #[Value.slice none 0 0] I.t_s_2_int64 h5) fun out12 h6 =>
    Eb (nw #[Value.int IntKind.i64 0] I.t_api_Errno h6) fun e13 h7 =>
    Sb (sto 1 e13 (Value.int IntKind.i64 0) h7) fun h8 =>
    Vb (lda 4 g5 h8) fun v20 =>
    Vb (ldc s6 h8) fun v21 =>
    Vb (lda 3 l8 h8) fun v22 =>
    S.C I.f_graph_Graph_through [v20, v21, v22, e13] h8 fun v23 h9 =>
    Rg S.C S.Y v23 h9 (fun l0 as0 h10 R0 =>
        A1 as0 fun v24 =>
        Sb (bgn l0 h10) fun h11 =>
        Vb (ldc out12 h11) fun v25 =>
        Vb (ldc s6 h11) fun v26 =>
        Vb (ldc whom9 h11) fun v28 =>
        Vb (ldc s6 h11) fun v31 =>
        S.C I.f_graph_at [v24, v28] h11 fun v29 h12 =>
        ldc s6 h12 = some v31 ∧
        ldc s6 h12 = some v26 ∧
        ldc out12 h12 = some v25 ∧
        S.C I.f_space_Space_Get [v26, v29] h12 fun v30 h13 =>
        ldc s6 h13 = some v31 ∧
        ldc out12 h13 = some v25 ∧
        S.C I.f_graph_at [v24, (Value.int IntKind.i64 3)] h13 fun v33 h14 =>
        ldc s6 h14 = some v31 ∧
        ldc out12 h14 = some v25 ∧
        S.C I.f_space_Space_Get [v31, v33] h14 fun v34 h15 =>
        ldc out12 h15 = some v25 ∧
        Vb (bldA 1 #[Value.int IntKind.i64 0, Value.int IntKind.i64 0] [(0, v30), (1, v34)]) fun v35 =>
        Eb (bsl #[Value.int IntKind.i64 0, Value.int IntKind.i64 0] 2 1 I.t_2_int64 [(0, v35)] h15) fun v36 h16 =>
        ldc out12 h16 = some v25 ∧
        Ap I.t_2_int64 #[Value.int IntKind.i64 0, Value.int IntKind.i64 0] 2 16 v25 v36 h16 fun v37 h17 =>
        Sb (sto 1 out12 v37 h17) fun h18 =>
        Sb (fin l0 none h18) fun h19 =>
        R0 (.bool true) h19) fun j0 h20 =>
    Jp j0 (
      Vb (ldc e13 h20) fun v38 =>
      Vb (bin .neq v38 (Value.int IntKind.i64 0)) fun v39 =>
      Br v39 (
        Vb (ldc e13 h20) fun v40 =>
        Sb (tkd h9.size h20) fun h21 =>
        R (.tuple #[(Value.slice none 0 0), v40]) h21) (
        Vb (ldc out12 h20) fun v41 =>
        Sb (tkd h9.size h20) fun h22 =>
        R (.tuple #[v41, (Value.int IntKind.i64 0)]) h22)) (
      Sb (tkd h9.size h20) fun h23 =>
      R (.tuple #[(Value.slice none 0 0), (Value.int IntKind.i64 0)]) h23) fun id0 =>
      Xb id0 0 (
      Vb (ldc e13 h20) fun v38_1 =>
      Vb (bin .neq v38_1 (Value.int IntKind.i64 0)) fun v39_1 =>
      Br v39_1 (
        Vb (ldc e13 h20) fun v40_1 =>
        Sb (tkd h9.size h20) fun h24 =>
        R (.tuple #[(Value.slice none 0 0), v40_1]) h24) (
        Vb (ldc out12 h20) fun v41_1 =>
        Sb (tkd h9.size h20) fun h25 =>
        R (.tuple #[v41_1, (Value.int IntKind.i64 0)]) h25)) (
      False))

def F_graph_Graph_out (S : Sys) (I : Ids) (g0 v1 : Value) (h : Hp) (R : Value → Hp → Prop) : Prop :=
  Eb (nw (Value.cells g0) I.t_graph_Graph h) fun g2 h1 =>
  Eb (nw #[Value.int IntKind.i64 0, Value.int IntKind.i64 0, Value.int IntKind.i64 0] I.t_graph_list h1) fun v4 h2 =>
  Vb (bin .add v1 (Value.int IntKind.i64 4)) fun v6 =>
  Vb (bldS [(0, 1), (1, 1), (2, 1)] #[Value.int IntKind.i64 0, Value.int IntKind.i64 0, Value.int IntKind.i64 0] [(0, v6), (1, (Value.int IntKind.i64 4)), (2, (Value.int IntKind.i64 5))]) fun v7 =>
  Sb (sto 3 v4 v7 h2) fun h3 =>
  Vb (lda 3 v4 h3) fun r0 =>
  R r0 h3

def F_graph_Graph_in (S : Sys) (I : Ids) (g0 v1 : Value) (h : Hp) (R : Value → Hp → Prop) : Prop :=
  Eb (nw (Value.cells g0) I.t_graph_Graph h) fun g2 h1 =>
  Eb (nw #[Value.int IntKind.i64 0, Value.int IntKind.i64 0, Value.int IntKind.i64 0] I.t_graph_list h1) fun v4 h2 =>
  Vb (bin .add v1 (Value.int IntKind.i64 5)) fun v6 =>
  Vb (bldS [(0, 1), (1, 1), (2, 1)] #[Value.int IntKind.i64 0, Value.int IntKind.i64 0, Value.int IntKind.i64 0] [(0, v6), (1, (Value.int IntKind.i64 6)), (2, (Value.int IntKind.i64 7))]) fun v7 =>
  Sb (sto 3 v4 v7 h2) fun h3 =>
  Vb (lda 3 v4 h3) fun r0 =>
  R r0 h3

def F_graph_Graph_vertex (S : Sys) (I : Ids) (g0 s1 n2 : Value) (h : Hp) (R : Value → Hp → Prop) : Prop :=
  Eb (nw (Value.cells g0) I.t_graph_Graph h) fun g3 h1 =>
  Jn1 (fun v6 h2 =>
      R v6 h2) fun J0 =>
  Vb (lda 4 g3 h1) fun v7 =>
  S.C I.f_graph_Graph_node [v7, n2] h1 fun v9 h3 =>
  Br v9 (
    Vb (lda 4 g3 h3) fun v15 =>
    S.C I.f_graph_at [n2, (Value.int IntKind.i64 0)] h3 fun v13 h4 =>
    lda 4 g3 h4 = some v15 ∧
    S.C I.f_space_Space_Get [s1, v13] h4 fun v14 h5 =>
    lda 4 g3 h5 = some v15 ∧
    S.C I.f_graph_Graph_vertexMark [v15] h5 fun v16 h6 =>
    Vb (bin .eql v14 v16) fun v17 =>
    J0 v17 h6) (
    J0 (Value.bool false) h3)

def F_graph_Graph_find (S : Sys) (I : Ids) (g0 s1 a2 b3 : Value) (h : Hp) (R : Value → Hp → Prop) : Prop :=
  Eb (nw (Value.cells g0) I.t_graph_Graph h) fun g4 h1 =>
  Eb (nw (Value.cells s1) I.t_p_space_Space h1) fun s5 h2 =>
  Eb (nw (Value.cells b3) I.t_int64 h2) fun b7 h3 =>
  Eb (nw #[Value.int IntKind.i64 0] I.t_int64 h3) fun v8 h4 =>
  Eb (nw #[Value.int IntKind.i64 0] I.t_api_Errno h4) fun v9 h5 =>
  Eb (nw #[Value.int IntKind.i64 0] I.t_api_Errno h5) fun e10 h6 =>
  Sb (sto 1 e10 (Value.int IntKind.i64 0) h6) fun h7 =>
  Vb (lda 4 g4 h7) fun v12 =>
  Vb (ldc s5 h7) fun v13 =>
  Vb (lda 4 g4 h7) fun v14 =>
  S.C I.f_graph_Graph_out [v14, a2] h7 fun v16 h8 =>
  ldc s5 h8 = some v13 ∧
  lda 4 g4 h8 = some v12 ∧
  S.C I.f_graph_Graph_through [v12, v13, v16, e10] h8 fun v17 h9 =>
  Rg S.C S.Y v17 h9 (fun l0 as0 h10 R0 =>
      A1 as0 fun v18 =>
      Sb (bgn l0 h10) fun h11 =>
      Vb (ldc s5 h11) fun v19 =>
      Vb (ldc b7 h11) fun v23 =>
      S.C I.f_graph_at [v18, (Value.int IntKind.i64 2)] h11 fun v21 h12 =>
      ldc b7 h12 = some v23 ∧
      ldc s5 h12 = some v19 ∧
      S.C I.f_space_Space_Get [v19, v21] h12 fun v22 h13 =>
      ldc b7 h13 = some v23 ∧
      Vb (bin .eql v22 v23) fun v24 =>
      Br v24 (
        Sb (sto 1 v8 v18 h13) fun h14 =>
        Sb (sto 1 v9 (Value.int IntKind.i64 0) h14) fun h15 =>
        Sb (fin l0 (some .ret) h15) fun h16 =>
        R0 (.bool false) h16) (
        Sb (fin l0 none h13) fun h17 =>
        R0 (.bool true) h17)) fun j0 h18 =>
  Jp j0 (
    Vb (ldc e10 h18) fun v26 =>
    Sb (sto 1 v8 (Value.int IntKind.i64 0) h18) fun h19 =>
    ldc e10 h19 = some v26 ∧
    Sb (sto 1 v9 v26 h19) fun h20 =>
    Sb (tkd h9.size h20) fun h21 =>
    Vb (ldc v8 h21) fun r0 =>
    Vb (ldc v9 h21) fun r1 =>
    R (.tuple #[r0, r1]) h21) (
    Sb (tkd h9.size h18) fun h22 =>
    Vb (ldc v8 h22) fun r0 =>
    Vb (ldc v9 h22) fun r1 =>
    R (.tuple #[r0, r1]) h22) fun id0 =>
    Xb id0 0 (
    Vb (ldc e10 h18) fun v26_1 =>
    Sb (sto 1 v8 (Value.int IntKind.i64 0) h18) fun h23 =>
    ldc e10 h23 = some v26_1 ∧
    Sb (sto 1 v9 v26_1 h23) fun h24 =>
    Sb (tkd h9.size h24) fun h25 =>
    Vb (ldc v8 h25) fun r0 =>
    Vb (ldc v9 h25) fun r1 =>
    R (.tuple #[r0, r1]) h25) (
    False)

def F_graph_at (S : Sys) (I : Ids) (n0 cell1 : Value) (h : Hp) (R : Value → Hp → Prop) : Prop :=
  Vb (bin .add n0 cell1) fun v7 =>
  R v7 h

def F_pool_Pool_Node (S : Sys) (I : Ids) (p0 at1 : Value) (h : Hp) (R : Value → Hp → Prop) : Prop :=
  Eb (nw (Value.cells p0) I.t_pool_Pool h) fun p2 h1 =>
  Jn1 (fun v23 h2 =>
      Br v23 (
        R (.tuple #[(Value.int IntKind.i64 0), (Value.bool false)]) h2) (
        Vb (fa 1 p2) fun v25 =>
        Vb (ldc v25 h2) fun v26 =>
        Vb (bin .sub at1 v26) fun v27 =>
        Vb (bin .quo v27 (Value.int IntKind.i64 8)) fun v28 =>
        Vb (fa 2 p2) fun v30 =>
        Vb (ldc v30 h2) fun v31 =>
        Vb (bin .geq v28 v31) fun v32 =>
        Br v32 (
          R (.tuple #[(Value.int IntKind.i64 0), (Value.bool false)]) h2) (
          R (.tuple #[v28, (Value.bool true)]) h2))) fun J0 =>
  Vb (lda 3 p2 h1) fun v7 =>
  S.C I.f_pool_Pool_Check [v7] h1 fun v8 h3 =>
  Vb (bin .neq v8 (Value.int IntKind.i64 0)) fun v9 =>
  Br v9 (
    J0 (Value.bool true) h3) (
    Vb (fa 1 p2) fun v12 =>
    Vb (ldc v12 h3) fun v13 =>
    Vb (bin .lss at1 v13) fun v14 =>
    Br v14 (
      J0 (Value.bool true) h3) (
      Vb (fa 1 p2) fun v18 =>
      Vb (ldc v18 h3) fun v19 =>
      Vb (bin .sub at1 v19) fun v20 =>
      Vb (bin .rem v20 (Value.int IntKind.i64 8)) fun v21 =>
      Vb (bin .neq v21 (Value.int IntKind.i64 0)) fun v22 =>
      J0 v22 h3))

def F_simulcastref40_Add (S : Sys) (I : Ids) (g0 v1 label2 : Value) (h : Hp) (R : Value → Hp → Prop) : Prop :=
  Eb (nw (Value.cells g0) I.t_simulcastref40_Graph h) fun g3 h1 =>
  Eb (nw #[Value.slice none 0 0, Value.slice none 0 0] I.t_simulcastref40_Graph h1) fun v6 h2 =>
  Vb (bldS [(0, 1), (1, 1)] #[Value.int IntKind.i64 0, Value.int IntKind.i64 0] [(0, v1), (1, label2)]) fun v9 =>
  Vb (fa 0 g3) fun v11 =>
  Vb (ldc v11 h2) fun v12 =>
  Vb (fa 1 g3) fun v14 =>
  Vb (ldc v14 h2) fun v15 =>
  Eb (bsl #[Value.int IntKind.i64 0, Value.int IntKind.i64 0] 2 1 I.t_simulcastref40_Vertex [(0, v9)] h2) fun v10 h3 =>
  ldc v14 h3 = some v15 ∧
  ldc v11 h3 = some v12 ∧
  Ap I.t_simulcastref40_Vertex #[Value.int IntKind.i64 0, Value.int IntKind.i64 0] 2 16 v10 v12 h3 fun v13 h4 =>
  ldc v14 h4 = some v15 ∧
  Vb (bldS [(0, 1), (1, 1)] #[Value.slice none 0 0, Value.slice none 0 0] [(0, v13), (1, v15)]) fun v16 =>
  Sb (sto 2 v6 v16 h4) fun h5 =>
  Vb (lda 2 v6 h5) fun r0 =>
  R r0 h5

def F_simulcastref40_Is (S : Sys) (I : Ids) (g0 e1 : Value) (h : Hp) (R : Value → Hp → Prop) : Prop :=
  Eb (nw (Value.cells g0) I.t_simulcastref40_Graph h) fun g2 h1 =>
  Lp1 (Value.int IntKind.i64 0) h1 fun i5 h2 again0 =>
  Vb (fa 1 g2) fun v7 =>
  Vb (ldc v7 h2) fun v8 =>
  Vb (lnS v8) fun v9 =>
  Vb (bin .lss i5 v9) fun v10 =>
  Br v10 (
    Vb (fa 1 g2) fun v13 =>
    Vb (ldc v13 h2) fun v14 =>
    Vb (ixs 4 v14 i5) fun v16 =>
    Vb (fa 0 v16) fun v17 =>
    Vb (ldc v17 h2) fun v18 =>
    Vb (bin .eql v18 e1) fun v20 =>
    Br v20 (
      R (Value.bool true) h2) (
      Vb (bin .add i5 (Value.int IntKind.i64 1)) fun v12 =>
      again0 v12 h2)) (
    R (Value.bool false) h2)

def F_simulcastref40_Link (S : Sys) (I : Ids) (g0 e1 from2 to3 weight4 : Value) (h : Hp) (R : Value → Hp → Prop) : Prop :=
  Eb (nw (Value.cells g0) I.t_simulcastref40_Graph h) fun g5 h1 =>
  Eb (nw #[Value.slice none 0 0, Value.slice none 0 0] I.t_simulcastref40_Graph h1) fun v10 h2 =>
  Vb (fa 0 g5) fun v11 =>
  Vb (ldc v11 h2) fun v12 =>
  Vb (bldS [(0, 1), (1, 1), (2, 1), (3, 1)] #[Value.int IntKind.i64 0, Value.int IntKind.i64 0, Value.int IntKind.i64 0, Value.int IntKind.i64 0] [(0, e1), (1, from2), (2, to3), (3, weight4)]) fun v17 =>
  Vb (fa 1 g5) fun v19 =>
  Vb (ldc v19 h2) fun v20 =>
  Eb (bsl #[Value.int IntKind.i64 0, Value.int IntKind.i64 0, Value.int IntKind.i64 0, Value.int IntKind.i64 0] 4 1 I.t_simulcastref40_Edge [(0, v17)] h2) fun v18 h3 =>
  ldc v19 h3 = some v20 ∧
  ldc v11 h3 = some v12 ∧
  Ap I.t_simulcastref40_Edge #[Value.int IntKind.i64 0, Value.int IntKind.i64 0, Value.int IntKind.i64 0, Value.int IntKind.i64 0] 4 32 v18 v20 h3 fun v21 h4 =>
  ldc v11 h4 = some v12 ∧
  Vb (bldS [(0, 1), (1, 1)] #[Value.slice none 0 0, Value.slice none 0 0] [(0, v12), (1, v21)]) fun v22 =>
  Sb (sto 2 v10 v22 h4) fun h5 =>
  Vb (lda 2 v10 h5) fun r0 =>
  R r0 h5

def F_simulcastref40_Cut (S : Sys) (I : Ids) (g0 e1 : Value) (h : Hp) (R : Value → Hp → Prop) : Prop :=
  Eb (nw (Value.cells g0) I.t_simulcastref40_Graph h) fun g2 h1 =>
  Eb (nw #[Value.slice none 0 0, Value.slice none 0 0] I.t_simulcastref40_Graph h1) fun v4 h2 =>
  Vb (fa 0 g2) fun v7 =>
  Vb (ldc v7 h2) fun v8 =>
  Vb (bldS [(0, 1), (1, 1)] #[Value.slice none 0 0, Value.slice none 0 0] [(0, v8)]) fun v9 =>
  Eb (nw #[Value.slice none 0 0, Value.slice none 0 0] I.t_simulcastref40_Graph h2) fun out5 h3 =>
  Sb (sto 2 out5 v9 h3) fun h4 =>
  Lp1 (Value.int IntKind.i64 0) h4 fun i6 h5 again0 =>
  Vb (fa 1 g2) fun v11 =>
  Vb (ldc v11 h5) fun v12 =>
  Vb (lnS v12) fun v13 =>
  Vb (bin .lss i6 v13) fun v14 =>
  Br v14 (
    Jn0 (fun h6 =>
        Vb (bin .add i6 (Value.int IntKind.i64 1)) fun v16 =>
        again0 v16 h6) fun J0 =>
    Vb (fa 1 g2) fun v17 =>
    Vb (ldc v17 h5) fun v18 =>
    Vb (ixs 4 v18 i6) fun v20 =>
    Vb (fa 0 v20) fun v21 =>
    Vb (ldc v21 h5) fun v22 =>
    Vb (bin .neq v22 e1) fun v24 =>
    Br v24 (
      Vb (fa 1 out5) fun v25 =>
      Vb (ldc v25 h5) fun v26 =>
      Vb (fa 1 g2) fun v27 =>
      Vb (ldc v27 h5) fun v28 =>
      Vb (ixs 4 v28 i6) fun v30 =>
      Vb (lda 4 v30 h5) fun v31 =>
      Eb (bsl #[Value.int IntKind.i64 0, Value.int IntKind.i64 0, Value.int IntKind.i64 0, Value.int IntKind.i64 0] 4 1 I.t_simulcastref40_Edge [(0, v31)] h5) fun v32 h7 =>
      ldc v25 h7 = some v26 ∧
      Ap I.t_simulcastref40_Edge #[Value.int IntKind.i64 0, Value.int IntKind.i64 0, Value.int IntKind.i64 0, Value.int IntKind.i64 0] 4 32 v26 v32 h7 fun v33 h8 =>
      Vb (fa 1 out5) fun v34 =>
      Sb (sto 1 v34 v33 h8) fun h9 =>
      J0 h9) (
      J0 h5)) (
    Vb (lda 2 out5 h5) fun v35 =>
    Sb (sto 2 v4 v35 h5) fun h10 =>
    Vb (lda 2 v4 h10) fun r0 =>
    R r0 h10)

def F_simulcastref40_Drop (S : Sys) (I : Ids) (g0 v1 : Value) (h : Hp) (R : Value → Hp → Prop) : Prop :=
  Eb (nw (Value.cells g0) I.t_simulcastref40_Graph h) fun g2 h1 =>
  Eb (nw #[Value.slice none 0 0, Value.slice none 0 0] I.t_simulcastref40_Graph h1) fun v4 h2 =>
  Eb (nw #[Value.slice none 0 0, Value.slice none 0 0] I.t_simulcastref40_Graph h2) fun out5 h3 =>
  Lp1 (Value.int IntKind.i64 0) h3 fun i6 h4 again0 =>
  Vb (fa 0 g2) fun v9 =>
  Vb (ldc v9 h4) fun v10 =>
  Vb (lnS v10) fun v11 =>
  Vb (bin .lss i6 v11) fun v12 =>
  Br v12 (
    Jn0 (fun h5 =>
        Vb (bin .add i6 (Value.int IntKind.i64 1)) fun v14 =>
        again0 v14 h5) fun J0 =>
    Vb (fa 0 g2) fun v15 =>
    Vb (ldc v15 h4) fun v16 =>
    Vb (ixs 2 v16 i6) fun v18 =>
    Vb (fa 0 v18) fun v19 =>
    Vb (ldc v19 h4) fun v20 =>
    Vb (bin .neq v20 v1) fun v22 =>
    Br v22 (
      Vb (fa 0 out5) fun v23 =>
      Vb (ldc v23 h4) fun v24 =>
      Vb (fa 0 g2) fun v25 =>
      Vb (ldc v25 h4) fun v26 =>
      Vb (ixs 2 v26 i6) fun v28 =>
      Vb (lda 2 v28 h4) fun v29 =>
      Eb (bsl #[Value.int IntKind.i64 0, Value.int IntKind.i64 0] 2 1 I.t_simulcastref40_Vertex [(0, v29)] h4) fun v30 h6 =>
      ldc v23 h6 = some v24 ∧
      Ap I.t_simulcastref40_Vertex #[Value.int IntKind.i64 0, Value.int IntKind.i64 0] 2 16 v24 v30 h6 fun v31 h7 =>
      Vb (fa 0 out5) fun v32 =>
      Sb (sto 1 v32 v31 h7) fun h8 =>
      J0 h8) (
      J0 h4)) (
    Lp1 (Value.int IntKind.i64 0) h4 fun i7 h9 again1 =>
    Vb (fa 1 g2) fun v34 =>
    Vb (ldc v34 h9) fun v35 =>
    Vb (lnS v35) fun v36 =>
    Vb (bin .lss i7 v36) fun v37 =>
    Br v37 (
      Jn0 (fun h10 =>
          Vb (bin .add i7 (Value.int IntKind.i64 1)) fun v39 =>
          again1 v39 h10) fun J1 =>
      Jn1 (fun v57 h11 =>
          Br v57 (
            Vb (fa 1 out5) fun v58 =>
            Vb (ldc v58 h11) fun v59 =>
            Vb (fa 1 g2) fun v60 =>
            Vb (ldc v60 h11) fun v61 =>
            Vb (ixs 4 v61 i7) fun v63 =>
            Vb (lda 4 v63 h11) fun v64 =>
            Eb (bsl #[Value.int IntKind.i64 0, Value.int IntKind.i64 0, Value.int IntKind.i64 0, Value.int IntKind.i64 0] 4 1 I.t_simulcastref40_Edge [(0, v64)] h11) fun v65 h12 =>
            ldc v58 h12 = some v59 ∧
            Ap I.t_simulcastref40_Edge #[Value.int IntKind.i64 0, Value.int IntKind.i64 0, Value.int IntKind.i64 0, Value.int IntKind.i64 0] 4 32 v59 v65 h12 fun v66 h13 =>
            Vb (fa 1 out5) fun v67 =>
            Sb (sto 1 v67 v66 h13) fun h14 =>
            J1 h14) (
            J1 h11)) fun J2 =>
      Vb (fa 1 g2) fun v40 =>
      Vb (ldc v40 h9) fun v41 =>
      Vb (ixs 4 v41 i7) fun v43 =>
      Vb (fa 1 v43) fun v44 =>
      Vb (ldc v44 h9) fun v45 =>
      Vb (bin .neq v45 v1) fun v47 =>
      Br v47 (
        Vb (fa 1 g2) fun v49 =>
        Vb (ldc v49 h9) fun v50 =>
        Vb (ixs 4 v50 i7) fun v52 =>
        Vb (fa 2 v52) fun v53 =>
        Vb (ldc v53 h9) fun v54 =>
        Vb (bin .neq v54 v1) fun v56 =>
        J2 v56 h9) (
        J2 (Value.bool false) h9)) (
      Vb (lda 2 out5 h9) fun v68 =>
      Sb (sto 2 v4 v68 h9) fun h15 =>
      Vb (lda 2 v4 h15) fun r0 =>
      R r0 h15))

def F_graph_undo (S : Sys) (I : Ids) (s0 n1 e2 : Value) (h : Hp) (R : Value → Hp → Prop) : Prop :=
  Vb (nck e2) fun v7 =>
  Vb (ldc v7 h) fun v8 =>
  Vb (bin .neq v8 (Value.int IntKind.i64 0)) fun v9 =>
  Br v9 (
    S.C I.f_space_Space_Back [s0, n1] h fun v12 h1 =>
    R (.tuple #[]) h1) (
    R (.tuple #[]) h)

def F_pool_Pool_Take (S : Sys) (I : Ids) (p0 s1 : Value) (h : Hp) (R : Value → Hp → Prop) : Prop :=
  Eb (nw (Value.cells p0) I.t_pool_Pool h) fun p2 h1 =>
  Vb (lda 3 p2 h1) fun v12 =>
  S.C I.f_pool_Pool_Check [v12] h1 fun v13 h2 =>
  Vb (bin .neq v13 (Value.int IntKind.i64 0)) fun v15 =>
  Br v15 (
    R (.tuple #[(Value.int IntKind.i64 0), v13]) h2) (
    Vb (fa 0 p2) fun v18 =>
    Vb (ldc v18 h2) fun v19 =>
    S.C I.f_space_Space_Get [s1, v19] h2 fun v20 h3 =>
    Vb (bin .neq v20 (Value.int IntKind.i64 0)) fun v22 =>
    Br v22 (
      Vb (lda 3 p2 h3) fun v25 =>
      S.C I.f_pool_Pool_Node [v25, v20] h3 fun v27 h4 =>
      Vb (ext 0 v27) fun v28 =>
      Vb (ext 1 v27) fun v29 =>
      Vb (uno .not v29) fun v31 =>
      Br v31 (
        R (.tuple #[(Value.int IntKind.i64 0), (Value.int IntKind.i64 24)]) h4) (
        Vb (fa 0 p2) fun v33 =>
        Vb (ldc v33 h4) fun v34 =>
        S.C I.f_space_Space_Get [s1, v20] h4 fun v37 h5 =>
        ldc v33 h5 = some v34 ∧
        S.C I.f_space_Space_Put [s1, v34, v37] h5 fun v38 h6 =>
        Vb (lda 3 p2 h6) fun v39 =>
        S.C I.f_pool_Pool_add [v39, s1, (Value.int IntKind.i64 2), (Value.int IntKind.i64 (-1))] h6 fun v41 h7 =>
        R (.tuple #[v20, (Value.int IntKind.i64 0)]) h7)) (
      Vb (fa 0 p2) fun v44 =>
      Vb (ldc v44 h3) fun v45 =>
      Vb (bin .add v45 (Value.int IntKind.i64 1)) fun v46 =>
      S.C I.f_space_Space_Get [s1, v46] h3 fun v47 h8 =>
      Jn1 (fun v55 h9 =>
          Br v55 (
            R (.tuple #[(Value.int IntKind.i64 0), (Value.int IntKind.i64 9)]) h9) (
            Vb (fa 0 p2) fun v57 =>
            Vb (ldc v57 h9) fun v58 =>
            Vb (bin .add v58 (Value.int IntKind.i64 1)) fun v59 =>
            Vb (bin .add v47 (Value.int IntKind.i64 1)) fun v61 =>
            S.C I.f_space_Space_Put [s1, v59, v61] h9 fun v62 h10 =>
            Vb (fa 1 p2) fun v63 =>
            Vb (ldc v63 h10) fun v64 =>
            Vb (bin .mul (Value.int IntKind.i64 8) v47) fun v66 =>
            Vb (bin .add v64 v66) fun v67 =>
            R (.tuple #[v67, (Value.int IntKind.i64 0)]) h10)) fun J0 =>
      Vb (bin .lss v47 (Value.int IntKind.i64 0)) fun v49 =>
      Br v49 (
        J0 (Value.bool true) h8) (
        Vb (fa 2 p2) fun v52 =>
        Vb (ldc v52 h8) fun v53 =>
        Vb (bin .geq v47 v53) fun v54 =>
        J0 v54 h8)))

def F_graph_Graph_vertexMark (S : Sys) (I : Ids) (g0 : Value) (h : Hp) (R : Value → Hp → Prop) : Prop :=
  Eb (nw (Value.cells g0) I.t_graph_Graph h) fun g1 h1 =>
  Vb (fa 3 g1) fun v3 =>
  Vb (ldc v3 h1) fun v4 =>
  Vb (bin .mul (Value.int IntKind.i64 2) v4) fun v5 =>
  Vb (bin .sub (Value.int IntKind.i64 (-1)) v5) fun v6 =>
  R v6 h1

def F_space_Space_Put (S : Sys) (I : Ids) (s0 at1 v2 : Value) (h : Hp) (R : Value → Hp → Prop) : Prop :=
  S.C I.f_space_Space_reads [s0, at1] h fun v8 h1 =>
  Br v8 (
    Vb (nck s0) fun v11 =>
    Vb (fa 2 v11) fun v12 =>
    Vb (ldc v12 h1) fun v13 =>
    Vb (bldS [(0, 1), (1, 1)] #[Value.int IntKind.i64 0, Value.int IntKind.i64 0] [(0, at1), (1, v2)]) fun v16 =>
    Eb (bsl #[Value.int IntKind.i64 0, Value.int IntKind.i64 0] 2 1 I.t_space_put [(0, v16)] h1) fun v17 h2 =>
    Ap I.t_space_put #[Value.int IntKind.i64 0, Value.int IntKind.i64 0] 2 16 v13 v17 h2 fun v18 h3 =>
    Vb (nck s0) fun v19 =>
    Vb (fa 2 v19) fun v20 =>
    Sb (sto 1 v20 v18 h3) fun h4 =>
    R (.tuple #[]) h4) (
    R (.tuple #[]) h1)

def F_graph_Graph_link (S : Sys) (I : Ids) (g0 s1 l2 n3 : Value) (h : Hp) (R : Value → Hp → Prop) : Prop :=
  Eb (nw (Value.cells g0) I.t_graph_Graph h) fun g4 h1 =>
  Eb (nw (Value.cells l2) I.t_graph_list h1) fun l6 h2 =>
  Vb (fa 0 l6) fun v11 =>
  Vb (ldc v11 h2) fun v12 =>
  S.C I.f_space_Space_Get [s1, v12] h2 fun v13 h3 =>
  Vb (fa 1 l6) fun v16 =>
  Vb (ldc v16 h3) fun v17 =>
  S.C I.f_graph_at [n3, v17] h3 fun v18 h4 =>
  S.C I.f_space_Space_Put [s1, v18, v13] h4 fun v20 h5 =>
  Vb (fa 2 l6) fun v23 =>
  Vb (ldc v23 h5) fun v24 =>
  S.C I.f_graph_at [n3, v24] h5 fun v25 h6 =>
  S.C I.f_space_Space_Put [s1, v25, (Value.int IntKind.i64 0)] h6 fun v26 h7 =>
  Vb (fa 0 l6) fun v28 =>
  Vb (ldc v28 h7) fun v29 =>
  S.C I.f_space_Space_Put [s1, v29, n3] h7 fun v31 h8 =>
  Vb (bin .eql v13 (Value.int IntKind.i64 0)) fun v33 =>
  Br v33 (
    R (Value.int IntKind.i64 0) h8) (
    Vb (lda 4 g4 h8) fun v34 =>
    S.C I.f_graph_Graph_node [v34, v13] h8 fun v36 h9 =>
    Vb (uno .not v36) fun v37 =>
    Br v37 (
      R (Value.int IntKind.i64 24) h9) (
      Vb (fa 2 l6) fun v40 =>
      Vb (ldc v40 h9) fun v41 =>
      S.C I.f_graph_at [v13, v41] h9 fun v42 h10 =>
      S.C I.f_space_Space_Put [s1, v42, n3] h10 fun v44 h11 =>
      R (Value.int IntKind.i64 0) h11))

def F_graph_more (S : Sys) (I : Ids) (s0 l1 n2 : Value) (h : Hp) (R : Value → Hp → Prop) : Prop :=
  S.C I.f_space_Space_Get [s0, l1] h fun v10 h1 =>
  Vb (bin .add v10 n2) fun v12 =>
  S.C I.f_space_Space_Put [s0, l1, v12] h1 fun v13 h2 =>
  R (.tuple #[]) h2

def F_graph_Graph_edgeMark (S : Sys) (I : Ids) (g0 : Value) (h : Hp) (R : Value → Hp → Prop) : Prop :=
  Eb (nw (Value.cells g0) I.t_graph_Graph h) fun g1 h1 =>
  Vb (fa 3 g1) fun v3 =>
  Vb (ldc v3 h1) fun v4 =>
  Vb (bin .mul (Value.int IntKind.i64 2) v4) fun v5 =>
  Vb (bin .sub (Value.int IntKind.i64 (-2)) v5) fun v6 =>
  R v6 h1

def F_graph_Graph_edge (S : Sys) (I : Ids) (g0 s1 n2 : Value) (h : Hp) (R : Value → Hp → Prop) : Prop :=
  Eb (nw (Value.cells g0) I.t_graph_Graph h) fun g3 h1 =>
  Jn1 (fun v6 h2 =>
      R v6 h2) fun J0 =>
  Vb (lda 4 g3 h1) fun v7 =>
  S.C I.f_graph_Graph_node [v7, n2] h1 fun v9 h3 =>
  Br v9 (
    Vb (lda 4 g3 h3) fun v15 =>
    S.C I.f_graph_at [n2, (Value.int IntKind.i64 0)] h3 fun v13 h4 =>
    lda 4 g3 h4 = some v15 ∧
    S.C I.f_space_Space_Get [s1, v13] h4 fun v14 h5 =>
    lda 4 g3 h5 = some v15 ∧
    S.C I.f_graph_Graph_edgeMark [v15] h5 fun v16 h6 =>
    Vb (bin .eql v14 v16) fun v17 =>
    J0 v17 h6) (
    J0 (Value.bool false) h3)

def F_graph_Graph_cut (S : Sys) (I : Ids) (g0 s1 n2 : Value) (h : Hp) (R : Value → Hp → Prop) : Prop :=
  Eb (nw (Value.cells g0) I.t_graph_Graph h) fun g3 h1 =>
  S.C I.f_graph_at [n2, (Value.int IntKind.i64 1)] h1 fun v13 h2 =>
  S.C I.f_space_Space_Get [s1, v13] h2 fun v14 h3 =>
  S.C I.f_graph_at [n2, (Value.int IntKind.i64 2)] h3 fun v17 h4 =>
  S.C I.f_space_Space_Get [s1, v17] h4 fun v18 h5 =>
  Jn1 (fun v28 h6 =>
      Br v28 (
        R (Value.int IntKind.i64 24) h6) (
        Vb (lda 4 g3 h6) fun v29 =>
        Vb (lda 4 g3 h6) fun v31 =>
        S.C I.f_graph_Graph_out [v31, v14] h6 fun v33 h7 =>
        lda 4 g3 h7 = some v29 ∧
        S.C I.f_graph_Graph_unlink [v29, s1, v33, n2] h7 fun v35 h8 =>
        Vb (bin .neq v35 (Value.int IntKind.i64 0)) fun v37 =>
        Br v37 (
          R v35 h8) (
          Vb (lda 4 g3 h8) fun v39 =>
          Vb (lda 4 g3 h8) fun v41 =>
          S.C I.f_graph_Graph_in [v41, v18] h8 fun v43 h9 =>
          lda 4 g3 h9 = some v39 ∧
          S.C I.f_graph_Graph_unlink [v39, s1, v43, n2] h9 fun v45 h10 =>
          Vb (bin .neq v45 (Value.int IntKind.i64 0)) fun v47 =>
          Br v47 (
            R v45 h10) (
            S.C I.f_graph_at [v14, (Value.int IntKind.i64 6)] h10 fun v51 h11 =>
            S.C I.f_graph_more [s1, v51, (Value.int IntKind.i64 (-1))] h11 fun v52 h12 =>
            S.C I.f_graph_at [v18, (Value.int IntKind.i64 7)] h12 fun v55 h13 =>
            S.C I.f_graph_more [s1, v55, (Value.int IntKind.i64 (-1))] h13 fun v56 h14 =>
            Vb (fa 3 g3) fun v58 =>
            Vb (ldc v58 h14) fun v59 =>
            Vb (bin .add v59 (Value.int IntKind.i64 2)) fun v60 =>
            S.C I.f_graph_more [s1, v60, (Value.int IntKind.i64 (-1))] h14 fun v61 h15 =>
            Vb (fa 3 g3) fun v63 =>
            Vb (ldc v63 h15) fun v64 =>
            Vb (bin .add v64 (Value.int IntKind.i64 7)) fun v65 =>
            S.C I.f_graph_more [s1, v65, (Value.int IntKind.i64 (-1))] h15 fun v66 h16 =>
            Vb (fa 0 g3) fun v67 =>
            Vb (lda 3 v67 h16) fun v68 =>
            S.C I.f_pool_Pool_Give [v68, s1, n2] h16 fun v71 h17 =>
            R v71 h17)))) fun J0 =>
  Vb (lda 4 g3 h5) fun v19 =>
  S.C I.f_graph_Graph_node [v19, v14] h5 fun v21 h18 =>
  Vb (uno .not v21) fun v22 =>
  Br v22 (
    J0 (Value.bool true) h18) (
    Vb (lda 4 g3 h18) fun v24 =>
    S.C I.f_graph_Graph_node [v24, v18] h18 fun v26 h19 =>
    Vb (uno .not v26) fun v27 =>
    J0 v27 h19)

def F_graph_Graph_empty (S : Sys) (I : Ids) (g0 s1 l2 : Value) (h : Hp) (R : Value → Hp → Prop) : Prop :=
  Eb (nw (Value.cells g0) I.t_graph_Graph h) fun g3 h1 =>
  Eb (nw (Value.cells l2) I.t_graph_list h1) fun l5 h2 =>
  Lp1 (Value.int IntKind.i64 0) h2 fun many7 h3 again0 =>
  Vb (fa 0 l5) fun v13 =>
  Vb (ldc v13 h3) fun v14 =>
  S.C I.f_space_Space_Get [s1, v14] h3 fun v15 h4 =>
  Vb (bin .eql v15 (Value.int IntKind.i64 0)) fun v18 =>
  Br v18 (
    R (Value.int IntKind.i64 0) h4) (
    Jn1 (fun v19 h5 =>
        Br v19 (
          R (Value.int IntKind.i64 24) h5) (
          Vb (lda 4 g3 h5) fun v31 =>
          S.C I.f_graph_Graph_cut [v31, s1, v15] h5 fun v34 h6 =>
          Vb (bin .neq v34 (Value.int IntKind.i64 0)) fun v36 =>
          Br v36 (
            R v34 h6) (
            Vb (bin .add many7 (Value.int IntKind.i64 1)) fun v11 =>
            again0 v11 h6))) fun J0 =>
    Vb (lda 4 g3 h4) fun v20 =>
    S.C I.f_graph_Graph_node [v20, v15] h4 fun v22 h7 =>
    Vb (uno .not v22) fun v23 =>
    Br v23 (
      J0 (Value.bool true) h7) (
      Vb (fa 0 g3) fun v26 =>
      Vb (fa 2 v26) fun v27 =>
      Vb (ldc v27 h7) fun v28 =>
      Vb (bin .gtr many7 v28) fun v29 =>
      J0 v29 h7))

def F_graph_Graph_unlink (S : Sys) (I : Ids) (g0 s1 l2 n3 : Value) (h : Hp) (R : Value → Hp → Prop) : Prop :=
  Eb (nw (Value.cells g0) I.t_graph_Graph h) fun g4 h1 =>
  Eb (nw (Value.cells l2) I.t_graph_list h1) fun l6 h2 =>
  Vb (fa 2 l6) fun v13 =>
  Vb (ldc v13 h2) fun v14 =>
  Vb (fa 1 l6) fun v19 =>
  Vb (ldc v19 h2) fun v20 =>
  S.C I.f_graph_at [n3, v14] h2 fun v15 h3 =>
  ldc v19 h3 = some v20 ∧
  S.C I.f_space_Space_Get [s1, v15] h3 fun v16 h4 =>
  ldc v19 h4 = some v20 ∧
  S.C I.f_graph_at [n3, v20] h4 fun v21 h5 =>
  S.C I.f_space_Space_Get [s1, v21] h5 fun v22 h6 =>
  Jn0 (fun h7 =>
      Vb (bin .eql v22 (Value.int IntKind.i64 0)) fun v44 =>
      Br v44 (
        R (Value.int IntKind.i64 0) h7) (
        Vb (lda 4 g4 h7) fun v45 =>
        S.C I.f_graph_Graph_node [v45, v22] h7 fun v47 h8 =>
        Vb (uno .not v47) fun v48 =>
        Br v48 (
          R (Value.int IntKind.i64 24) h8) (
          Vb (fa 2 l6) fun v51 =>
          Vb (ldc v51 h8) fun v52 =>
          S.C I.f_graph_at [v22, v52] h8 fun v53 h9 =>
          S.C I.f_space_Space_Put [s1, v53, v16] h9 fun v55 h10 =>
          R (Value.int IntKind.i64 0) h10))) fun J0 =>
  Vb (bin .eql v16 (Value.int IntKind.i64 0)) fun v32 =>
  Br v32 (
    Vb (fa 0 l6) fun v34 =>
    Vb (ldc v34 h6) fun v35 =>
    S.C I.f_space_Space_Put [s1, v35, v22] h6 fun v37 h11 =>
    J0 h11) (
    Vb (lda 4 g4 h6) fun v39 =>
    S.C I.f_graph_Graph_node [v39, v16] h6 fun v41 h12 =>
    Vb (uno .not v41) fun v42 =>
    Br v42 (
      R (Value.int IntKind.i64 24) h12) (
      Vb (fa 1 l6) fun v25 =>
      Vb (ldc v25 h12) fun v26 =>
      S.C I.f_graph_at [v16, v26] h12 fun v27 h13 =>
      S.C I.f_space_Space_Put [s1, v27, v22] h13 fun v29 h14 =>
      J0 h14))

def F_pool_Pool_Give (S : Sys) (I : Ids) (p0 s1 at2 : Value) (h : Hp) (R : Value → Hp → Prop) : Prop :=
  Eb (nw (Value.cells p0) I.t_pool_Pool h) fun p3 h1 =>
  Vb (lda 3 p3 h1) fun v10 =>
  S.C I.f_pool_Pool_Node [v10, at2] h1 fun v12 h2 =>
  Vb (ext 0 v12) fun v13 =>
  Vb (ext 1 v12) fun v14 =>
  Vb (uno .not v14) fun v16 =>
  Br v16 (
    R (Value.int IntKind.i64 1) h2) (
    Vb (fa 0 p3) fun v20 =>
    Vb (ldc v20 h2) fun v21 =>
    S.C I.f_space_Space_Get [s1, v21] h2 fun v22 h3 =>
    S.C I.f_space_Space_Put [s1, at2, v22] h3 fun v23 h4 =>
    Vb (fa 0 p3) fun v25 =>
    Vb (ldc v25 h4) fun v26 =>
    S.C I.f_space_Space_Put [s1, v26, at2] h4 fun v28 h5 =>
    Vb (lda 3 p3 h5) fun v29 =>
    S.C I.f_pool_Pool_add [v29, s1, (Value.int IntKind.i64 2), (Value.int IntKind.i64 1)] h5 fun v31 h6 =>
    R (Value.int IntKind.i64 0) h6)

def F_pool_Pool_Check (S : Sys) (I : Ids) (p0 : Value) (h : Hp) (R : Value → Hp → Prop) : Prop :=
  Eb (nw (Value.cells p0) I.t_pool_Pool h) fun p1 h1 =>
  Jn1 (fun v3 h2 =>
      Br v3 (
        R (Value.int IntKind.i64 1) h2) (
        Jn1 (fun v22 h3 =>
            Br v22 (
              R (Value.int IntKind.i64 1) h3) (
              Jn1 (fun v35 h4 =>
                  Br v35 (
                    R (Value.int IntKind.i64 1) h4) (
                    R (Value.int IntKind.i64 0) h4)) fun J2 =>
              Vb (fa 2 p1) fun v36 =>
              Vb (ldc v36 h3) fun v37 =>
              Vb (bin .gtr v37 (Value.int IntKind.i64 0)) fun v38 =>
              Br v38 (
                Vb (fa 0 p1) fun v40 =>
                Vb (ldc v40 h3) fun v41 =>
                Vb (bin .add v41 (Value.int IntKind.i64 3)) fun v42 =>
                Vb (fa 1 p1) fun v43 =>
                Vb (ldc v43 h3) fun v44 =>
                Vb (bin .gtr v42 v44) fun v45 =>
                Br v45 (
                  Vb (fa 0 p1) fun v48 =>
                  Vb (ldc v48 h3) fun v49 =>
                  Vb (fa 1 p1) fun v50 =>
                  Vb (ldc v50 h3) fun v51 =>
                  Vb (fa 2 p1) fun v52 =>
                  Vb (ldc v52 h3) fun v53 =>
                  Vb (bin .mul (Value.int IntKind.i64 8) v53) fun v54 =>
                  Vb (bin .add v51 v54) fun v55 =>
                  Vb (bin .lss v49 v55) fun v56 =>
                  J2 v56 h3) (
                  J2 (Value.bool false) h3)) (
                J2 (Value.bool false) h3))) fun J1 =>
        Vb (fa 0 p1) fun v23 =>
        Vb (ldc v23 h2) fun v24 =>
        Vb (bin .gtr v24 (Value.int IntKind.i64 4093)) fun v25 =>
        Br v25 (
          J1 (Value.bool true) h2) (
          Vb (fa 1 p1) fun v27 =>
          Vb (ldc v27 h2) fun v28 =>
          Vb (fa 2 p1) fun v29 =>
          Vb (ldc v29 h2) fun v30 =>
          Vb (bin .mul (Value.int IntKind.i64 8) v30) fun v31 =>
          Vb (bin .sub (Value.int IntKind.i64 4096) v31) fun v32 =>
          Vb (bin .gtr v28 v32) fun v33 =>
          J1 v33 h2))) fun J0 =>
  Vb (fa 0 p1) fun v4 =>
  Vb (ldc v4 h1) fun v5 =>
  Vb (bin .lss v5 (Value.int IntKind.i64 0)) fun v6 =>
  Br v6 (
    J0 (Value.bool true) h1) (
    Vb (fa 1 p1) fun v8 =>
    Vb (ldc v8 h1) fun v9 =>
    Vb (bin .lss v9 (Value.int IntKind.i64 1)) fun v10 =>
    Br v10 (
      J0 (Value.bool true) h1) (
      Vb (fa 2 p1) fun v13 =>
      Vb (ldc v13 h1) fun v14 =>
      Vb (bin .lss v14 (Value.int IntKind.i64 0)) fun v15 =>
      Br v15 (
        J0 (Value.bool true) h1) (
        Vb (fa 2 p1) fun v18 =>
        Vb (ldc v18 h1) fun v19 =>
        Vb (bin .gtr v19 (Value.int IntKind.i64 128)) fun v20 =>
        J0 v20 h1)))

def F_space_Space_reads (S : Sys) (I : Ids) (s0 at1 : Value) (h : Hp) (R : Value → Hp → Prop) : Prop :=
  S.C I.f_space_Space_Ended [s0] h fun v8 h1 =>
  Br v8 (
    R (Value.bool false) h1) (
    Vb (nck s0) fun v11 =>
    Vb (fa 0 v11) fun v12 =>
    Vb (ldc v12 h1) fun v13 =>
    Vb (lkm (.int .i64) (Value.agg #[Value.int IntKind.i64 0, Value.int IntKind.u32 0, Value.int IntKind.u32 0]) true v13 at1 h1) fun v15 =>
    Vb (ext 0 v15) fun v16 =>
    Vb (ext 1 v15) fun v17 =>
    Eb (nw #[Value.int IntKind.i64 0, Value.int IntKind.u32 0, Value.int IntKind.u32 0] I.t_api_Word h1) fun v5 h2 =>
    Sb (sto 3 v5 v16 h2) fun h3 =>
    Vb (uno .not v17) fun v19 =>
    Br v19 (
      Vb (nck s0) fun v23 =>
      Vb (fa 4 v23) fun v24 =>
      Sb (sto 1 v24 (Value.bool true) h3) fun h4 =>
      Vb (nck s0) fun v25 =>
      Vb (fa 3 v25) fun v26 =>
      Sb (sto 1 v26 at1 h4) fun h5 =>
      R (Value.bool false) h5) (
      Vb (nck s0) fun v28 =>
      Vb (fa 1 v28) fun v29 =>
      Vb (ldc v29 h3) fun v30 =>
      Sb (mup (.int .i64) v30 at1 (Value.bool true) h3) fun h6 =>
      R (Value.bool true) h6))

def F_space_Space_value (S : Sys) (I : Ids) (s0 at1 : Value) (h : Hp) (R : Value → Hp → Prop) : Prop :=
  S.C I.f_space_Space_last [s0, at1] h fun v9 h1 =>
  Vb (bin .geq v9 (Value.int IntKind.i64 0)) fun v11 =>
  Br v11 (
    Vb (nck s0) fun v13 =>
    Vb (fa 2 v13) fun v14 =>
    Vb (ldc v14 h1) fun v15 =>
    Vb (ixs 2 v15 v9) fun v17 =>
    Vb (fa 1 v17) fun v18 =>
    Vb (ldc v18 h1) fun v19 =>
    R (.tuple #[v19, (Value.bool true)]) h1) (
    Vb (nck s0) fun v21 =>
    Vb (fa 0 v21) fun v22 =>
    Vb (ldc v22 h1) fun v23 =>
    Vb (lkm (.int .i64) (Value.agg #[Value.int IntKind.i64 0, Value.int IntKind.u32 0, Value.int IntKind.u32 0]) false v23 at1 h1) fun v25 =>
    Vb (fdc 0 v25) fun v26 =>
    R (.tuple #[v26, (Value.bool false)]) h1)

def F_simulcastref37_Get (S : Sys) (I : Ids) (l0 k1 : Value) (h : Hp) (R : Value → Hp → Prop) : Prop :=
  S.C I.f_simulcastref37_find [l0, k1] h fun v9 h1 =>
  Jn1 (fun v22 h2 =>
      Br v22 (
        Vb (ixs 2 l0 v9) fun v25 =>
        Vb (fa 1 v25) fun v26 =>
        Vb (ldc v26 h2) fun v27 =>
        R (.tuple #[v27, (Value.bool true)]) h2) (
        R (.tuple #[(Value.int IntKind.i64 0), (Value.bool false)]) h2)) fun J0 =>
  Vb (lnS l0) fun v12 =>
  Vb (bin .lss v9 v12) fun v13 =>
  Br v13 (
    Vb (ixs 2 l0 v9) fun v17 =>
    Vb (fa 0 v17) fun v18 =>
    Vb (ldc v18 h1) fun v19 =>
    Vb (bin .eql v19 k1) fun v21 =>
    J0 v21 h1) (
    J0 (Value.bool false) h1)

def F_simulcastref37_Drop (S : Sys) (I : Ids) (l0 k1 : Value) (h : Hp) (R : Value → Hp → Prop) : Prop :=
  Lp2 (Value.slice none 0 0) (Value.int IntKind.i64 0) h fun out5 i6 h1 again0 =>
  Vb (lnS l0) fun v9 =>
  Vb (bin .lss i6 v9) fun v10 =>
  Br v10 (
    Jn1 (fun out5_1 h2 =>
        Vb (bin .add i6 (Value.int IntKind.i64 1)) fun v12 =>
        again0 out5_1 v12 h2) fun J0 =>
    Vb (ixs 2 l0 i6) fun v15 =>
    Vb (fa 0 v15) fun v16 =>
    Vb (ldc v16 h1) fun v17 =>
    Vb (bin .neq v17 k1) fun v19 =>
    Br v19 (
      Vb (ixs 2 l0 i6) fun v23 =>
      Vb (lda 2 v23 h1) fun v24 =>
      Eb (bsl #[Value.int IntKind.i64 0, Value.int IntKind.i64 0] 2 1 I.t_simulcastref37_Pair [(0, v24)] h1) fun v25 h3 =>
      Ap I.t_simulcastref37_Pair #[Value.int IntKind.i64 0, Value.int IntKind.i64 0] 2 16 out5 v25 h3 fun v26 h4 =>
      J0 v26 h4) (
      J0 out5 h1)) (
    R out5 h1)

def F_simulcastref37_Range (S : Sys) (I : Ids) (l0 from1 to2 : Value) (h : Hp) (R : Value → Hp → Prop) : Prop :=
  Lp3 (Value.int IntKind.i64 0) (Value.int IntKind.i64 0) (Value.int IntKind.i64 0) h fun sum8 n9 i10 h1 again0 =>
  Vb (lnS l0) fun v13 =>
  Vb (bin .lss i10 v13) fun v14 =>
  Br v14 (
    Jn2 (fun sum8_1 n9_1 h2 =>
        Vb (bin .add i10 (Value.int IntKind.i64 1)) fun v16 =>
        again0 sum8_1 n9_1 v16 h2) fun J0 =>
    Jn1 (fun v32 h3 =>
        Br v32 (
          Vb (ixs 2 l0 i10) fun v36 =>
          Vb (fa 1 v36) fun v37 =>
          Vb (ldc v37 h3) fun v38 =>
          Vb (bin .add sum8 v38) fun v39 =>
          Vb (bin .add n9 (Value.int IntKind.i64 1)) fun v41 =>
          J0 v39 v41 h3) (
          J0 sum8 n9 h3)) fun J1 =>
    Vb (ixs 2 l0 i10) fun v19 =>
    Vb (fa 0 v19) fun v20 =>
    Vb (ldc v20 h1) fun v21 =>
    Vb (bin .geq v21 from1) fun v23 =>
    Br v23 (
      Vb (ixs 2 l0 i10) fun v27 =>
      Vb (fa 0 v27) fun v28 =>
      Vb (ldc v28 h1) fun v29 =>
      Vb (bin .leq v29 to2) fun v31 =>
      J1 v31 h1) (
      J1 (Value.bool false) h1)) (
    R (.tuple #[sum8, n9]) h1)

def F_simulcastref37_Next (S : Sys) (I : Ids) (l0 k1 : Value) (h : Hp) (R : Value → Hp → Prop) : Prop :=
  S.C I.f_simulcastref37_find [l0, k1] h fun v9 h1 =>
  Vb (lnS l0) fun v12 =>
  Vb (bin .lss v9 v12) fun v13 =>
  Br v13 (
    Vb (ixs 2 l0 v9) fun v16 =>
    Vb (fa 0 v16) fun v17 =>
    Vb (ldc v17 h1) fun v18 =>
    R (.tuple #[v18, (Value.bool true)]) h1) (
    R (.tuple #[(Value.int IntKind.i64 0), (Value.bool false)]) h1)

def F_simulcastref37_Nth (S : Sys) (I : Ids) (l0 n1 : Value) (h : Hp) (R : Value → Hp → Prop) : Prop :=
  Jn1 (fun v13 h1 =>
      Br v13 (
        R (.tuple #[(Value.int IntKind.i64 0), (Value.bool false)]) h1) (
        Vb (ixs 2 l0 n1) fun v16 =>
        Vb (fa 0 v16) fun v17 =>
        Vb (ldc v17 h1) fun v18 =>
        R (.tuple #[v18, (Value.bool true)]) h1)) fun J0 =>
  Vb (bin .lss n1 (Value.int IntKind.i64 0)) fun v7 =>
  Br v7 (
    J0 (Value.bool true) h) (
    Vb (lnS l0) fun v11 =>
    Vb (bin .geq n1 v11) fun v12 =>
    J0 v12 h)

def F_simulcastref37_Put (S : Sys) (I : Ids) (l0 k1 v2 : Value) (h : Hp) (R : Value → Hp → Prop) : Prop :=
  S.C I.f_simulcastref37_find [l0, k1] h fun v11 h1 =>
  Eb (bsl #[Value.int IntKind.i64 0, Value.int IntKind.i64 0] 2 0 I.t_simulcastref37_Pair [] h1) fun v12 h2 =>
  Vb (slc 2 l0 none (some v11) none) fun v15 =>
  Ap I.t_simulcastref37_Pair #[Value.int IntKind.i64 0, Value.int IntKind.i64 0] 2 16 v12 v15 h2 fun v16 h3 =>
  Vb (bldS [(0, 1), (1, 1)] #[Value.int IntKind.i64 0, Value.int IntKind.i64 0] [(0, k1), (1, v2)]) fun v20 =>
  Eb (bsl #[Value.int IntKind.i64 0, Value.int IntKind.i64 0] 2 1 I.t_simulcastref37_Pair [(0, v20)] h3) fun v21 h4 =>
  Ap I.t_simulcastref37_Pair #[Value.int IntKind.i64 0, Value.int IntKind.i64 0] 2 16 v16 v21 h4 fun v22 h5 =>
  Jn1 (fun i7 h6 =>
      Vb (slc 2 l0 (some i7) none none) fun v41 =>
      Ap I.t_simulcastref37_Pair #[Value.int IntKind.i64 0, Value.int IntKind.i64 0] 2 16 v22 v41 h6 fun v42 h7 =>
      R v42 h7) fun J0 =>
  Jn1 (fun v35 h8 =>
      Br v35 (
        Vb (bin .add v11 (Value.int IntKind.i64 1)) fun v37 =>
        J0 v37 h8) (
        J0 v11 h8)) fun J1 =>
  Vb (lnS l0) fun v25 =>
  Vb (bin .lss v11 v25) fun v26 =>
  Br v26 (
    Vb (ixs 2 l0 v11) fun v30 =>
    Vb (fa 0 v30) fun v31 =>
    Vb (ldc v31 h5) fun v32 =>
    Vb (bin .eql v32 k1) fun v34 =>
    J1 v34 h5) (
    J1 (Value.bool false) h5)

def F_simulcastref37_Top (S : Sys) (I : Ids) (l0 : Value) (h : Hp) (R : Value → Hp → Prop) : Prop :=
  Lp2 (Value.int IntKind.i64 (-1)) (Value.int IntKind.i64 0) h fun at3 i4 h1 again0 =>
  Vb (lnS l0) fun v7 =>
  Vb (bin .lss i4 v7) fun v8 =>
  Br v8 (
    Jn1 (fun at3_1 h2 =>
        Vb (bin .add i4 (Value.int IntKind.i64 1)) fun v10 =>
        again0 at3_1 v10 h2) fun J0 =>
    Jn1 (fun v27 h3 =>
        Br v27 (
          J0 i4 h3) (
          J0 at3 h3)) fun J1 =>
    Vb (bin .lss at3 (Value.int IntKind.i64 0)) fun v12 =>
    Br v12 (
      J1 (Value.bool true) h1) (
      Vb (ixs 2 l0 i4) fun v16 =>
      Vb (fa 0 v16) fun v17 =>
      Vb (ldc v17 h1) fun v18 =>
      Vb (ixs 2 l0 at3) fun v22 =>
      Vb (fa 0 v22) fun v23 =>
      Vb (ldc v23 h1) fun v24 =>
      S.C I.f_simulcastref37_Rank [v18] h1 fun v19 h4 =>
      ldc v23 h4 = some v24 ∧
      S.C I.f_simulcastref37_Rank [v24] h4 fun v25 h5 =>
      Vb (bin .gtr v19 v25) fun v26 =>
      J1 v26 h5)) (
    R at3 h1)

def F_tree_undo (S : Sys) (I : Ids) (s0 mark1 e2 : Value) (h : Hp) (R : Value → Hp → Prop) : Prop :=
  Vb (nck e2) fun v7 =>
  Vb (ldc v7 h) fun v8 =>
  Vb (bin .neq v8 (Value.int IntKind.i64 0)) fun v9 =>
  Br v9 (
    S.C I.f_space_Space_Back [s0, mark1] h fun v12 h1 =>
    R (.tuple #[]) h1) (
    R (.tuple #[]) h)

def F_tree_Tree_work (S : Sys) (I : Ids) (t0 s1 : Value) (h : Hp) (R : Value → Hp → Prop) : Prop :=
  Eb (nw (Value.cells t0) I.t_tree_Tree h) fun t2 h1 =>
  Vb (lda 4 t2 h1) fun v5 =>
  Vb (fa 0 t2) fun v7 =>
  Vb (fa 2 v7) fun v8 =>
  Vb (ldc v8 h1) fun v9 =>
  Vb (bin .add v9 (Value.int IntKind.i64 1)) fun v10 =>
  Vb (bin .mul (Value.int IntKind.i64 64) v10) fun v11 =>
  Vb (bldS [(0, 4), (4, 1), (5, 1), (6, 1)] #[Value.int IntKind.i64 0, Value.int IntKind.i64 0, Value.int IntKind.i64 0, Value.int IntKind.i64 0, Value.pointer none, Value.bool false, Value.int IntKind.i64 0] [(0, v5), (1, s1), (3, v11)]) fun v12 =>
  Eb (nw (Value.cells v12) I.t_tree_work h1) fun v13 h2 =>
  R v13 h2

def F_tree_work_path (S : Sys) (I : Ids) (w0 k1 : Value) (h : Hp) (R : Value → Hp → Prop) : Prop :=
  Eb (nw #[Value.slice none 0 0] I.t_s_tree_step h) fun out6 h1 =>
  S.C I.f_tree_work_way [w0, k1] h1 fun v10 h2 =>
  Rg S.C S.Y v10 h2 (fun l0 as0 h3 R0 =>
      A1 as0 fun v11 =>
      Eb (nw #[Value.int IntKind.i64 0, Value.int IntKind.i64 0] I.t_tree_step h3) fun x7 h4 =>
      Sb (sto 2 x7 v11 h4) fun h5 =>
      Sb (bgn l0 h5) fun h6 =>
      Vb (ldc out6 h6) fun v12 =>
      Vb (lda 2 x7 h6) fun v13 =>
      Eb (bsl #[Value.int IntKind.i64 0, Value.int IntKind.i64 0] 2 1 I.t_tree_step [(0, v13)] h6) fun v14 h7 =>
      Ap I.t_tree_step #[Value.int IntKind.i64 0, Value.int IntKind.i64 0] 2 16 v12 v14 h7 fun v15 h8 =>
      Sb (sto 1 out6 v15 h8) fun h9 =>
      Sb (fin l0 none h9) fun h10 =>
      R0 (.bool true) h10) fun j0 h11 =>
  Jp j0 (
    Jn2 (fun v4 v5 h12 =>
        Sb (tkd h2.size h12) fun h13 =>
        R (.tuple #[v4, v5]) h13) fun J0 =>
    Vb (ldc out6 h11) fun v16 =>
    Vb (ldc out6 h11) fun v17 =>
    Vb (lnS v17) fun v18 =>
    Vb (bin .gtr v18 (Value.int IntKind.i64 0)) fun v19 =>
    Br v19 (
      Vb (ldc out6 h11) fun v21 =>
      Vb (ldc out6 h11) fun v22 =>
      Vb (lnS v22) fun v23 =>
      Vb (bin .sub v23 (Value.int IntKind.i64 1)) fun v24 =>
      Vb (ixs 2 v21 v24) fun v25 =>
      Vb (fa 1 v25) fun v26 =>
      Vb (ldc v26 h11) fun v27 =>
      Vb (bin .eql v27 k1) fun v29 =>
      J0 v16 v29 h11) (
      J0 v16 (Value.bool false) h11)) (
    Sb (tkd h2.size h11) fun h14 =>
    R (.tuple #[(Value.slice none 0 0), (Value.bool false)]) h14) fun id0 =>
    Xb id0 0 (
    Jn2 (fun v4_1 v5_1 h15 =>
        Sb (tkd h2.size h15) fun h16 =>
        R (.tuple #[v4_1, v5_1]) h16) fun J1 =>
    Vb (ldc out6 h11) fun v16_1 =>
    Vb (ldc out6 h11) fun v17_1 =>
    Vb (lnS v17_1) fun v18_1 =>
    Vb (bin .gtr v18_1 (Value.int IntKind.i64 0)) fun v19_1 =>
    Br v19_1 (
      Vb (ldc out6 h11) fun v21_1 =>
      Vb (ldc out6 h11) fun v22_1 =>
      Vb (lnS v22_1) fun v23_1 =>
      Vb (bin .sub v23_1 (Value.int IntKind.i64 1)) fun v24_1 =>
      Vb (ixs 2 v21_1 v24_1) fun v25_1 =>
      Vb (fa 1 v25_1) fun v26_1 =>
      Vb (ldc v26_1 h11) fun v27_1 =>
      Vb (bin .eql v27_1 k1) fun v29_1 =>
      J1 v16_1 v29_1 h11) (
      J1 v16_1 (Value.bool false) h11)) (
    False)

def F_tree_work_get (S : Sys) (I : Ids) (w0 at1 cell2 : Value) (h : Hp) (R : Value → Hp → Prop) : Prop :=
  Vb (nck w0) fun v8 =>
  Vb (fa 4 v8) fun v9 =>
  Vb (ldc v9 h) fun v10 =>
  Vb (bin .add at1 cell2) fun v13 =>
  S.C I.f_space_Space_Get [v10, v13] h fun v14 h1 =>
  R v14 h1

def F_tree_work_hang (S : Sys) (I : Ids) (w0 l1 k2 at3 : Value) (h : Hp) (R : Value → Hp → Prop) : Prop :=
  Vb (lnS l1) fun v10 =>
  Vb (bin .eql v10 (Value.int IntKind.i64 0)) fun v11 =>
  Br v11 (
    Vb (nck w0) fun v13 =>
    Vb (fa 4 v13) fun v14 =>
    Vb (ldc v14 h) fun v15 =>
    Vb (nck w0) fun v17 =>
    Vb (fa 0 v17) fun v18 =>
    Vb (fa 3 v18) fun v19 =>
    Vb (ldc v19 h) fun v20 =>
    S.C I.f_space_Space_Put [v15, v20, at3] h fun v22 h1 =>
    R (.tuple #[]) h1) (
    Vb (lnS l1) fun v25 =>
    Vb (bin .sub v25 (Value.int IntKind.i64 1)) fun v26 =>
    Vb (ixs 2 l1 v26) fun v27 =>
    Vb (lda 2 v27 h) fun v28 =>
    Eb (nw #[Value.int IntKind.i64 0, Value.int IntKind.i64 0] I.t_tree_step h) fun last8 h2 =>
    Sb (sto 2 last8 v28 h2) fun h3 =>
    Vb (fa 0 last8) fun v30 =>
    Vb (ldc v30 h3) fun v31 =>
    Vb (fa 1 last8) fun v33 =>
    Vb (ldc v33 h3) fun v34 =>
    S.C I.f_tree_kid [k2, v34] h3 fun v35 h4 =>
    ldc v30 h4 = some v31 ∧
    S.C I.f_tree_work_put [w0, v31, v35, at3] h4 fun v37 h5 =>
    R (.tuple #[]) h5)

def F_tree_work_merge (S : Sys) (I : Ids) (w0 a1 b2 : Value) (h : Hp) (R : Value → Hp → Prop) : Prop :=
  S.C I.f_tree_work_is [w0, a1] h fun v10 h1 =>
  Vb (uno .not v10) fun v11 =>
  Br v11 (
    R b2 h1) (
    S.C I.f_tree_work_is [w0, b2] h1 fun v16 h2 =>
    Vb (uno .not v16) fun v17 =>
    Br v17 (
      R a1 h2) (
      S.C I.f_tree_work_get [w0, a1, (Value.int IntKind.i64 0)] h2 fun v22 h3 =>
      S.C I.f_tree_rank [v22] h3 fun v23 h4 =>
      S.C I.f_tree_work_get [w0, b2, (Value.int IntKind.i64 0)] h4 fun v26 h5 =>
      S.C I.f_tree_rank [v26] h5 fun v27 h6 =>
      Vb (bin .gtr v23 v27) fun v28 =>
      Br v28 (
        S.C I.f_tree_work_get [w0, a1, (Value.int IntKind.i64 3)] h6 fun v34 h7 =>
        S.C I.f_tree_work_merge [w0, v34, b2] h7 fun v36 h8 =>
        S.C I.f_tree_work_put [w0, a1, (Value.int IntKind.i64 3), v36] h8 fun v37 h9 =>
        S.C I.f_tree_work_refresh [w0, a1] h9 fun v40 h10 =>
        R a1 h10) (
        S.C I.f_tree_work_get [w0, b2, (Value.int IntKind.i64 2)] h6 fun v48 h11 =>
        S.C I.f_tree_work_merge [w0, a1, v48] h11 fun v49 h12 =>
        S.C I.f_tree_work_put [w0, b2, (Value.int IntKind.i64 2), v49] h12 fun v50 h13 =>
        S.C I.f_tree_work_refresh [w0, b2] h13 fun v53 h14 =>
        R b2 h14)))

def F_tree_work_add (S : Sys) (I : Ids) (w0 l1 n2 v3 : Value) (h : Hp) (R : Value → Hp → Prop) : Prop :=
  Vb (lnS l1) fun v11 =>
  Lp1 (Value.int IntKind.i64 0) h fun v12 h1 again0 =>
  Vb (bin .lss v12 v11) fun v13 =>
  Br v13 (
    Jn0 (fun h2 =>
        Vb (bin .add v12 (Value.int IntKind.i64 1)) fun v40 =>
        again0 v40 h2) fun J0 =>
    Vb (ixs 2 l1 v12) fun v14 =>
    Vb (lda 2 v14 h1) fun v15 =>
    Eb (nw #[Value.int IntKind.i64 0, Value.int IntKind.i64 0] I.t_tree_step h1) fun x9 h3 =>
    Sb (sto 2 x9 v15 h3) fun h4 =>
    Jn0 (fun h5 =>
        Vb (bin .neq v3 (Value.int IntKind.i64 0)) fun v29 =>
        Br v29 (
          Vb (fa 0 x9) fun v31 =>
          Vb (ldc v31 h5) fun v32 =>
          Vb (fa 0 x9) fun v34 =>
          Vb (ldc v34 h5) fun v35 =>
          S.C I.f_tree_work_get [w0, v35, (Value.int IntKind.i64 5)] h5 fun v36 h6 =>
          ldc v31 h6 = some v32 ∧
          Vb (bin .add v36 v3) fun v38 =>
          S.C I.f_tree_work_put [w0, v32, (Value.int IntKind.i64 5), v38] h6 fun v39 h7 =>
          J0 h7) (
          J0 h5)) fun J1 =>
    Vb (bin .neq n2 (Value.int IntKind.i64 0)) fun v17 =>
    Br v17 (
      Vb (fa 0 x9) fun v19 =>
      Vb (ldc v19 h4) fun v20 =>
      Vb (fa 0 x9) fun v22 =>
      Vb (ldc v22 h4) fun v23 =>
      S.C I.f_tree_work_get [w0, v23, (Value.int IntKind.i64 4)] h4 fun v24 h8 =>
      ldc v19 h8 = some v20 ∧
      Vb (bin .add v24 n2) fun v26 =>
      S.C I.f_tree_work_put [w0, v20, (Value.int IntKind.i64 4), v26] h8 fun v27 h9 =>
      J1 h9) (
      J1 h4)) (
    R (.tuple #[]) h1)

def F_tree_work_way (S : Sys) (I : Ids) (w0 k1 : Value) (h : Hp) (R : Value → Hp → Prop) : Prop :=
  Eb (nw (Value.cells w0) I.t_p_tree_work h) fun w2 h1 =>
  Eb (nw (Value.cells k1) I.t_int64 h1) fun k3 h2 =>
  Vb (some (.func (.func I.f_tree_work_way_1) #[] #[w2, k3])) fun v5 =>
  R v5 h2

def F_tree_Tree_between (S : Sys) (I : Ids) (t0 s1 from2 to3 cell4 own5 : Value) (h : Hp) (R : Value → Hp → Prop) : Prop :=
  Eb (nw (Value.cells t0) I.t_tree_Tree h) fun t6 h1 =>
  Vb (bin .gtr from2 to3) fun v15 =>
  Br v15 (
    R (Value.int IntKind.i64 0) h1) (
    Vb (lda 4 t6 h1) fun v16 =>
    Vb (lda 4 t6 h1) fun v22 =>
    S.C I.f_tree_Tree_until [v16, s1, to3, (Value.bool true), cell4, own5] h1 fun v21 h2 =>
    lda 4 t6 h2 = some v22 ∧
    S.C I.f_tree_Tree_until [v22, s1, from2, (Value.bool false), cell4, own5] h2 fun v27 h3 =>
    Vb (bin .sub v21 v27) fun v28 =>
    R v28 h3)

def F_tree_Tree_Sum_1 (S : Sys) (I : Ids) (w0 at1 : Value) (h : Hp) (R : Value → Hp → Prop) : Prop :=
  S.C I.f_tree_work_get [w0, at1, (Value.int IntKind.i64 1)] h fun v7 h1 =>
  R v7 h1

def F_tree_Tree_Count_1 (S : Sys) (I : Ids) (v0 v1 : Value) (h : Hp) (R : Value → Hp → Prop) : Prop :=
  R (Value.int IntKind.i64 1) h

def F_tree_work_is (S : Sys) (I : Ids) (w0 at1 : Value) (h : Hp) (R : Value → Hp → Prop) : Prop :=
  Jn1 (fun v14 h1 =>
      Br v14 (
        R (Value.bool false) h1) (
        Vb (nck w0) fun v17 =>
        Vb (fa 0 v17) fun v18 =>
        Vb (fa 0 v18) fun v19 =>
        Vb (lda 3 v19 h1) fun v20 =>
        S.C I.f_pool_Pool_Node [v20, at1] h1 fun v22 h2 =>
        Vb (ext 0 v22) fun v23 =>
        Vb (ext 1 v22) fun v24 =>
        Vb (nck w0) fun v26 =>
        Vb (fa 6 v26) fun v27 =>
        Vb (ldc v27 h2) fun v28 =>
        Vb (bin .sub v28 (Value.int IntKind.i64 1)) fun v29 =>
        Vb (nck w0) fun v30 =>
        Vb (fa 6 v30) fun v31 =>
        Sb (sto 1 v31 v29 h2) fun h3 =>
        Jn0 (fun h4 =>
            Vb (nck w0) fun v45 =>
            Vb (fa 5 v45) fun v46 =>
            Vb (ldc v46 h4) fun v47 =>
            Vb (uno .not v47) fun v48 =>
            R v48 h4) fun J1 =>
        Vb (uno .not v24) fun v34 =>
        Br v34 (
          Vb (nck w0) fun v42 =>
          Vb (fa 5 v42) fun v43 =>
          Sb (sto 1 v43 (Value.bool true) h3) fun h5 =>
          J1 h5) (
          Vb (nck w0) fun v37 =>
          Vb (fa 6 v37) fun v38 =>
          Vb (ldc v38 h3) fun v39 =>
          Vb (bin .lss v39 (Value.int IntKind.i64 0)) fun v40 =>
          Vb (nck w0) fun v42_1 =>
          Vb (fa 5 v42_1) fun v43_1 =>
          Sb (sto 1 v43_1 v40 h3) fun h6 =>
          J1 h6))) fun J0 =>
  Vb (bin .eql at1 (Value.int IntKind.i64 0)) fun v8 =>
  Br v8 (
    J0 (Value.bool true) h) (
    Vb (nck w0) fun v11 =>
    Vb (fa 5 v11) fun v12 =>
    Vb (ldc v12 h) fun v13 =>
    J0 v13 h)

def F_tree_work_of (S : Sys) (I : Ids) (w0 at1 cell2 : Value) (h : Hp) (R : Value → Hp → Prop) : Prop :=
  S.C I.f_tree_work_is [w0, at1] h fun v9 h1 =>
  Vb (uno .not v9) fun v10 =>
  Br v10 (
    R (Value.int IntKind.i64 0) h1) (
    S.C I.f_tree_work_get [w0, at1, cell2] h1 fun v14 h2 =>
    R v14 h2)

def F_tree_work_put (S : Sys) (I : Ids) (w0 at1 cell2 v3 : Value) (h : Hp) (R : Value → Hp → Prop) : Prop :=
  Vb (nck w0) fun v9 =>
  Vb (fa 4 v9) fun v10 =>
  Vb (ldc v10 h) fun v11 =>
  Vb (bin .add at1 cell2) fun v14 =>
  S.C I.f_space_Space_Put [v11, v14, v3] h fun v16 h1 =>
  R (.tuple #[]) h1

def F_tree_rank (S : Sys) (I : Ids) (k0 : Value) (h : Hp) (R : Value → Hp → Prop) : Prop :=
  Vb (cvi .u64 k0) fun v5 =>
  Vb (bin .shr v5 (Value.int IntKind.u64 33)) fun v8 =>
  Vb (bin .xor v5 v8) fun v9 =>
  Vb (bin .mul v9 (Value.int IntKind.u64 18397679294719823053)) fun v11 =>
  Vb (bin .shr v11 (Value.int IntKind.u64 33)) fun v14 =>
  Vb (bin .xor v11 v14) fun v15 =>
  R v15 h

def F_tree_work_split (S : Sys) (I : Ids) (w0 at1 k2 : Value) (h : Hp) (R : Value → Hp → Prop) : Prop :=
  S.C I.f_tree_work_is [w0, at1] h fun v14 h1 =>
  Vb (uno .not v14) fun v15 =>
  Br v15 (
    R (.tuple #[(Value.int IntKind.i64 0), (Value.int IntKind.i64 0)]) h1) (
    S.C I.f_tree_work_get [w0, at1, (Value.int IntKind.i64 0)] h1 fun v18 h2 =>
    Vb (bin .lss v18 k2) fun v20 =>
    Br v20 (
      S.C I.f_tree_work_get [w0, at1, (Value.int IntKind.i64 3)] h2 fun v25 h3 =>
      S.C I.f_tree_work_split [w0, v25, k2] h3 fun v27 h4 =>
      Vb (ext 0 v27) fun v28 =>
      Vb (ext 1 v27) fun v29 =>
      S.C I.f_tree_work_put [w0, at1, (Value.int IntKind.i64 3), v28] h4 fun v33 h5 =>
      S.C I.f_tree_work_refresh [w0, at1] h5 fun v36 h6 =>
      R (.tuple #[at1, v29]) h6) (
      S.C I.f_tree_work_get [w0, at1, (Value.int IntKind.i64 2)] h2 fun v43 h7 =>
      S.C I.f_tree_work_split [w0, v43, k2] h7 fun v45 h8 =>
      Vb (ext 0 v45) fun v46 =>
      Vb (ext 1 v45) fun v47 =>
      S.C I.f_tree_work_put [w0, at1, (Value.int IntKind.i64 2), v47] h8 fun v51 h9 =>
      S.C I.f_tree_work_refresh [w0, at1] h9 fun v54 h10 =>
      R (.tuple #[v46, at1]) h10))

def F_tree_work_refresh (S : Sys) (I : Ids) (w0 at1 : Value) (h : Hp) (R : Value → Hp → Prop) : Prop :=
  S.C I.f_tree_work_get [w0, at1, (Value.int IntKind.i64 2)] h fun v8 h1 =>
  S.C I.f_tree_work_get [w0, at1, (Value.int IntKind.i64 3)] h1 fun v11 h2 =>
  S.C I.f_tree_work_of [w0, v8, (Value.int IntKind.i64 4)] h2 fun v16 h3 =>
  Vb (bin .add (Value.int IntKind.i64 1) v16) fun v17 =>
  S.C I.f_tree_work_of [w0, v11, (Value.int IntKind.i64 4)] h3 fun v20 h4 =>
  Vb (bin .add v17 v20) fun v21 =>
  S.C I.f_tree_work_put [w0, at1, (Value.int IntKind.i64 4), v21] h4 fun v22 h5 =>
  S.C I.f_tree_work_get [w0, at1, (Value.int IntKind.i64 1)] h5 fun v27 h6 =>
  S.C I.f_tree_work_of [w0, v8, (Value.int IntKind.i64 5)] h6 fun v30 h7 =>
  Vb (bin .add v27 v30) fun v31 =>
  S.C I.f_tree_work_of [w0, v11, (Value.int IntKind.i64 5)] h7 fun v34 h8 =>
  Vb (bin .add v31 v34) fun v35 =>
  S.C I.f_tree_work_put [w0, at1, (Value.int IntKind.i64 5), v35] h8 fun v36 h9 =>
  R (.tuple #[]) h9

def F_tree_walker_below (S : Sys) (I : Ids) (x0 at1 : Value) (h : Hp) (R : Value → Hp → Prop) : Prop :=
  Jn1 (fun v19 h1 =>
      Br v19 (
        R (.tuple #[(Value.int IntKind.i64 0), (Value.int IntKind.i64 0)]) h1) (
        Vb (nck x0) fun v21 =>
        Vb (fa 0 v21) fun v22 =>
        Vb (ldc v22 h1) fun v23 =>
        S.C I.f_tree_work_is [v23, at1] h1 fun v25 h2 =>
        Vb (uno .not v25) fun v26 =>
        Br v26 (
          Vb (nck x0) fun v28 =>
          Vb (fa 3 v28) fun v29 =>
          Sb (sto 1 v29 (Value.bool true) h2) fun h3 =>
          R (.tuple #[(Value.int IntKind.i64 0), (Value.int IntKind.i64 0)]) h3) (
          Vb (nck x0) fun v33 =>
          Vb (fa 0 v33) fun v34 =>
          Vb (ldc v34 h2) fun v35 =>
          S.C I.f_tree_work_get [v35, at1, (Value.int IntKind.i64 2)] h2 fun v37 h4 =>
          S.C I.f_tree_walker_below [x0, v37] h4 fun v38 h5 =>
          Vb (ext 0 v38) fun v39 =>
          Vb (ext 1 v38) fun v40 =>
          Vb (nck x0) fun v42 =>
          Vb (fa 0 v42) fun v43 =>
          Vb (ldc v43 h5) fun v44 =>
          S.C I.f_tree_work_get [v44, at1, (Value.int IntKind.i64 0)] h5 fun v46 h6 =>
          Vb (nck x0) fun v48 =>
          Vb (fa 1 v48) fun v49 =>
          Vb (ldc v49 h6) fun v50 =>
          Vb (lnS v50) fun v51 =>
          Jn1 (fun v84 h7 =>
              Br v84 (
                Vb (nck x0) fun v86 =>
                Vb (fa 3 v86) fun v87 =>
                Sb (sto 1 v87 (Value.bool true) h7) fun h8 =>
                R (.tuple #[(Value.int IntKind.i64 0), (Value.int IntKind.i64 0)]) h8) (
                Vb (nck x0) fun v91 =>
                Vb (fa 1 v91) fun v92 =>
                Vb (ldc v92 h7) fun v93 =>
                Vb (nck x0) fun v98 =>
                Vb (fa 2 v98) fun v99 =>
                Vb (ldc v99 h7) fun v100 =>
                Vb (nck x0) fun v102 =>
                Vb (fa 0 v102) fun v103 =>
                Vb (ldc v103 h7) fun v104 =>
                Eb (bsl #[Value.int IntKind.i64 0] 1 1 I.t_int64 [(0, v46)] h7) fun v95 h9 =>
                ldc v103 h9 = some v104 ∧
                ldc v99 h9 = some v100 ∧
                ldc v92 h9 = some v93 ∧
                Ap I.t_int64 #[Value.int IntKind.i64 0] 1 8 v93 v95 h9 fun v96 h10 =>
                ldc v103 h10 = some v104 ∧
                ldc v99 h10 = some v100 ∧
                S.C I.f_tree_work_get [v104, at1, (Value.int IntKind.i64 1)] h10 fun v106 h11 =>
                ldc v99 h11 = some v100 ∧
                Eb (bsl #[Value.int IntKind.i64 0] 1 1 I.t_int64 [(0, v106)] h11) fun v107 h12 =>
                ldc v99 h12 = some v100 ∧
                Ap I.t_int64 #[Value.int IntKind.i64 0] 1 8 v100 v107 h12 fun v108 h13 =>
                Vb (nck x0) fun v109 =>
                Vb (fa 1 v109) fun v110 =>
                Sb (sto 1 v110 v96 h13) fun h14 =>
                Vb (nck x0) fun v111 =>
                Vb (fa 2 v111) fun v112 =>
                Sb (sto 1 v112 v108 h14) fun h15 =>
                Vb (nck x0) fun v116 =>
                Vb (fa 0 v116) fun v117 =>
                Vb (ldc v117 h15) fun v118 =>
                S.C I.f_tree_work_get [v118, at1, (Value.int IntKind.i64 3)] h15 fun v120 h16 =>
                S.C I.f_tree_walker_below [x0, v120] h16 fun v121 h17 =>
                Vb (ext 0 v121) fun v122 =>
                Vb (ext 1 v121) fun v123 =>
                Vb (bin .add v39 v122) fun v126 =>
                Vb (bin .add v126 (Value.int IntKind.i64 1)) fun v127 =>
                Vb (bin .add v40 v123) fun v130 =>
                Vb (nck x0) fun v132 =>
                Vb (fa 0 v132) fun v133 =>
                Vb (ldc v133 h17) fun v134 =>
                S.C I.f_tree_work_get [v134, at1, (Value.int IntKind.i64 1)] h17 fun v136 h18 =>
                Vb (bin .add v130 v136) fun v137 =>
                Jn0 (fun h19 =>
                    R (.tuple #[v127, v137]) h19) fun J2 =>
                Vb (nck x0) fun v140 =>
                Vb (fa 3 v140) fun v141 =>
                Vb (ldc v141 h18) fun v142 =>
                Br v142 (
                  Vb (nck x0) fun v163 =>
                  Vb (fa 3 v163) fun v164 =>
                  Sb (sto 1 v164 (Value.bool true) h18) fun h20 =>
                  J2 h20) (
                  Vb (nck x0) fun v145 =>
                  Vb (fa 0 v145) fun v146 =>
                  Vb (ldc v146 h18) fun v147 =>
                  S.C I.f_tree_work_get [v147, at1, (Value.int IntKind.i64 4)] h18 fun v149 h21 =>
                  Vb (bin .neq v149 v127) fun v151 =>
                  Br v151 (
                    Vb (nck x0) fun v163_1 =>
                    Vb (fa 3 v163_1) fun v164_1 =>
                    Sb (sto 1 v164_1 (Value.bool true) h21) fun h22 =>
                    J2 h22) (
                    Vb (nck x0) fun v155 =>
                    Vb (fa 0 v155) fun v156 =>
                    Vb (ldc v156 h21) fun v157 =>
                    S.C I.f_tree_work_get [v157, at1, (Value.int IntKind.i64 5)] h21 fun v159 h23 =>
                    Vb (bin .neq v159 v137) fun v161 =>
                    Vb (nck x0) fun v163_2 =>
                    Vb (fa 3 v163_2) fun v164_2 =>
                    Sb (sto 1 v164_2 v161 h23) fun h24 =>
                    J2 h24)))) fun J1 =>
          Vb (nck x0) fun v53 =>
          Vb (fa 3 v53) fun v54 =>
          Vb (ldc v54 h6) fun v55 =>
          Br v55 (
            J1 (Value.bool true) h6) (
            Vb (nck x0) fun v59 =>
            Vb (fa 0 v59) fun v60 =>
            Vb (ldc v60 h6) fun v61 =>
            Vb (nck v61) fun v62 =>
            Vb (fa 0 v62) fun v63 =>
            Vb (fa 0 v63) fun v64 =>
            Vb (fa 2 v64) fun v65 =>
            Vb (ldc v65 h6) fun v66 =>
            Vb (bin .geq v51 v66) fun v67 =>
            Br v67 (
              J1 (Value.bool true) h6) (
              Vb (bin .gtr v51 (Value.int IntKind.i64 0)) fun v71 =>
              Br v71 (
                Vb (nck x0) fun v74 =>
                Vb (fa 1 v74) fun v75 =>
                Vb (ldc v75 h6) fun v76 =>
                Vb (bin .sub v51 (Value.int IntKind.i64 1)) fun v78 =>
                Vb (ixs 1 v76 v78) fun v79 =>
                Vb (ldc v79 h6) fun v80 =>
                Vb (bin .geq v80 v46) fun v82 =>
                J1 v82 h6) (
                J1 (Value.bool false) h6)))))) fun J0 =>
  Vb (bin .eql at1 (Value.int IntKind.i64 0)) fun v13 =>
  Br v13 (
    J0 (Value.bool true) h) (
    Vb (nck x0) fun v16 =>
    Vb (fa 3 v16) fun v17 =>
    Vb (ldc v17 h) fun v18 =>
    J0 v18 h)

def F_slices_Sort_api_Loc_api_Loc (S : Sys) (I : Ids) (x0 : Value) (h : Hp) (R : Value → Hp → Prop) : Prop :=
  Vb (lnS x0) fun v4 =>
  Vb (cvi .u64 v4) fun v8 =>
  S.C I.f_math_bits_Len [v8] h fun v9 h1 =>
  S.C I.f_slices_pdqsortOrdered_api_Loc [x0, (Value.int IntKind.i64 0), v4, v9] h1 fun v10 h2 =>
  R (.tuple #[]) h2

def F_slices_Compact_api_Loc_api_Loc (S : Sys) (I : Ids) (s0 : Value) (h : Hp) (R : Value → Hp → Prop) : Prop :=
  Vb (lnS s0) fun v7 =>
  Vb (bin .lss v7 (Value.int IntKind.i64 2)) fun v8 =>
  Br v8 (
    R s0 h) (
    Lp1 (Value.int IntKind.i64 1) h fun k3 h1 again0 =>
    Vb (lnS s0) fun v12 =>
    Vb (bin .lss k3 v12) fun v13 =>
    Br v13 (
      Vb (ixs 1 s0 k3) fun v18 =>
      Vb (ldc v18 h1) fun v19 =>
      Vb (bin .sub k3 (Value.int IntKind.i64 1)) fun v22 =>
      Vb (ixs 1 s0 v22) fun v23 =>
      Vb (ldc v23 h1) fun v24 =>
      Vb (bin .eql v19 v24) fun v25 =>
      Br v25 (
        Vb (slc 1 s0 (some k3) none none) fun v28 =>
        Lp2 k3 (Value.int IntKind.i64 1) h1 fun k3_1 k25 h2 again1 =>
        Vb (lnS v28) fun v31 =>
        Vb (bin .lss k25 v31) fun v32 =>
        Br v32 (
          Jn1 (fun k3_2 h3 =>
              Vb (bin .add k25 (Value.int IntKind.i64 1)) fun v34 =>
              again1 k3_2 v34 h3) fun J0 =>
          Vb (ixs 1 v28 k25) fun v37 =>
          Vb (ldc v37 h2) fun v38 =>
          Vb (bin .sub k25 (Value.int IntKind.i64 1)) fun v41 =>
          Vb (ixs 1 v28 v41) fun v42 =>
          Vb (ldc v42 h2) fun v43 =>
          Vb (bin .neq v38 v43) fun v44 =>
          Br v44 (
            Vb (ixs 1 v28 k25) fun v49 =>
            Vb (ldc v49 h2) fun v50 =>
            Vb (ixs 1 s0 k3_1) fun v51 =>
            Sb (sto 1 v51 v50 h2) fun h4 =>
            Vb (bin .add k3_1 (Value.int IntKind.i64 1)) fun v53 =>
            J0 v53 h4) (
            J0 k3_1 h2)) (
          Vb (slc 1 s0 (some k3_1) none none) fun v56 =>
          Eb (clrS #[Value.int IntKind.i64 0] v56 h2) fun _ h5 =>
          Vb (slc 1 s0 none (some k3_1) none) fun v59 =>
          R v59 h5)) (
        Vb (bin .add k3 (Value.int IntKind.i64 1)) fun v15 =>
        again0 v15 h1)) (
      R s0 h1))

def F_space_Space_Reads (S : Sys) (I : Ids) (s0 : Value) (h : Hp) (R : Value → Hp → Prop) : Prop :=
  Vb (pos? (eqP s0 (Value.pointer none))) fun v6 =>
  Br v6 (
    R (Value.slice none 0 0) h) (
    Vb (nck s0) fun v9 =>
    Vb (fa 1 v9) fun v10 =>
    Vb (ldc v10 h) fun v11 =>
    Eb (rng v11 h) fun v12 h1 =>
    Lp1 (Value.slice none 0 0) h1 fun out3 h2 again0 =>
    Nx v12 h2 fun v13 h3 =>
    Vb (ext 0 v13) fun v14 =>
    Br v14 (
      Vb (ent v12 h3) fun v15 =>
      Vb (ext 0 v15) fun v16 =>
      Eb (bsl #[Value.int IntKind.i64 0] 1 1 I.t_api_Loc [(0, v16)] h3) fun v19 h4 =>
      Ap I.t_api_Loc #[Value.int IntKind.i64 0] 1 8 out3 v19 h4 fun v20 h5 =>
      again0 v20 h5) (
      S.C I.f_slices_Sort_api_Loc_api_Loc [out3] h3 fun v22 h6 =>
      R out3 h6))

def F_graph_Graph_through_1 (S : Sys) (I : Ids) (yield0 v1 v2 v3 v4 : Value) (h : Hp) (R : Value → Hp → Prop) : Prop :=
  Vb (ldc v1 h) fun v8 =>
  Vb (fa 0 v2) fun v9 =>
  Vb (ldc v9 h) fun v10 =>
  S.C I.f_space_Space_Get [v8, v10] h fun v11 h1 =>
  Lp2 (Value.int IntKind.i64 0) v11 h1 fun many6 n7 h2 again0 =>
  Vb (bin .neq n7 (Value.int IntKind.i64 0)) fun v13 =>
  Br v13 (
    Vb (bin .add many6 (Value.int IntKind.i64 1)) fun v21 =>
    Jn1 (fun v32 h3 =>
        Br v32 (
          Vb (ldc v4 h3) fun v33 =>
          Vb (nck v33) fun v34 =>
          Sb (sto 1 v34 (Value.int IntKind.i64 24) h3) fun h4 =>
          R (.tuple #[]) h4) (
          Cv S.C S.Y yield0 [n7] h3 fun v37 h5 =>
          Vb (uno .not v37) fun v38 =>
          Br v38 (
            R (.tuple #[]) h5) (
            Vb (ldc v1 h5) fun v14 =>
            Vb (fa 1 v2) fun v16 =>
            Vb (ldc v16 h5) fun v17 =>
            S.C I.f_graph_at [n7, v17] h5 fun v18 h6 =>
            ldc v1 h6 = some v14 ∧
            S.C I.f_space_Space_Get [v14, v18] h6 fun v19 h7 =>
            again0 v21 v19 h7))) fun J0 =>
    Vb (lda 4 v3 h2) fun v22 =>
    S.C I.f_graph_Graph_node [v22, n7] h2 fun v24 h8 =>
    Vb (uno .not v24) fun v25 =>
    Br v25 (
      J0 (Value.bool true) h8) (
      Vb (fa 0 v3) fun v28 =>
      Vb (fa 2 v28) fun v29 =>
      Vb (ldc v29 h8) fun v30 =>
      Vb (bin .gtr v21 v30) fun v31 =>
      J0 v31 h8)) (
    R (.tuple #[]) h2)

def F_graph_Graph_node (S : Sys) (I : Ids) (g0 n1 : Value) (h : Hp) (R : Value → Hp → Prop) : Prop :=
  Eb (nw (Value.cells g0) I.t_graph_Graph h) fun g2 h1 =>
  Vb (fa 0 g2) fun v8 =>
  Vb (lda 3 v8 h1) fun v9 =>
  S.C I.f_pool_Pool_Node [v9, n1] h1 fun v11 h2 =>
  Vb (ext 0 v11) fun v12 =>
  Vb (ext 1 v11) fun v13 =>
  R v13 h2

def F_space_Space_Back (S : Sys) (I : Ids) (s0 mark1 : Value) (h : Hp) (R : Value → Hp → Prop) : Prop :=
  Jn1 (fun v19 h1 =>
      Br v19 (
        Vb (nck s0) fun v22 =>
        Vb (fa 2 v22) fun v23 =>
        Vb (ldc v23 h1) fun v24 =>
        Vb (slc 2 v24 none (some mark1) (some mark1)) fun v27 =>
        Vb (nck s0) fun v28 =>
        Vb (fa 2 v28) fun v29 =>
        Sb (sto 1 v29 v27 h1) fun h2 =>
        R (.tuple #[]) h2) (
        R (.tuple #[]) h1)) fun J0 =>
  S.C I.f_space_Space_Ended [s0] h fun v5 h3 =>
  Vb (uno .not v5) fun v6 =>
  Br v6 (
    Vb (bin .geq mark1 (Value.int IntKind.i64 0)) fun v9 =>
    Br v9 (
      Vb (nck s0) fun v14 =>
      Vb (fa 2 v14) fun v15 =>
      Vb (ldc v15 h3) fun v16 =>
      Vb (lnS v16) fun v17 =>
      Vb (bin .leq mark1 v17) fun v18 =>
      J0 v18 h3) (
      J0 (Value.bool false) h3)) (
    J0 (Value.bool false) h3)

def F_pool_Pool_add (S : Sys) (I : Ids) (p0 s1 count2 n3 : Value) (h : Hp) (R : Value → Hp → Prop) : Prop :=
  Eb (nw (Value.cells p0) I.t_pool_Pool h) fun p4 h1 =>
  Vb (fa 0 p4) fun v9 =>
  Vb (ldc v9 h1) fun v10 =>
  Vb (bin .add v10 count2) fun v12 =>
  Vb (fa 0 p4) fun v14 =>
  Vb (ldc v14 h1) fun v15 =>
  Vb (bin .add v15 count2) fun v17 =>
  S.C I.f_space_Space_Get [s1, v17] h1 fun v18 h2 =>
  ldc v9 h2 = some v10 ∧
  Vb (bin .add v18 n3) fun v20 =>
  S.C I.f_space_Space_Put [s1, v12, v20] h2 fun v21 h3 =>
  R (.tuple #[]) h3

def F_space_Space_last (S : Sys) (I : Ids) (s0 at1 : Value) (h : Hp) (R : Value → Hp → Prop) : Prop :=
  Vb (nck s0) fun v7 =>
  Vb (fa 2 v7) fun v8 =>
  Vb (ldc v8 h) fun v9 =>
  Vb (lnS v9) fun v10 =>
  Vb (bin .sub v10 (Value.int IntKind.i64 1)) fun v11 =>
  Lp1 v11 h fun i5 h1 again0 =>
  Vb (bin .geq i5 (Value.int IntKind.i64 0)) fun v13 =>
  Br v13 (
    Vb (nck s0) fun v17 =>
    Vb (fa 2 v17) fun v18 =>
    Vb (ldc v18 h1) fun v19 =>
    Vb (ixs 2 v19 i5) fun v21 =>
    Vb (fa 0 v21) fun v22 =>
    Vb (ldc v22 h1) fun v23 =>
    Vb (bin .eql v23 at1) fun v25 =>
    Br v25 (
      R i5 h1) (
      Vb (bin .sub i5 (Value.int IntKind.i64 1)) fun v15 =>
      again0 v15 h1)) (
    R (Value.int IntKind.i64 (-1)) h1)

def F_simulcastref37_find (S : Sys) (I : Ids) (l0 k1 : Value) (h : Hp) (R : Value → Hp → Prop) : Prop :=
  Lp1 (Value.int IntKind.i64 0) h fun n5 h1 again0 =>
  Jn1 (fun v18 h2 =>
      Br v18 (
        Vb (bin .add n5 (Value.int IntKind.i64 1)) fun v20 =>
        again0 v20 h2) (
        R n5 h2)) fun J0 =>
  Vb (lnS l0) fun v8 =>
  Vb (bin .lss n5 v8) fun v9 =>
  Br v9 (
    Vb (ixs 2 l0 n5) fun v13 =>
    Vb (fa 0 v13) fun v14 =>
    Vb (ldc v14 h1) fun v15 =>
    Vb (bin .lss v15 k1) fun v17 =>
    J0 v17 h1) (
    J0 (Value.bool false) h1)

def F_simulcastref37_Rank (S : Sys) (I : Ids) (k0 : Value) (h : Hp) (R : Value → Hp → Prop) : Prop :=
  Vb (cvi .u64 k0) fun v5 =>
  Vb (bin .shr v5 (Value.int IntKind.u64 33)) fun v8 =>
  Vb (bin .xor v5 v8) fun v9 =>
  Vb (bin .mul v9 (Value.int IntKind.u64 18397679294719823053)) fun v11 =>
  Vb (bin .shr v11 (Value.int IntKind.u64 33)) fun v14 =>
  Vb (bin .xor v11 v14) fun v15 =>
  R v15 h

def F_tree_kid (S : Sys) (I : Ids) (k0 key1 : Value) (h : Hp) (R : Value → Hp → Prop) : Prop :=
  Vb (bin .lss k0 key1) fun v7 =>
  Br v7 (
    R (Value.int IntKind.i64 2) h) (
    R (Value.int IntKind.i64 3) h)

def F_tree_work_way_1 (S : Sys) (I : Ids) (yield0 v1 v2 : Value) (h : Hp) (R : Value → Hp → Prop) : Prop :=
  Vb (ldc v1 h) fun v7 =>
  Vb (nck v7) fun v8 =>
  Vb (fa 4 v8) fun v9 =>
  Vb (ldc v9 h) fun v10 =>
  Vb (ldc v1 h) fun v11 =>
  Vb (nck v11) fun v12 =>
  Vb (fa 0 v12) fun v13 =>
  Vb (fa 3 v13) fun v14 =>
  Vb (ldc v14 h) fun v15 =>
  S.C I.f_space_Space_Get [v10, v15] h fun v16 h1 =>
  Lp2 (Value.int IntKind.i64 0) v16 h1 fun n4 at5 h2 again0 =>
  Vb (ldc v1 h2) fun v17 =>
  S.C I.f_tree_work_is [v17, at5] h2 fun v19 h3 =>
  Br v19 (
    Vb (ldc v1 h3) fun v23 =>
    Vb (nck v23) fun v24 =>
    Vb (fa 0 v24) fun v25 =>
    Vb (fa 0 v25) fun v26 =>
    Vb (fa 2 v26) fun v27 =>
    Vb (ldc v27 h3) fun v28 =>
    Vb (bin .geq n4 v28) fun v29 =>
    Br v29 (
      Vb (ldc v1 h3) fun v30 =>
      Vb (nck v30) fun v31 =>
      Vb (fa 5 v31) fun v32 =>
      Sb (sto 1 v32 (Value.bool true) h3) fun h4 =>
      R (.tuple #[]) h4) (
      Vb (ldc v1 h3) fun v33 =>
      S.C I.f_tree_work_get [v33, at5, (Value.int IntKind.i64 0)] h3 fun v35 h5 =>
      Jn1 (fun v46 h6 =>
          Br v46 (
            R (.tuple #[]) h6) (
            Vb (ldc v1 h6) fun v47 =>
            Vb (ldc v2 h6) fun v49 =>
            S.C I.f_tree_kid [v49, v35] h6 fun v51 h7 =>
            ldc v1 h7 = some v47 ∧
            S.C I.f_tree_work_get [v47, at5, v51] h7 fun v52 h8 =>
            Vb (bin .add n4 (Value.int IntKind.i64 1)) fun v21 =>
            again0 v21 v52 h8)) fun J0 =>
      Vb (bldS [(0, 1), (1, 1)] #[Value.int IntKind.i64 0, Value.int IntKind.i64 0] [(0, at5), (1, v35)]) fun v39 =>
      Cv S.C S.Y yield0 [v39] h5 fun v40 h9 =>
      Vb (uno .not v40) fun v41 =>
      Br v41 (
        J0 (Value.bool true) h9) (
        Vb (ldc v2 h9) fun v44 =>
        Vb (bin .eql v35 v44) fun v45 =>
        J0 v45 h9))) (
    R (.tuple #[]) h3)

def F_tree_Tree_until (S : Sys) (I : Ids) (t0 s1 k2 with3 cell4 own5 : Value) (h : Hp) (R : Value → Hp → Prop) : Prop :=
  Eb (nw (Value.cells t0) I.t_tree_Tree h) fun t6 h1 =>
  Vb (lda 4 t6 h1) fun v19 =>
  S.C I.f_tree_Tree_work [v19, s1] h1 fun v21 h2 =>
  Vb (fa 3 t6) fun v23 =>
  Vb (ldc v23 h2) fun v24 =>
  S.C I.f_space_Space_Get [s1, v24] h2 fun v25 h3 =>
  Lp3 (Value.int IntKind.i64 0) (Value.int IntKind.i64 0) v25 h3 fun total14 n15 at16 h4 again0 =>
  Jn1 (fun v35 h5 =>
      Br v35 (
        Jn2 (fun total14_1 at16_1 h6 =>
            Vb (bin .add n15 (Value.int IntKind.i64 1)) fun v37 =>
            again0 total14_1 v37 at16_1 h6) fun J1 =>
        S.C I.f_tree_work_get [v21, at16, (Value.int IntKind.i64 0)] h5 fun v40 h7 =>
        Jn1 (fun v52 h8 =>
            Br v52 (
              S.C I.f_tree_work_get [v21, at16, (Value.int IntKind.i64 2)] h8 fun v55 h9 =>
              J1 total14 v55 h9) (
              Vb (lda 4 t6 h8) fun v56 =>
              S.C I.f_tree_Tree_work [v56, s1] h8 fun v58 h10 =>
              Cv S.C S.Y own5 [v21, at16] h10 fun v63 h11 =>
              S.C I.f_tree_work_get [v21, at16, (Value.int IntKind.i64 2)] h11 fun v67 h12 =>
              S.C I.f_tree_work_of [v58, v67, cell4] h12 fun v69 h13 =>
              Vb (bin .add v63 v69) fun v70 =>
              Vb (bin .add total14 v70) fun v71 =>
              S.C I.f_tree_work_get [v21, at16, (Value.int IntKind.i64 3)] h13 fun v74 h14 =>
              J1 v71 v74 h14)) fun J2 =>
        Vb (bin .gtr v40 k2) fun v43 =>
        Br v43 (
          J2 (Value.bool true) h7) (
          Vb (bin .eql v40 k2) fun v47 =>
          Br v47 (
            Vb (uno .not with3) fun v50 =>
            J2 v50 h7) (
            J2 (Value.bool false) h7))) (
        R total14 h5)) fun J0 =>
  S.C I.f_tree_work_is [v21, at16] h4 fun v28 h15 =>
  Br v28 (
    Vb (fa 0 t6) fun v31 =>
    Vb (fa 2 v31) fun v32 =>
    Vb (ldc v32 h15) fun v33 =>
    Vb (bin .lss n15 v33) fun v34 =>
    J0 v34 h15) (
    J0 (Value.bool false) h15)

def F_slices_pdqsortOrdered_api_Loc (S : Sys) (I : Ids) (data0 a1 b2 limit3 : Value) (h : Hp) (R : Value → Hp → Prop) : Prop :=
  Lp5 a1 b2 limit3 (Value.bool true) (Value.bool true) h fun a1_1 b2_1 limit3_1 wasBalanced8 wasPartitioned9 h1 again0 =>
  Vb (bin .sub b2_1 a1_1) fun v21 =>
  Vb (bin .leq v21 (Value.int IntKind.i64 12)) fun v23 =>
  Br v23 (
    S.C I.f_slices_insertionSortOrdered_api_Loc [data0, a1_1, b2_1] h1 fun v27 h2 =>
    R (.tuple #[]) h2) (
    Vb (bin .eql limit3_1 (Value.int IntKind.i64 0)) fun v29 =>
    Br v29 (
      S.C I.f_slices_heapSortOrdered_api_Loc [data0, a1_1, b2_1] h1 fun v33 h3 =>
      R (.tuple #[]) h3) (
      Jn1 (fun limit3_2 h4 =>
          S.C I.f_slices_choosePivotOrdered_api_Loc [data0, a1_1, b2_1] h4 fun v46 h5 =>
          Vb (ext 0 v46) fun v47 =>
          Vb (ext 1 v46) fun v48 =>
          Jn2 (fun pivot11 hint12 h6 =>
              Jn0 (fun h7 =>
                  Jn1 (fun v87 h8 =>
                      Br v87 (
                        S.C I.f_slices_partitionEqualOrdered_api_Loc [data0, a1_1, b2_1, pivot11] h8 fun v92 h9 =>
                        again0 v92 b2_1 limit3_2 wasBalanced8 wasPartitioned9 h9) (
                        S.C I.f_slices_partitionOrdered_api_Loc [data0, a1_1, b2_1, pivot11] h8 fun v99 h10 =>
                        Vb (ext 0 v99) fun v100 =>
                        Vb (ext 1 v99) fun v101 =>
                        Vb (bin .sub v100 a1_1) fun v105 =>
                        Vb (bin .sub b2_1 v100) fun v108 =>
                        Vb (bin .quo v21 (Value.int IntKind.i64 8)) fun v110 =>
                        Vb (bin .lss v105 v108) fun v113 =>
                        Br v113 (
                          Vb (bin .geq v105 v110) fun v116 =>
                          S.C I.f_slices_pdqsortOrdered_api_Loc [data0, a1_1, v100, limit3_2] h10 fun v121 h11 =>
                          Vb (bin .add v100 (Value.int IntKind.i64 1)) fun v123 =>
                          again0 v123 b2_1 limit3_2 v116 v101 h11) (
                          Vb (bin .geq v108 v110) fun v126 =>
                          Vb (bin .add v100 (Value.int IntKind.i64 1)) fun v129 =>
                          S.C I.f_slices_pdqsortOrdered_api_Loc [data0, v129, b2_1, limit3_2] h10 fun v132 h12 =>
                          again0 a1_1 v100 limit3_2 v126 v101 h12))) fun J3 =>
                  Vb (bin .gtr a1_1 (Value.int IntKind.i64 0)) fun v74 =>
                  Br v74 (
                    Vb (bin .sub a1_1 (Value.int IntKind.i64 1)) fun v78 =>
                    Vb (ixs 1 data0 v78) fun v79 =>
                    Vb (ldc v79 h7) fun v80 =>
                    Vb (ixs 1 data0 pivot11) fun v83 =>
                    Vb (ldc v83 h7) fun v84 =>
                    S.C I.f_cmp_Less_api_Loc [v80, v84] h7 fun v85 h13 =>
                    Vb (uno .not v85) fun v86 =>
                    J3 v86 h13) (
                    J3 (Value.bool false) h7)) fun J2 =>
              Jn1 (fun v68 h14 =>
                  Br v68 (
                    S.C I.f_slices_partialInsertionSortOrdered_api_Loc [data0, a1_1, b2_1] h14 fun v72 h15 =>
                    Br v72 (
                      R (.tuple #[]) h15) (
                      J2 h15)) (
                    J2 h14)) fun J4 =>
              Br wasBalanced8 (
                Br wasPartitioned9 (
                  Vb (bin .eql hint12 (Value.int IntKind.i64 1)) fun v67 =>
                  J4 v67 h6) (
                  J4 (Value.bool false) h6)) (
                J4 (Value.bool false) h6)) fun J1 =>
          Vb (bin .eql v48 (Value.int IntKind.i64 2)) fun v50 =>
          Br v50 (
            S.C I.f_slices_reverseRangeOrdered_api_Loc [data0, a1_1, b2_1] h5 fun v54 h16 =>
            Vb (bin .sub b2_1 (Value.int IntKind.i64 1)) fun v56 =>
            Vb (bin .sub v47 a1_1) fun v59 =>
            Vb (bin .sub v56 v59) fun v60 =>
            J1 v60 (Value.int IntKind.i64 1) h16) (
            J1 v47 v48 h5)) fun J0 =>
      Vb (uno .not wasBalanced8) fun v35 =>
      Br v35 (
        S.C I.f_slices_breakPatternsOrdered_api_Loc [data0, a1_1, b2_1] h1 fun v39 h17 =>
        Vb (bin .sub limit3_1 (Value.int IntKind.i64 1)) fun v41 =>
        J0 v41 h17) (
        J0 limit3_1 h1)))

def F_math_bits_Len (S : Sys) (I : Ids) (x0 : Value) (h : Hp) (R : Value → Hp → Prop) : Prop :=
  S.C I.f_math_bits_Len64 [x0] h fun v7 h1 =>
  R v7 h1

def F_slices_insertionSortOrdered_api_Loc (S : Sys) (I : Ids) (data0 a1 b2 : Value) (h : Hp) (R : Value → Hp → Prop) : Prop :=
  Vb (bin .add a1 (Value.int IntKind.i64 1)) fun v9 =>
  Lp1 v9 h fun i6 h1 again0 =>
  Vb (bin .lss i6 b2) fun v12 =>
  Br v12 (
    Lp1 i6 h1 fun j7 h2 again1 =>
    Jn1 (fun v30 h3 =>
        Br v30 (
          Vb (bin .sub j7 (Value.int IntKind.i64 1)) fun v37 =>
          Vb (bin .sub j7 (Value.int IntKind.i64 1)) fun v40 =>
          Vb (ixs 1 data0 v40) fun v41 =>
          Vb (ldc v41 h3) fun v42 =>
          Vb (ixs 1 data0 j7) fun v45 =>
          Vb (ldc v45 h3) fun v46 =>
          Vb (ixs 1 data0 j7) fun v47 =>
          Sb (sto 1 v47 v42 h3) fun h4 =>
          Vb (ixs 1 data0 v37) fun v48 =>
          Sb (sto 1 v48 v46 h4) fun h5 =>
          Vb (bin .sub j7 (Value.int IntKind.i64 1)) fun v32 =>
          again1 v32 h5) (
          Vb (bin .add i6 (Value.int IntKind.i64 1)) fun v14 =>
          again0 v14 h3)) fun J0 =>
    Vb (bin .gtr j7 a1) fun v18 =>
    Br v18 (
      Vb (ixs 1 data0 j7) fun v22 =>
      Vb (ldc v22 h2) fun v23 =>
      Vb (bin .sub j7 (Value.int IntKind.i64 1)) fun v26 =>
      Vb (ixs 1 data0 v26) fun v27 =>
      Vb (ldc v27 h2) fun v28 =>
      S.C I.f_cmp_Less_api_Loc [v23, v28] h2 fun v29 h6 =>
      J0 v29 h6) (
      J0 (Value.bool false) h2)) (
    R (.tuple #[]) h1)

def F_slices_heapSortOrdered_api_Loc (S : Sys) (I : Ids) (data0 a1 b2 : Value) (h : Hp) (R : Value → Hp → Prop) : Prop :=
  Vb (bin .sub b2 a1) fun v14 =>
  Vb (bin .sub v14 (Value.int IntKind.i64 1)) fun v16 =>
  Vb (bin .quo v16 (Value.int IntKind.i64 2)) fun v17 =>
  Lp1 v17 h fun i9 h1 again0 =>
  Vb (bin .geq i9 (Value.int IntKind.i64 0)) fun v19 =>
  Br v19 (
    S.C I.f_slices_siftDownOrdered_api_Loc [data0, i9, v14, a1] h1 fun v26 h2 =>
    Vb (bin .sub i9 (Value.int IntKind.i64 1)) fun v21 =>
    again0 v21 h2) (
    Vb (bin .sub v14 (Value.int IntKind.i64 1)) fun v28 =>
    Lp1 v28 h1 fun i10 h3 again1 =>
    Vb (bin .geq i10 (Value.int IntKind.i64 0)) fun v30 =>
    Br v30 (
      Vb (bin .add a1 i10) fun v38 =>
      Vb (bin .add a1 i10) fun v42 =>
      Vb (ixs 1 data0 v42) fun v43 =>
      Vb (ldc v43 h3) fun v44 =>
      Vb (ixs 1 data0 a1) fun v47 =>
      Vb (ldc v47 h3) fun v48 =>
      Vb (ixs 1 data0 a1) fun v49 =>
      Sb (sto 1 v49 v44 h3) fun h4 =>
      Vb (ixs 1 data0 v38) fun v50 =>
      Sb (sto 1 v50 v48 h4) fun h5 =>
      S.C I.f_slices_siftDownOrdered_api_Loc [data0, (Value.int IntKind.i64 0), i10, a1] h5 fun v55 h6 =>
      Vb (bin .sub i10 (Value.int IntKind.i64 1)) fun v32 =>
      again1 v32 h6) (
      R (.tuple #[]) h3))

def F_slices_breakPatternsOrdered_api_Loc (S : Sys) (I : Ids) (data0 a1 b2 : Value) (h : Hp) (R : Value → Hp → Prop) : Prop :=
  Vb (bin .sub b2 a1) fun v13 =>
  Vb (bin .geq v13 (Value.int IntKind.i64 8)) fun v15 =>
  Br v15 (
    Vb (cvi .u64 v13) fun v17 =>
    Eb (nw #[Value.int IntKind.u64 0] I.t_slices_xorshift h) fun random7 h1 =>
    Sb (sto 1 random7 v17 h1) fun h2 =>
    S.C I.f_slices_nextPowerOfTwo [v13] h2 fun v19 h3 =>
    Vb (bin .quo v13 (Value.int IntKind.i64 4)) fun v22 =>
    Vb (bin .mul v22 (Value.int IntKind.i64 2)) fun v23 =>
    Vb (bin .add a1 v23) fun v24 =>
    Vb (bin .sub v24 (Value.int IntKind.i64 1)) fun v25 =>
    Lp1 v25 h3 fun idx9 h4 again0 =>
    Vb (bin .quo v13 (Value.int IntKind.i64 4)) fun v29 =>
    Vb (bin .mul v29 (Value.int IntKind.i64 2)) fun v30 =>
    Vb (bin .add a1 v30) fun v31 =>
    Vb (bin .add v31 (Value.int IntKind.i64 1)) fun v32 =>
    Vb (bin .leq idx9 v32) fun v33 =>
    Br v33 (
      S.C I.f_slices_xorshift_Next [random7] h4 fun v36 h5 =>
      Vb (bin .sub v19 (Value.int IntKind.u64 1)) fun v38 =>
      Vb (bin .and v36 v38) fun v39 =>
      Vb (cvi .i64 v39) fun v40 =>
      Jn1 (fun other10 h6 =>
          Vb (bin .add a1 other10) fun v52 =>
          Vb (bin .add a1 other10) fun v56 =>
          Vb (ixs 1 data0 v56) fun v57 =>
          Vb (ldc v57 h6) fun v58 =>
          Vb (ixs 1 data0 idx9) fun v61 =>
          Vb (ldc v61 h6) fun v62 =>
          Vb (ixs 1 data0 idx9) fun v63 =>
          Sb (sto 1 v63 v58 h6) fun h7 =>
          Vb (ixs 1 data0 v52) fun v64 =>
          Sb (sto 1 v64 v62 h7) fun h8 =>
          Vb (bin .add idx9 (Value.int IntKind.i64 1)) fun v35 =>
          again0 v35 h8) fun J0 =>
      Vb (bin .geq v40 v13) fun v43 =>
      Br v43 (
        Vb (bin .sub v40 v13) fun v46 =>
        J0 v46 h5) (
        J0 v40 h5)) (
      R (.tuple #[]) h4)) (
    R (.tuple #[]) h)

def F_slices_choosePivotOrdered_api_Loc (S : Sys) (I : Ids) (data0 a1 b2 : Value) (h : Hp) (R : Value → Hp → Prop) : Prop :=
  Vb (bin .sub b2 a1) fun v15 =>
  Eb (nw #[Value.int IntKind.i64 0] I.t_int h) fun swaps9 h1 =>
  Vb (bin .quo v15 (Value.int IntKind.i64 4)) fun v18 =>
  Vb (bin .mul v18 (Value.int IntKind.i64 1)) fun v19 =>
  Vb (bin .add a1 v19) fun v20 =>
  Vb (bin .quo v15 (Value.int IntKind.i64 4)) fun v23 =>
  Vb (bin .mul v23 (Value.int IntKind.i64 2)) fun v24 =>
  Vb (bin .add a1 v24) fun v25 =>
  Vb (bin .quo v15 (Value.int IntKind.i64 4)) fun v28 =>
  Vb (bin .mul v28 (Value.int IntKind.i64 3)) fun v29 =>
  Vb (bin .add a1 v29) fun v30 =>
  Jn1 (fun j11 h2 =>
      Vb (ldc swaps9 h2) fun v49 =>
      Vb (bin .eql v49 (Value.int IntKind.i64 0)) fun v52 =>
      Br v52 (
        R (.tuple #[j11, (Value.int IntKind.i64 1)]) h2) (
        Vb (bin .eql v49 (Value.int IntKind.i64 12)) fun v55 =>
        Br v55 (
          R (.tuple #[j11, (Value.int IntKind.i64 2)]) h2) (
          R (.tuple #[j11, (Value.int IntKind.i64 0)]) h2))) fun J0 =>
  Vb (bin .geq v15 (Value.int IntKind.i64 8)) fun v32 =>
  Br v32 (
    Jn3 (fun i10 j11_1 k12 h3 =>
        S.C I.f_slices_medianOrdered_api_Loc [data0, i10, j11_1, k12, swaps9] h3 fun v48 h4 =>
        J0 v48 h4) fun J1 =>
    Vb (bin .geq v15 (Value.int IntKind.i64 50)) fun v34 =>
    Br v34 (
      S.C I.f_slices_medianAdjacentOrdered_api_Loc [data0, v20, swaps9] h1 fun v37 h5 =>
      S.C I.f_slices_medianAdjacentOrdered_api_Loc [data0, v25, swaps9] h5 fun v40 h6 =>
      S.C I.f_slices_medianAdjacentOrdered_api_Loc [data0, v30, swaps9] h6 fun v43 h7 =>
      J1 v37 v40 v43 h7) (
      J1 v20 v25 v30 h1)) (
    J0 v25 h1)

def F_slices_reverseRangeOrdered_api_Loc (S : Sys) (I : Ids) (data0 a1 b2 : Value) (h : Hp) (R : Value → Hp → Prop) : Prop :=
  Vb (bin .sub b2 (Value.int IntKind.i64 1)) fun v10 =>
  Lp2 a1 v10 h fun i6 j7 h1 again0 =>
  Vb (bin .lss i6 j7) fun v13 =>
  Br v13 (
    Vb (ixs 1 data0 j7) fun v20 =>
    Vb (ldc v20 h1) fun v21 =>
    Vb (ixs 1 data0 i6) fun v24 =>
    Vb (ldc v24 h1) fun v25 =>
    Vb (ixs 1 data0 i6) fun v26 =>
    Sb (sto 1 v26 v21 h1) fun h2 =>
    Vb (ixs 1 data0 j7) fun v27 =>
    Sb (sto 1 v27 v25 h2) fun h3 =>
    Vb (bin .add i6 (Value.int IntKind.i64 1)) fun v29 =>
    Vb (bin .sub j7 (Value.int IntKind.i64 1)) fun v31 =>
    again0 v29 v31 h3) (
    R (.tuple #[]) h1)

def F_slices_partialInsertionSortOrdered_api_Loc (S : Sys) (I : Ids) (data0 a1 b2 : Value) (h : Hp) (R : Value → Hp → Prop) : Prop :=
  Vb (bin .add a1 (Value.int IntKind.i64 1)) fun v12 =>
  Lp2 v12 (Value.int IntKind.i64 0) h fun i7 j8 h1 again0 =>
  Vb (bin .lss j8 (Value.int IntKind.i64 5)) fun v14 =>
  Br v14 (
    Jn1 (fun i7_1 h2 =>
        Vb (bin .add j8 (Value.int IntKind.i64 1)) fun v16 =>
        again0 i7_1 v16 h2) fun J0 =>
    Lp1 i7 h1 fun i7_2 h3 again1 =>
    Jn1 (fun v32 h4 =>
        Br v32 (
          Vb (bin .add i7_2 (Value.int IntKind.i64 1)) fun v34 =>
          again1 v34 h4) (
          Vb (bin .eql i7_2 b2) fun v37 =>
          Br v37 (
            R (Value.bool true) h4) (
            Vb (bin .sub b2 a1) fun v40 =>
            Vb (bin .lss v40 (Value.int IntKind.i64 50)) fun v41 =>
            Br v41 (
              R (Value.bool false) h4) (
              Vb (bin .sub i7_2 (Value.int IntKind.i64 1)) fun v46 =>
              Vb (bin .sub i7_2 (Value.int IntKind.i64 1)) fun v49 =>
              Vb (ixs 1 data0 v49) fun v50 =>
              Vb (ldc v50 h4) fun v51 =>
              Vb (ixs 1 data0 i7_2) fun v54 =>
              Vb (ldc v54 h4) fun v55 =>
              Vb (ixs 1 data0 i7_2) fun v56 =>
              Sb (sto 1 v56 v51 h4) fun h5 =>
              Vb (ixs 1 data0 v46) fun v57 =>
              Sb (sto 1 v57 v55 h5) fun h6 =>
              Jn0 (fun h7 =>
                  Vb (bin .sub b2 i7_2) fun v97 =>
                  Vb (bin .geq v97 (Value.int IntKind.i64 2)) fun v98 =>
                  Br v98 (
                    Vb (bin .add i7_2 (Value.int IntKind.i64 1)) fun v100 =>
                    Lp1 v100 h7 fun j10 h8 again2 =>
                    Vb (bin .lss j10 b2) fun v103 =>
                    Br v103 (
                      Vb (ixs 1 data0 j10) fun v108 =>
                      Vb (ldc v108 h8) fun v109 =>
                      Vb (bin .sub j10 (Value.int IntKind.i64 1)) fun v112 =>
                      Vb (ixs 1 data0 v112) fun v113 =>
                      Vb (ldc v113 h8) fun v114 =>
                      S.C I.f_cmp_Less_api_Loc [v109, v114] h8 fun v115 h9 =>
                      Vb (uno .not v115) fun v116 =>
                      Br v116 (
                        J0 i7_2 h9) (
                        Vb (bin .sub j10 (Value.int IntKind.i64 1)) fun v121 =>
                        Vb (bin .sub j10 (Value.int IntKind.i64 1)) fun v124 =>
                        Vb (ixs 1 data0 v124) fun v125 =>
                        Vb (ldc v125 h9) fun v126 =>
                        Vb (ixs 1 data0 j10) fun v129 =>
                        Vb (ldc v129 h9) fun v130 =>
                        Vb (ixs 1 data0 j10) fun v131 =>
                        Sb (sto 1 v131 v126 h9) fun h10 =>
                        Vb (ixs 1 data0 v121) fun v132 =>
                        Sb (sto 1 v132 v130 h10) fun h11 =>
                        Vb (bin .add j10 (Value.int IntKind.i64 1)) fun v105 =>
                        again2 v105 h11)) (
                      J0 i7_2 h8)) (
                    J0 i7_2 h7)) fun J2 =>
              Vb (bin .sub i7_2 a1) fun v60 =>
              Vb (bin .geq v60 (Value.int IntKind.i64 2)) fun v61 =>
              Br v61 (
                Vb (bin .sub i7_2 (Value.int IntKind.i64 1)) fun v63 =>
                Lp1 v63 h6 fun j9 h12 again3 =>
                Vb (bin .geq j9 (Value.int IntKind.i64 1)) fun v65 =>
                Br v65 (
                  Vb (ixs 1 data0 j9) fun v70 =>
                  Vb (ldc v70 h12) fun v71 =>
                  Vb (bin .sub j9 (Value.int IntKind.i64 1)) fun v74 =>
                  Vb (ixs 1 data0 v74) fun v75 =>
                  Vb (ldc v75 h12) fun v76 =>
                  S.C I.f_cmp_Less_api_Loc [v71, v76] h12 fun v77 h13 =>
                  Vb (uno .not v77) fun v78 =>
                  Br v78 (
                    J2 h13) (
                    Vb (bin .sub j9 (Value.int IntKind.i64 1)) fun v83 =>
                    Vb (bin .sub j9 (Value.int IntKind.i64 1)) fun v86 =>
                    Vb (ixs 1 data0 v86) fun v87 =>
                    Vb (ldc v87 h13) fun v88 =>
                    Vb (ixs 1 data0 j9) fun v91 =>
                    Vb (ldc v91 h13) fun v92 =>
                    Vb (ixs 1 data0 j9) fun v93 =>
                    Sb (sto 1 v93 v88 h13) fun h14 =>
                    Vb (ixs 1 data0 v83) fun v94 =>
                    Sb (sto 1 v94 v92 h14) fun h15 =>
                    Vb (bin .sub j9 (Value.int IntKind.i64 1)) fun v67 =>
                    again3 v67 h15)) (
                  J2 h12)) (
                J2 h6))))) fun J1 =>
    Vb (bin .lss i7_2 b2) fun v19 =>
    Br v19 (
      Vb (ixs 1 data0 i7_2) fun v23 =>
      Vb (ldc v23 h3) fun v24 =>
      Vb (bin .sub i7_2 (Value.int IntKind.i64 1)) fun v27 =>
      Vb (ixs 1 data0 v27) fun v28 =>
      Vb (ldc v28 h3) fun v29 =>
      S.C I.f_cmp_Less_api_Loc [v24, v29] h3 fun v30 h16 =>
      Vb (uno .not v30) fun v31 =>
      J1 v31 h16) (
      J1 (Value.bool false) h3)) (
    R (Value.bool false) h1)

def F_cmp_Less_api_Loc (S : Sys) (I : Ids) (x0 y1 : Value) (h : Hp) (R : Value → Hp → Prop) : Prop :=
  Jn1 (fun v4 h1 =>
      R v4 h1) fun J0 =>
  S.C I.f_cmp_isNaN_api_Loc [x0] h fun v6 h2 =>
  Br v6 (
    S.C I.f_cmp_isNaN_api_Loc [y1] h2 fun v9 h3 =>
    Vb (uno .not v9) fun v10 =>
    Br v10 (
      J0 (Value.bool true) h3) (
      Vb (bin .lss x0 y1) fun v15 =>
      J0 v15 h3)) (
    Vb (bin .lss x0 y1) fun v15_1 =>
    J0 v15_1 h2)

def F_slices_partitionEqualOrdered_api_Loc (S : Sys) (I : Ids) (data0 a1 b2 pivot3 : Value) (h : Hp) (R : Value → Hp → Prop) : Prop :=
  Vb (ixs 1 data0 pivot3) fun v17 =>
  Vb (ldc v17 h) fun v18 =>
  Vb (ixs 1 data0 a1) fun v21 =>
  Vb (ldc v21 h) fun v22 =>
  Vb (ixs 1 data0 a1) fun v23 =>
  Sb (sto 1 v23 v18 h) fun h1 =>
  Vb (ixs 1 data0 pivot3) fun v24 =>
  Sb (sto 1 v24 v22 h1) fun h2 =>
  Vb (bin .add a1 (Value.int IntKind.i64 1)) fun v26 =>
  Vb (bin .sub b2 (Value.int IntKind.i64 1)) fun v28 =>
  Lp2 v26 v28 h2 fun i9 j10 h3 again0 =>
  Lp1 i9 h3 fun i9_1 h4 again1 =>
  Jn1 (fun v43 h5 =>
      Br v43 (
        Vb (bin .add i9_1 (Value.int IntKind.i64 1)) fun v45 =>
        again1 v45 h5) (
        Lp1 j10 h5 fun j10_1 h6 again2 =>
        Jn1 (fun v59 h7 =>
            Br v59 (
              Vb (bin .sub j10_1 (Value.int IntKind.i64 1)) fun v61 =>
              again2 v61 h7) (
              Vb (bin .gtr i9_1 j10_1) fun v64 =>
              Br v64 (
                R i9_1 h7) (
                Vb (ixs 1 data0 j10_1) fun v71 =>
                Vb (ldc v71 h7) fun v72 =>
                Vb (ixs 1 data0 i9_1) fun v75 =>
                Vb (ldc v75 h7) fun v76 =>
                Vb (ixs 1 data0 i9_1) fun v77 =>
                Sb (sto 1 v77 v72 h7) fun h8 =>
                Vb (ixs 1 data0 j10_1) fun v78 =>
                Sb (sto 1 v78 v76 h8) fun h9 =>
                Vb (bin .add i9_1 (Value.int IntKind.i64 1)) fun v80 =>
                Vb (bin .sub j10_1 (Value.int IntKind.i64 1)) fun v82 =>
                again0 v80 v82 h9))) fun J1 =>
        Vb (bin .leq i9_1 j10_1) fun v48 =>
        Br v48 (
          Vb (ixs 1 data0 a1) fun v52 =>
          Vb (ldc v52 h6) fun v53 =>
          Vb (ixs 1 data0 j10_1) fun v56 =>
          Vb (ldc v56 h6) fun v57 =>
          S.C I.f_cmp_Less_api_Loc [v53, v57] h6 fun v58 h10 =>
          J1 v58 h10) (
          J1 (Value.bool false) h6))) fun J0 =>
  Vb (bin .leq i9_1 j10) fun v31 =>
  Br v31 (
    Vb (ixs 1 data0 a1) fun v35 =>
    Vb (ldc v35 h4) fun v36 =>
    Vb (ixs 1 data0 i9_1) fun v39 =>
    Vb (ldc v39 h4) fun v40 =>
    S.C I.f_cmp_Less_api_Loc [v36, v40] h4 fun v41 h11 =>
    Vb (uno .not v41) fun v42 =>
    J0 v42 h11) (
    J0 (Value.bool false) h4)

def F_slices_partitionOrdered_api_Loc (S : Sys) (I : Ids) (data0 a1 b2 pivot3 : Value) (h : Hp) (R : Value → Hp → Prop) : Prop :=
  Vb (ixs 1 data0 pivot3) fun v18 =>
  Vb (ldc v18 h) fun v19 =>
  Vb (ixs 1 data0 a1) fun v22 =>
  Vb (ldc v22 h) fun v23 =>
  Vb (ixs 1 data0 a1) fun v24 =>
  Sb (sto 1 v24 v19 h) fun h1 =>
  Vb (ixs 1 data0 pivot3) fun v25 =>
  Sb (sto 1 v25 v23 h1) fun h2 =>
  Vb (bin .add a1 (Value.int IntKind.i64 1)) fun v27 =>
  Vb (bin .sub b2 (Value.int IntKind.i64 1)) fun v29 =>
  Lp1 v27 h2 fun i10 h3 again0 =>
  Jn1 (fun v43 h4 =>
      Br v43 (
        Vb (bin .add i10 (Value.int IntKind.i64 1)) fun v45 =>
        again0 v45 h4) (
        Lp1 v29 h4 fun j11 h5 again1 =>
        Jn1 (fun v60 h6 =>
            Br v60 (
              Vb (bin .sub j11 (Value.int IntKind.i64 1)) fun v62 =>
              again1 v62 h6) (
              Vb (bin .gtr i10 j11) fun v65 =>
              Br v65 (
                Vb (ixs 1 data0 a1) fun v72 =>
                Vb (ldc v72 h6) fun v73 =>
                Vb (ixs 1 data0 j11) fun v76 =>
                Vb (ldc v76 h6) fun v77 =>
                Vb (ixs 1 data0 j11) fun v78 =>
                Sb (sto 1 v78 v73 h6) fun h7 =>
                Vb (ixs 1 data0 a1) fun v79 =>
                Sb (sto 1 v79 v77 h7) fun h8 =>
                R (.tuple #[j11, (Value.bool true)]) h8) (
                Vb (ixs 1 data0 j11) fun v87 =>
                Vb (ldc v87 h6) fun v88 =>
                Vb (ixs 1 data0 i10) fun v91 =>
                Vb (ldc v91 h6) fun v92 =>
                Vb (ixs 1 data0 i10) fun v93 =>
                Sb (sto 1 v93 v88 h6) fun h9 =>
                Vb (ixs 1 data0 j11) fun v94 =>
                Sb (sto 1 v94 v92 h9) fun h10 =>
                Vb (bin .add i10 (Value.int IntKind.i64 1)) fun v96 =>
                Vb (bin .sub j11 (Value.int IntKind.i64 1)) fun v98 =>
                Lp2 v96 v98 h10 fun i10_1 j11_1 h11 again2 =>
                Lp1 i10_1 h11 fun i10_2 h12 again3 =>
                Jn1 (fun v112 h13 =>
                    Br v112 (
                      Vb (bin .add i10_2 (Value.int IntKind.i64 1)) fun v114 =>
                      again3 v114 h13) (
                      Lp1 j11_1 h13 fun j11_2 h14 again4 =>
                      Jn1 (fun v129 h15 =>
                          Br v129 (
                            Vb (bin .sub j11_2 (Value.int IntKind.i64 1)) fun v131 =>
                            again4 v131 h15) (
                            Vb (bin .gtr i10_2 j11_2) fun v134 =>
                            Br v134 (
                              Vb (ixs 1 data0 a1) fun v159 =>
                              Vb (ldc v159 h15) fun v160 =>
                              Vb (ixs 1 data0 j11_2) fun v163 =>
                              Vb (ldc v163 h15) fun v164 =>
                              Vb (ixs 1 data0 j11_2) fun v165 =>
                              Sb (sto 1 v165 v160 h15) fun h16 =>
                              Vb (ixs 1 data0 a1) fun v166 =>
                              Sb (sto 1 v166 v164 h16) fun h17 =>
                              R (.tuple #[j11_2, (Value.bool false)]) h17) (
                              Vb (ixs 1 data0 j11_2) fun v141 =>
                              Vb (ldc v141 h15) fun v142 =>
                              Vb (ixs 1 data0 i10_2) fun v145 =>
                              Vb (ldc v145 h15) fun v146 =>
                              Vb (ixs 1 data0 i10_2) fun v147 =>
                              Sb (sto 1 v147 v142 h15) fun h18 =>
                              Vb (ixs 1 data0 j11_2) fun v148 =>
                              Sb (sto 1 v148 v146 h18) fun h19 =>
                              Vb (bin .add i10_2 (Value.int IntKind.i64 1)) fun v150 =>
                              Vb (bin .sub j11_2 (Value.int IntKind.i64 1)) fun v152 =>
                              again2 v150 v152 h19))) fun J3 =>
                      Vb (bin .leq i10_2 j11_2) fun v117 =>
                      Br v117 (
                        Vb (ixs 1 data0 j11_2) fun v121 =>
                        Vb (ldc v121 h14) fun v122 =>
                        Vb (ixs 1 data0 a1) fun v125 =>
                        Vb (ldc v125 h14) fun v126 =>
                        S.C I.f_cmp_Less_api_Loc [v122, v126] h14 fun v127 h20 =>
                        Vb (uno .not v127) fun v128 =>
                        J3 v128 h20) (
                        J3 (Value.bool false) h14))) fun J2 =>
                Vb (bin .leq i10_2 j11_1) fun v101 =>
                Br v101 (
                  Vb (ixs 1 data0 i10_2) fun v105 =>
                  Vb (ldc v105 h12) fun v106 =>
                  Vb (ixs 1 data0 a1) fun v109 =>
                  Vb (ldc v109 h12) fun v110 =>
                  S.C I.f_cmp_Less_api_Loc [v106, v110] h12 fun v111 h21 =>
                  J2 v111 h21) (
                  J2 (Value.bool false) h12)))) fun J1 =>
        Vb (bin .leq i10 j11) fun v48 =>
        Br v48 (
          Vb (ixs 1 data0 j11) fun v52 =>
          Vb (ldc v52 h5) fun v53 =>
          Vb (ixs 1 data0 a1) fun v56 =>
          Vb (ldc v56 h5) fun v57 =>
          S.C I.f_cmp_Less_api_Loc [v53, v57] h5 fun v58 h22 =>
          Vb (uno .not v58) fun v59 =>
          J1 v59 h22) (
          J1 (Value.bool false) h5))) fun J0 =>
  Vb (bin .leq i10 v29) fun v32 =>
  Br v32 (
    Vb (ixs 1 data0 i10) fun v36 =>
    Vb (ldc v36 h3) fun v37 =>
    Vb (ixs 1 data0 a1) fun v40 =>
    Vb (ldc v40 h3) fun v41 =>
    S.C I.f_cmp_Less_api_Loc [v37, v41] h3 fun v42 h23 =>
    J0 v42 h23) (
    J0 (Value.bool false) h3)

def F_math_bits_Len32 (S : Sys) (I : Ids) (x0 : Value) (h : Hp) (R : Value → Hp → Prop) : Prop :=
  Jn2 (fun x0_1 n2 h1 =>
      Jn2 (fun x0_2 n2_1 h2 =>
          Vb (cvi .u8 x0_2) fun v15 =>
          Vb (idst (Value.string { data := (List.toArray (List.append (List.append [0, 1, 2, 2, 3, 3, 3, 3, 4, 4, 4, 4, 4, 4, 4, 4, 5, 5, 5, 5, 5, 5, 5, 5, 5, 5, 5, 5, 5, 5, 5, 5, 6, 6, 6, 6, 6, 6, 6, 6, 6, 6, 6, 6, 6, 6, 6, 6, 6, 6, 6, 6, 6, 6, 6, 6, 6, 6, 6, 6, 6, 6, 6, 6] [7, 7, 7, 7, 7, 7, 7, 7, 7, 7, 7, 7, 7, 7, 7, 7, 7, 7, 7, 7, 7, 7, 7, 7, 7, 7, 7, 7, 7, 7, 7, 7, 7, 7, 7, 7, 7, 7, 7, 7, 7, 7, 7, 7, 7, 7, 7, 7, 7, 7, 7, 7, 7, 7, 7, 7, 7, 7, 7, 7, 7, 7, 7, 7]) (List.append [8, 8, 8, 8, 8, 8, 8, 8, 8, 8, 8, 8, 8, 8, 8, 8, 8, 8, 8, 8, 8, 8, 8, 8, 8, 8, 8, 8, 8, 8, 8, 8, 8, 8, 8, 8, 8, 8, 8, 8, 8, 8, 8, 8, 8, 8, 8, 8, 8, 8, 8, 8, 8, 8, 8, 8, 8, 8, 8, 8, 8, 8, 8, 8] [8, 8, 8, 8, 8, 8, 8, 8, 8, 8, 8, 8, 8, 8, 8, 8, 8, 8, 8, 8, 8, 8, 8, 8, 8, 8, 8, 8, 8, 8, 8, 8, 8, 8, 8, 8, 8, 8, 8, 8, 8, 8, 8, 8, 8, 8, 8, 8, 8, 8, 8, 8, 8, 8, 8, 8, 8, 8, 8, 8, 8, 8, 8, 8]))) }) v15) fun v16 =>
          Vb (cvi .i64 v16) fun v17 =>
          Vb (bin .add n2_1 v17) fun v18 =>
          R v18 h2) fun J1 =>
      Vb (bin .geq x0_1 (Value.int IntKind.u32 256)) fun v8 =>
      Br v8 (
        Vb (bin .shr x0_1 (Value.int IntKind.u64 8)) fun v10 =>
        Vb (bin .add n2 (Value.int IntKind.i64 8)) fun v12 =>
        J1 v10 v12 h1) (
        J1 x0_1 n2 h1)) fun J0 =>
  Vb (bin .geq x0 (Value.int IntKind.u32 65536)) fun v4 =>
  Br v4 (
    Vb (bin .shr x0 (Value.int IntKind.u64 16)) fun v6 =>
    J0 v6 (Value.int IntKind.i64 16) h) (
    J0 x0 (Value.int IntKind.i64 0) h)

def F_math_bits_Len64 (S : Sys) (I : Ids) (x0 : Value) (h : Hp) (R : Value → Hp → Prop) : Prop :=
  Jn2 (fun x0_1 n2 h1 =>
      Jn2 (fun x0_2 n2_1 h2 =>
          Jn2 (fun x0_3 n2_2 h3 =>
              Vb (cvi .u8 x0_3) fun v21 =>
              Vb (idst (Value.string { data := (List.toArray (List.append (List.append [0, 1, 2, 2, 3, 3, 3, 3, 4, 4, 4, 4, 4, 4, 4, 4, 5, 5, 5, 5, 5, 5, 5, 5, 5, 5, 5, 5, 5, 5, 5, 5, 6, 6, 6, 6, 6, 6, 6, 6, 6, 6, 6, 6, 6, 6, 6, 6, 6, 6, 6, 6, 6, 6, 6, 6, 6, 6, 6, 6, 6, 6, 6, 6] [7, 7, 7, 7, 7, 7, 7, 7, 7, 7, 7, 7, 7, 7, 7, 7, 7, 7, 7, 7, 7, 7, 7, 7, 7, 7, 7, 7, 7, 7, 7, 7, 7, 7, 7, 7, 7, 7, 7, 7, 7, 7, 7, 7, 7, 7, 7, 7, 7, 7, 7, 7, 7, 7, 7, 7, 7, 7, 7, 7, 7, 7, 7, 7]) (List.append [8, 8, 8, 8, 8, 8, 8, 8, 8, 8, 8, 8, 8, 8, 8, 8, 8, 8, 8, 8, 8, 8, 8, 8, 8, 8, 8, 8, 8, 8, 8, 8, 8, 8, 8, 8, 8, 8, 8, 8, 8, 8, 8, 8, 8, 8, 8, 8, 8, 8, 8, 8, 8, 8, 8, 8, 8, 8, 8, 8, 8, 8, 8, 8] [8, 8, 8, 8, 8, 8, 8, 8, 8, 8, 8, 8, 8, 8, 8, 8, 8, 8, 8, 8, 8, 8, 8, 8, 8, 8, 8, 8, 8, 8, 8, 8, 8, 8, 8, 8, 8, 8, 8, 8, 8, 8, 8, 8, 8, 8, 8, 8, 8, 8, 8, 8, 8, 8, 8, 8, 8, 8, 8, 8, 8, 8, 8, 8]))) }) v21) fun v22 =>
              Vb (cvi .i64 v22) fun v23 =>
              Vb (bin .add n2_2 v23) fun v24 =>
              R v24 h3) fun J2 =>
          Vb (bin .geq x0_2 (Value.int IntKind.u64 256)) fun v14 =>
          Br v14 (
            Vb (bin .shr x0_2 (Value.int IntKind.u64 8)) fun v16 =>
            Vb (bin .add n2_1 (Value.int IntKind.i64 8)) fun v18 =>
            J2 v16 v18 h2) (
            J2 x0_2 n2_1 h2)) fun J1 =>
      Vb (bin .geq x0_1 (Value.int IntKind.u64 65536)) fun v8 =>
      Br v8 (
        Vb (bin .shr x0_1 (Value.int IntKind.u64 16)) fun v10 =>
        Vb (bin .add n2 (Value.int IntKind.i64 16)) fun v12 =>
        J1 v10 v12 h1) (
        J1 x0_1 n2 h1)) fun J0 =>
  Vb (bin .geq x0 (Value.int IntKind.u64 4294967296)) fun v4 =>
  Br v4 (
    Vb (bin .shr x0 (Value.int IntKind.u64 32)) fun v6 =>
    J0 v6 (Value.int IntKind.i64 32) h) (
    J0 x0 (Value.int IntKind.i64 0) h)

def F_slices_siftDownOrdered_api_Loc (S : Sys) (I : Ids) (data0 lo1 hi2 first3 : Value) (h : Hp) (R : Value → Hp → Prop) : Prop :=
  Lp1 lo1 h fun root8 h1 again0 =>
  Vb (bin .mul (Value.int IntKind.i64 2) root8) fun v12 =>
  Vb (bin .add v12 (Value.int IntKind.i64 1)) fun v13 =>
  Vb (bin .geq v13 hi2) fun v16 =>
  Br v16 (
    R (.tuple #[]) h1) (
    Jn1 (fun child9 h2 =>
        Vb (bin .add first3 root8) fun v42 =>
        Vb (ixs 1 data0 v42) fun v43 =>
        Vb (ldc v43 h2) fun v44 =>
        Vb (bin .add first3 child9) fun v48 =>
        Vb (ixs 1 data0 v48) fun v49 =>
        Vb (ldc v49 h2) fun v50 =>
        S.C I.f_cmp_Less_api_Loc [v44, v50] h2 fun v51 h3 =>
        Vb (uno .not v51) fun v52 =>
        Br v52 (
          R (.tuple #[]) h3) (
          Vb (bin .add first3 root8) fun v56 =>
          Vb (bin .add first3 child9) fun v60 =>
          Vb (bin .add first3 child9) fun v64 =>
          Vb (ixs 1 data0 v64) fun v65 =>
          Vb (ldc v65 h3) fun v66 =>
          Vb (bin .add first3 root8) fun v70 =>
          Vb (ixs 1 data0 v70) fun v71 =>
          Vb (ldc v71 h3) fun v72 =>
          Vb (ixs 1 data0 v56) fun v73 =>
          Sb (sto 1 v73 v66 h3) fun h4 =>
          Vb (ixs 1 data0 v60) fun v74 =>
          Sb (sto 1 v74 v72 h4) fun h5 =>
          again0 child9 h5)) fun J0 =>
    Jn1 (fun v36 h6 =>
        Br v36 (
          Vb (bin .add v13 (Value.int IntKind.i64 1)) fun v38 =>
          J0 v38 h6) (
          J0 v13 h6)) fun J1 =>
    Vb (bin .add v13 (Value.int IntKind.i64 1)) fun v18 =>
    Vb (bin .lss v18 hi2) fun v20 =>
    Br v20 (
      Vb (bin .add first3 v13) fun v25 =>
      Vb (ixs 1 data0 v25) fun v26 =>
      Vb (ldc v26 h1) fun v27 =>
      Vb (bin .add first3 v13) fun v31 =>
      Vb (bin .add v31 (Value.int IntKind.i64 1)) fun v32 =>
      Vb (ixs 1 data0 v32) fun v33 =>
      Vb (ldc v33 h1) fun v34 =>
      S.C I.f_cmp_Less_api_Loc [v27, v34] h1 fun v35 h7 =>
      J1 v35 h7) (
      J1 (Value.bool false) h1))

def F_slices_nextPowerOfTwo (S : Sys) (I : Ids) (length0 : Value) (h : Hp) (R : Value → Hp → Prop) : Prop :=
  Vb (cvi .u64 length0) fun v4 =>
  S.C I.f_math_bits_Len [v4] h fun v5 h1 =>
  Vb (bin .shl (Value.int IntKind.u64 1) v5) fun v6 =>
  R v6 h1

def F_slices_xorshift_Next (S : Sys) (I : Ids) (r0 : Value) (h : Hp) (R : Value → Hp → Prop) : Prop :=
  Vb (nck r0) fun v4 =>
  Vb (ldc v4 h) fun v5 =>
  Vb (nck r0) fun v7 =>
  Vb (ldc v7 h) fun v8 =>
  Vb (bin .shl v8 (Value.int IntKind.u64 13)) fun v9 =>
  Vb (bin .xor v5 v9) fun v10 =>
  Vb (nck r0) fun v11 =>
  Sb (sto 1 v11 v10 h) fun h1 =>
  Vb (nck r0) fun v13 =>
  Vb (ldc v13 h1) fun v14 =>
  Vb (nck r0) fun v16 =>
  Vb (ldc v16 h1) fun v17 =>
  Vb (bin .shr v17 (Value.int IntKind.u64 7)) fun v18 =>
  Vb (bin .xor v14 v18) fun v19 =>
  Vb (nck r0) fun v20 =>
  Sb (sto 1 v20 v19 h1) fun h2 =>
  Vb (nck r0) fun v22 =>
  Vb (ldc v22 h2) fun v23 =>
  Vb (nck r0) fun v25 =>
  Vb (ldc v25 h2) fun v26 =>
  Vb (bin .shl v26 (Value.int IntKind.u64 17)) fun v27 =>
  Vb (bin .xor v23 v27) fun v28 =>
  Vb (nck r0) fun v29 =>
  Sb (sto 1 v29 v28 h2) fun h3 =>
  Vb (nck r0) fun v31 =>
  Vb (ldc v31 h3) fun v32 =>
  R v32 h3

def F_slices_medianAdjacentOrdered_api_Loc (S : Sys) (I : Ids) (data0 a1 swaps2 : Value) (h : Hp) (R : Value → Hp → Prop) : Prop :=
  Vb (bin .sub a1 (Value.int IntKind.i64 1)) fun v9 =>
  Vb (bin .add a1 (Value.int IntKind.i64 1)) fun v12 =>
  S.C I.f_slices_medianOrdered_api_Loc [data0, v9, a1, v12, swaps2] h fun v14 h1 =>
  R v14 h1

def F_slices_medianOrdered_api_Loc (S : Sys) (I : Ids) (data0 a1 b2 c3 swaps4 : Value) (h : Hp) (R : Value → Hp → Prop) : Prop :=
  S.C I.f_slices_order2Ordered_api_Loc [data0, a1, b2, swaps4] h fun v16 h1 =>
  Vb (ext 0 v16) fun v17 =>
  Vb (ext 1 v16) fun v18 =>
  S.C I.f_slices_order2Ordered_api_Loc [data0, v18, c3, swaps4] h1 fun v24 h2 =>
  Vb (ext 0 v24) fun v25 =>
  Vb (ext 1 v24) fun v26 =>
  S.C I.f_slices_order2Ordered_api_Loc [data0, v17, v25, swaps4] h2 fun v32 h3 =>
  Vb (ext 0 v32) fun v33 =>
  Vb (ext 1 v32) fun v34 =>
  R v34 h3

def F_cmp_isNaN_api_Loc (S : Sys) (I : Ids) (x0 : Value) (h : Hp) (R : Value → Hp → Prop) : Prop :=
  Vb (bin .neq x0 x0) fun v5 =>
  R v5 h

def F_slices_order2Ordered_api_Loc (S : Sys) (I : Ids) (data0 a1 b2 swaps3 : Value) (h : Hp) (R : Value → Hp → Prop) : Prop :=
  Vb (ixs 1 data0 b2) fun v12 =>
  Vb (ldc v12 h) fun v13 =>
  Vb (ixs 1 data0 a1) fun v16 =>
  Vb (ldc v16 h) fun v17 =>
  S.C I.f_cmp_Less_api_Loc [v13, v17] h fun v18 h1 =>
  Br v18 (
    Vb (nck swaps3) fun v20 =>
    Vb (ldc v20 h1) fun v21 =>
    Vb (bin .add v21 (Value.int IntKind.i64 1)) fun v22 =>
    Vb (nck swaps3) fun v23 =>
    Sb (sto 1 v23 v22 h1) fun h2 =>
    R (.tuple #[b2, a1]) h2) (
    R (.tuple #[a1, b2]) h1)

end Go.En
