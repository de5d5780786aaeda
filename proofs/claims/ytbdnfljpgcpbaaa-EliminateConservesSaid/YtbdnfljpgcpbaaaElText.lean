/-
  Clean texts of 26 functions: what each of them does, printed by program out of the translation.
-/
import Derived.Test.YtbdnfljpgcpbaaaEngL
namespace Go.En
/-- the numbers of functions and types -/
structure Ids where
  f_simulcastlaw53_EliminatePairs : Nat
  f_simulcastlaw53_EliminateFast : Nat
  f_simulcastlaw53_EliminateSpares : Nat
  f_simulcastlaw53_EliminateApplies : Nat
  f_simulcastlaw53_EliminateWitness : Nat
  f_simulcastlaw53_EliminateAlone : Nat
  f_simulcastlaw53_EliminateConserves : Nat
  f_simulcastlaw53_great : Nat
  f_simulcastlaw53_awake : Nat
  f_eliminate_Pairs : Nat
  f_simulcastref53_Pairs : Nat
  f_simulcastlaw53_of : Nat
  f_slices_Equal_int_int : Nat
  f_eliminate_Order : Nat
  f_slices_Clone_int64_int64 : Nat
  f_eliminate_Fast : Nat
  f_simulcastref53_Fast : Nat
  f_slices_Equal_int64_int64 : Nat
  f_simulcastlaw53_same : Nat
  f_slices_Clone_eliminate_Op_eliminate_Op : Nat
  f_eliminate_Apply : Nat
  f_simulcastref53_Apply : Nat
  f_slices_Equal_api_Answer_api_Answer : Nat
  f_eliminate_firsts : Nat
  f_simulcastref53_first : Nat
  f_eliminate_apply : Nat
  t_int64 : Nat
  t_int : Nat
  t_bool : Nat
  t_2_int : Nat
  t_eliminate_Op : Nat
  t_api_Answer : Nat
  t_simulcastref53_Op : Nat
  t_simulcastref53_Answer : Nat

def F_simulcastlaw53_EliminatePairs (S : Sys) (I : Ids) (l0 : Value) (h : Hp) (R : Value → Hp → Prop) : Prop :=
  S.C I.f_simulcastlaw53_great [(Value.slice none 0 0), l0] h fun v11 h1 =>
  Br v11 (
    S.C I.f_simulcastlaw53_awake [] h1 fun v12 h2 =>
    R v12 h2) (
    S.C I.f_eliminate_Pairs [l0] h1 fun v15 h3 =>
    Vb (ext 0 v15) fun v16 =>
    Vb (ext 1 v15) fun v17 =>
    S.C I.f_simulcastlaw53_of [l0] h3 fun v20 h4 =>
    S.C I.f_simulcastref53_Pairs [v20] h4 fun v21 h5 =>
    Vb (ext 0 v21) fun v22 =>
    Vb (ext 1 v21) fun v23 =>
    Vb (ext 2 v21) fun v24 =>
    Jn1 (fun v35 h6 =>
        Br v35 (
          R (Value.bool false) h6) (
          Vb (lnS v16) fun v37 =>
          Lp2 (Value.slice none 0 0) (Value.int IntKind.i64 0) h6 fun order8 v38 h7 again0 =>
          Vb (bin .lss v38 v37) fun v39 =>
          Br v39 (
            Vb (ixs 2 v16 v38) fun v43 =>
            Vb (lda 2 v43 h7) fun v44 =>
            Vb (ixs 1 v22 v38) fun v47 =>
            Vb (ldc v47 h7) fun v48 =>
            Vb (ixs 1 v23 v38) fun v51 =>
            Vb (ldc v51 h7) fun v52 =>
            Vb (bldA 1 #[Value.int IntKind.i64 0, Value.int IntKind.i64 0] [(0, v48), (1, v52)]) fun v53 =>
            Vb (neg? (eqA [true, true] v44 v53)) fun v54 =>
            Br v54 (
              R (Value.bool false) h7) (
              Vb (ixs 1 v22 v38) fun v58 =>
              Vb (ldc v58 h7) fun v59 =>
              Vb (ixs 1 v23 v38) fun v62 =>
              Vb (ldc v62 h7) fun v63 =>
              Eb (bsl #[Value.int IntKind.i64 0] 1 2 I.t_int [(0, v59), (1, v63)] h7) fun v64 h8 =>
              Ap I.t_int #[Value.int IntKind.i64 0] 1 8 order8 v64 h8 fun v65 h9 =>
              Vb (bin .add v38 (Value.int IntKind.i64 1)) fun v66 =>
              again0 v65 v66 h9)) (
            Jn1 (fun v2 h10 =>
                R v2 h10) fun J1 =>
            S.C I.f_eliminate_Order [l0] h7 fun v68 h11 =>
            Ap I.t_int #[Value.int IntKind.i64 0] 1 8 order8 v24 h11 fun v71 h12 =>
            S.C I.f_slices_Equal_int_int [v68, v71] h12 fun v72 h13 =>
            Br v72 (
              S.C I.f_simulcastlaw53_awake [] h13 fun v74 h14 =>
              J1 v74 h14) (
              J1 (Value.bool false) h13)))) fun J0 =>
    Vb (lnS v16) fun v26 =>
    Vb (lnS v22) fun v28 =>
    Vb (bin .neq v26 v28) fun v29 =>
    Br v29 (
      J0 (Value.bool true) h5) (
      S.C I.f_slices_Equal_int_int [v17, v24] h5 fun v33 h15 =>
      Vb (uno .not v33) fun v34 =>
      J0 v34 h15))

def F_simulcastlaw53_EliminateFast (S : Sys) (I : Ids) (stack0 l1 : Value) (h : Hp) (R : Value → Hp → Prop) : Prop :=
  S.C I.f_simulcastlaw53_great [stack0, l1] h fun v12 h1 =>
  Br v12 (
    S.C I.f_simulcastlaw53_awake [] h1 fun v13 h2 =>
    R v13 h2) (
    S.C I.f_slices_Clone_int64_int64 [stack0] h1 fun v15 h3 =>
    S.C I.f_eliminate_Fast [stack0, l1] h3 fun v19 h4 =>
    Vb (ext 0 v19) fun v20 =>
    Vb (ext 1 v19) fun v21 =>
    S.C I.f_simulcastlaw53_of [l1] h4 fun v25 h5 =>
    S.C I.f_simulcastref53_Fast [v15, v25] h5 fun v26 h6 =>
    Vb (ext 0 v26) fun v27 =>
    Vb (ext 1 v26) fun v28 =>
    Jn1 (fun v4 h7 =>
        R v4 h7) fun J0 =>
    S.C I.f_slices_Equal_int64_int64 [v20, v27] h6 fun v31 h8 =>
    Br v31 (
      S.C I.f_simulcastlaw53_same [v21, v28] h8 fun v35 h9 =>
      Br v35 (
        S.C I.f_slices_Equal_int64_int64 [stack0, v15] h9 fun v40 h10 =>
        Br v40 (
          S.C I.f_simulcastlaw53_awake [] h10 fun v43 h11 =>
          J0 v43 h11) (
          J0 (Value.bool false) h10)) (
        Br (Value.bool false) (
          S.C I.f_simulcastlaw53_awake [] h9 fun v43_1 h12 =>
          J0 v43_1 h12) (
          J0 (Value.bool false) h9))) (
      Br (Value.bool false) (
        S.C I.f_slices_Equal_int64_int64 [stack0, v15] h8 fun v40_1 h13 =>
        Br v40_1 (
          S.C I.f_simulcastlaw53_awake [] h13 fun v43_2 h14 =>
          J0 v43_2 h14) (
          J0 (Value.bool false) h13)) (
        Br (Value.bool false) (
          S.C I.f_simulcastlaw53_awake [] h8 fun v43_3 h15 =>
          J0 v43_3 h15) (
          J0 (Value.bool false) h8))))

def F_simulcastlaw53_EliminateSpares (S : Sys) (I : Ids) (stack0 vs1 turn2 : Value) (h : Hp) (R : Value → Hp → Prop) : Prop :=
  Jn1 (fun v24 h1 =>
      Br v24 (
        S.C I.f_simulcastlaw53_awake [] h1 fun v25 h2 =>
        R v25 h2) (
        Vb (lnS vs1) fun v27 =>
        Lp2 (Value.slice none 0 0) (Value.int IntKind.i64 0) h1 fun l7 v28 h3 again0 =>
        Vb (bin .lss v28 v27) fun v29 =>
        Br v29 (
          Vb (ixs 1 vs1 v28) fun v31 =>
          Vb (ldc v31 h3) fun v32 =>
          Vb (bin .mul (Value.int IntKind.i64 2) v28) fun v35 =>
          Vb (bldS [(0, 1), (1, 1), (2, 1)] #[Value.int IntKind.i64 0, Value.bool false, Value.int IntKind.i64 0] [(0, v35), (1, (Value.bool true)), (2, v32)]) fun v37 =>
          Vb (bin .mul (Value.int IntKind.i64 2) v28) fun v39 =>
          Vb (bin .add v39 (Value.int IntKind.i64 1)) fun v40 =>
          Vb (bldS [(0, 1), (1, 1), (2, 1)] #[Value.int IntKind.i64 0, Value.bool false, Value.int IntKind.i64 0] [(0, v40)]) fun v41 =>
          Eb (bsl #[Value.int IntKind.i64 0, Value.bool false, Value.int IntKind.i64 0] 3 2 I.t_eliminate_Op [(0, v37), (1, v41)] h3) fun v42 h4 =>
          Ap I.t_eliminate_Op #[Value.int IntKind.i64 0, Value.bool false, Value.int IntKind.i64 0] 3 24 l7 v42 h4 fun v43 h5 =>
          Vb (bin .add v28 (Value.int IntKind.i64 1)) fun v44 =>
          again0 v43 v44 h5) (
          Jn1 (fun n10 h6 =>
              Vb (slc 3 l7 (some n10) none none) fun v55 =>
              Vb (slc 3 l7 none (some n10) none) fun v59 =>
              S.C I.f_slices_Clone_eliminate_Op_eliminate_Op [v55] h6 fun v56 h7 =>
              Ap I.t_eliminate_Op #[Value.int IntKind.i64 0, Value.bool false, Value.int IntKind.i64 0] 3 24 v56 v59 h7 fun v60 h8 =>
              S.C I.f_eliminate_Fast [stack0, v60] h8 fun v64 h9 =>
              Vb (ext 0 v64) fun v65 =>
              Vb (ext 1 v64) fun v66 =>
              Jn1 (fun v77 h10 =>
                  Br v77 (
                    R (Value.bool false) h10) (
                    Vb (lnS v60) fun v79 =>
                    Lp3 (Value.slice none 0 0) (Value.slice none 0 0) (Value.int IntKind.i64 0) h10 fun pushed13 popped14 v80 h11 again1 =>
                    Vb (bin .lss v80 v79) fun v81 =>
                    Br v81 (
                      Jn2 (fun pushed13_1 popped14_1 h12 =>
                          Vb (bin .add v80 (Value.int IntKind.i64 1)) fun v106 =>
                          again1 pushed13_1 popped14_1 v106 h12) fun J3 =>
                      Vb (ixs 3 v60 v80) fun v83 =>
                      Vb (lda 3 v83 h11) fun v84 =>
                      Eb (nw #[Value.int IntKind.i64 0, Value.bool false, Value.int IntKind.i64 0] I.t_eliminate_Op h11) fun o16 h13 =>
                      Sb (sto 3 o16 v84 h13) fun h14 =>
                      Vb (ixs 2 v66 v80) fun v87 =>
                      Vb (fa 0 v87) fun v88 =>
                      Vb (ldc v88 h14) fun v89 =>
                      Vb (bin .neq v89 (Value.int IntKind.i64 0)) fun v90 =>
                      Br v90 (
                        R (Value.bool false) h14) (
                        Vb (fa 1 o16) fun v91 =>
                        Vb (ldc v91 h14) fun v92 =>
                        Br v92 (
                          Vb (fa 2 o16) fun v94 =>
                          Vb (ldc v94 h14) fun v95 =>
                          Eb (bsl #[Value.int IntKind.i64 0] 1 1 I.t_int64 [(0, v95)] h14) fun v96 h15 =>
                          Ap I.t_int64 #[Value.int IntKind.i64 0] 1 8 pushed13 v96 h15 fun v97 h16 =>
                          J3 v97 popped14 h16) (
                          Vb (ixs 2 v66 v80) fun v101 =>
                          Vb (fa 1 v101) fun v102 =>
                          Vb (ldc v102 h14) fun v103 =>
                          Eb (bsl #[Value.int IntKind.i64 0] 1 1 I.t_int64 [(0, v103)] h14) fun v104 h17 =>
                          Ap I.t_int64 #[Value.int IntKind.i64 0] 1 8 popped14 v104 h17 fun v105 h18 =>
                          J3 pushed13 v105 h18))) (
                      Jn1 (fun v6 h19 =>
                          R v6 h19) fun J4 =>
                      S.C I.f_slices_Equal_int64_int64 [pushed13, popped14] h11 fun v109 h20 =>
                      Br v109 (
                        S.C I.f_simulcastlaw53_awake [] h20 fun v111 h21 =>
                        J4 v111 h21) (
                        J4 (Value.bool false) h20)))) fun J2 =>
              S.C I.f_slices_Equal_int64_int64 [v65, stack0] h9 fun v69 h22 =>
              Vb (uno .not v69) fun v70 =>
              Br v70 (
                J2 (Value.bool true) h22) (
                Vb (lnS v66) fun v73 =>
                Vb (lnS v60) fun v75 =>
                Vb (bin .neq v73 v75) fun v76 =>
                J2 v76 h22)) fun J1 =>
          Vb (lnS l7) fun v46 =>
          Vb (bin .gtr v46 (Value.int IntKind.i64 0)) fun v47 =>
          Br v47 (
            Vb (cvi .i64 turn2) fun v49 =>
            Vb (lnS l7) fun v51 =>
            Vb (bin .rem v49 v51) fun v52 =>
            J1 v52 h3) (
            J1 (Value.int IntKind.i64 0) h3)))) fun J0 =>
  Vb (lnS stack0) fun v18 =>
  Vb (bin .gtr v18 (Value.int IntKind.i64 100)) fun v19 =>
  Br v19 (
    J0 (Value.bool true) h) (
    Vb (lnS vs1) fun v22 =>
    Vb (bin .gtr v22 (Value.int IntKind.i64 25)) fun v23 =>
    J0 v23 h)

def F_simulcastlaw53_EliminateApplies (S : Sys) (I : Ids) (stack0 l1 : Value) (h : Hp) (R : Value → Hp → Prop) : Prop :=
  S.C I.f_simulcastlaw53_great [stack0, l1] h fun v12 h1 =>
  Br v12 (
    S.C I.f_simulcastlaw53_awake [] h1 fun v13 h2 =>
    R v13 h2) (
    S.C I.f_slices_Clone_int64_int64 [stack0] h1 fun v15 h3 =>
    S.C I.f_eliminate_Apply [stack0, l1] h3 fun v19 h4 =>
    Vb (ext 0 v19) fun v20 =>
    Vb (ext 1 v19) fun v21 =>
    S.C I.f_simulcastlaw53_of [l1] h4 fun v25 h5 =>
    S.C I.f_simulcastref53_Apply [v15, v25] h5 fun v26 h6 =>
    Vb (ext 0 v26) fun v27 =>
    Vb (ext 1 v26) fun v28 =>
    Jn1 (fun v4 h7 =>
        R v4 h7) fun J0 =>
    S.C I.f_slices_Equal_int64_int64 [v20, v27] h6 fun v31 h8 =>
    Br v31 (
      S.C I.f_simulcastlaw53_same [v21, v28] h8 fun v35 h9 =>
      Br v35 (
        S.C I.f_slices_Equal_int64_int64 [stack0, v15] h9 fun v40 h10 =>
        Br v40 (
          S.C I.f_simulcastlaw53_awake [] h10 fun v43 h11 =>
          J0 v43 h11) (
          J0 (Value.bool false) h10)) (
        Br (Value.bool false) (
          S.C I.f_simulcastlaw53_awake [] h9 fun v43_1 h12 =>
          J0 v43_1 h12) (
          J0 (Value.bool false) h9))) (
      Br (Value.bool false) (
        S.C I.f_slices_Equal_int64_int64 [stack0, v15] h8 fun v40_1 h13 =>
        Br v40_1 (
          S.C I.f_simulcastlaw53_awake [] h13 fun v43_2 h14 =>
          J0 v43_2 h14) (
          J0 (Value.bool false) h13)) (
        Br (Value.bool false) (
          S.C I.f_simulcastlaw53_awake [] h8 fun v43_3 h15 =>
          J0 v43_3 h15) (
          J0 (Value.bool false) h8))))

def F_simulcastlaw53_EliminateWitness (S : Sys) (I : Ids) (stack0 l1 : Value) (h : Hp) (R : Value → Hp → Prop) : Prop :=
  S.C I.f_simulcastlaw53_great [stack0, l1] h fun v21 h1 =>
  Br v21 (
    S.C I.f_simulcastlaw53_awake [] h1 fun v22 h2 =>
    R v22 h2) (
    S.C I.f_eliminate_Order [l1] h1 fun v24 h3 =>
    Vb (lnS l1) fun v26 =>
    Eb (msl #[Value.bool false] 1 1 I.t_bool v26 v26 h3) fun v27 h4 =>
    Eb (mmk h4) fun v28 h5 =>
    Vb (lnS v24) fun v30 =>
    Lp2 (Value.slice none 0 0) (Value.int IntKind.i64 0) h5 fun turned6 v31 h6 again0 =>
    Vb (bin .lss v31 v30) fun v32 =>
    Br v32 (
      Vb (ixs 1 v24 v31) fun v33 =>
      Vb (ldc v33 h6) fun v34 =>
      Jn1 (fun v48 h7 =>
          Br v48 (
            R (Value.bool false) h7) (
            Vb (ixs 1 v27 v34) fun v51 =>
            Sb (sto 1 v51 (Value.bool true) h7) fun h8 =>
            Vb (ixs 3 l1 v34) fun v56 =>
            Vb (fa 0 v56) fun v57 =>
            Vb (ldc v57 h8) fun v58 =>
            Vb (lkm (.int .i64) (Value.int IntKind.i64 0) true v28 v58 h8) fun v59 =>
            Vb (ext 0 v59) fun v60 =>
            Vb (ext 1 v59) fun v61 =>
            Jn1 (fun v67 h9 =>
                Br v67 (
                  R (Value.bool false) h9) (
                  Vb (ixs 3 l1 v34) fun v71 =>
                  Vb (fa 0 v71) fun v72 =>
                  Vb (ldc v72 h9) fun v73 =>
                  Sb (mup (.int .i64) v28 v73 v34 h9) fun h10 =>
                  Vb (ixs 3 l1 v34) fun v78 =>
                  Vb (lda 3 v78 h10) fun v79 =>
                  Eb (bsl #[Value.int IntKind.i64 0, Value.bool false, Value.int IntKind.i64 0] 3 1 I.t_eliminate_Op [(0, v79)] h10) fun v80 h11 =>
                  Ap I.t_eliminate_Op #[Value.int IntKind.i64 0, Value.bool false, Value.int IntKind.i64 0] 3 24 turned6 v80 h11 fun v81 h12 =>
                  Vb (bin .add v31 (Value.int IntKind.i64 1)) fun v82 =>
                  again0 v81 v82 h12)) fun J1 =>
            Br v61 (
              Vb (bin .gtr v60 v34) fun v66 =>
              J1 v66 h8) (
              J1 (Value.bool false) h8))) fun J0 =>
      Vb (bin .lss v34 (Value.int IntKind.i64 0)) fun v36 =>
      Br v36 (
        Br (Value.bool true) (
          J0 (Value.bool true) h6) (
          Vb (ixs 1 v27 v34) fun v46 =>
          Vb (ldc v46 h6) fun v47 =>
          J0 v47 h6)) (
        Vb (lnS l1) fun v40 =>
        Vb (bin .geq v34 v40) fun v41 =>
        Br v41 (
          J0 (Value.bool true) h6) (
          Vb (ixs 1 v27 v34) fun v46_1 =>
          Vb (ldc v46_1 h6) fun v47_1 =>
          J0 v47_1 h6))) (
      S.C I.f_eliminate_Fast [stack0, l1] h6 fun v86 h13 =>
      Vb (ext 0 v86) fun v87 =>
      Vb (ext 1 v86) fun v88 =>
      S.C I.f_eliminate_Apply [stack0, turned6] h13 fun v92 h14 =>
      Vb (ext 0 v92) fun v93 =>
      Vb (ext 1 v92) fun v94 =>
      Jn1 (fun v119 h15 =>
          Br v119 (
            R (Value.bool false) h15) (
            Vb (lnS v24) fun v121 =>
            Lp1 (Value.int IntKind.i64 0) h15 fun v122 h16 again1 =>
            Vb (bin .lss v122 v121) fun v123 =>
            Br v123 (
              Vb (ixs 1 v24 v122) fun v125 =>
              Vb (ldc v125 h16) fun v126 =>
              Vb (ixs 2 v88 v126) fun v129 =>
              Vb (lda 2 v129 h16) fun v130 =>
              Vb (ixs 2 v94 v122) fun v133 =>
              Vb (lda 2 v133 h16) fun v134 =>
              Vb (neg? (eqA [true, true] v130 v134)) fun v135 =>
              Br v135 (
                R (Value.bool false) h16) (
                Vb (bin .add v122 (Value.int IntKind.i64 1)) fun v136 =>
                again1 v136 h16)) (
              S.C I.f_simulcastlaw53_awake [] h16 fun v137 h17 =>
              R v137 h17))) fun J2 =>
      Vb (lnS v24) fun v96 =>
      Vb (lnS l1) fun v98 =>
      Vb (bin .neq v96 v98) fun v99 =>
      Br v99 (
        Br (Value.bool true) (
          Br (Value.bool true) (
            J2 (Value.bool true) h14) (
            Vb (lnS v94) fun v115 =>
            Vb (lnS l1) fun v117 =>
            Vb (bin .neq v115 v117) fun v118 =>
            J2 v118 h14)) (
          Vb (lnS v88) fun v108 =>
          Vb (lnS l1) fun v110 =>
          Vb (bin .neq v108 v110) fun v111 =>
          Br v111 (
            J2 (Value.bool true) h14) (
            Vb (lnS v94) fun v115_1 =>
            Vb (lnS l1) fun v117_1 =>
            Vb (bin .neq v115_1 v117_1) fun v118_1 =>
            J2 v118_1 h14))) (
        S.C I.f_slices_Equal_int64_int64 [v87, v93] h14 fun v103 h18 =>
        Vb (uno .not v103) fun v104 =>
        Br v104 (
          Br (Value.bool true) (
            J2 (Value.bool true) h18) (
            Vb (lnS v94) fun v115_2 =>
            Vb (lnS l1) fun v117_2 =>
            Vb (bin .neq v115_2 v117_2) fun v118_2 =>
            J2 v118_2 h18)) (
          Vb (lnS v88) fun v108_1 =>
          Vb (lnS l1) fun v110_1 =>
          Vb (bin .neq v108_1 v110_1) fun v111_1 =>
          Br v111_1 (
            J2 (Value.bool true) h18) (
            Vb (lnS v94) fun v115_3 =>
            Vb (lnS l1) fun v117_3 =>
            Vb (bin .neq v115_3 v117_3) fun v118_3 =>
            J2 v118_3 h18)))))

def F_simulcastlaw53_EliminateAlone (S : Sys) (I : Ids) (stack0 l1 how2 : Value) (h : Hp) (R : Value → Hp → Prop) : Prop :=
  S.C I.f_simulcastlaw53_great [stack0, l1] h fun v17 h1 =>
  Br v17 (
    S.C I.f_simulcastlaw53_awake [] h1 fun v18 h2 =>
    R v18 h2) (
    S.C I.f_slices_Clone_eliminate_Op_eliminate_Op [l1] h1 fun v20 h3 =>
    Vb (lnS v20) fun v22 =>
    Lp1 (Value.int IntKind.i64 0) h3 fun v23 h4 again0 =>
    Vb (bin .lss v23 v22) fun v24 =>
    Br v24 (
      Jn0 (fun h5 =>
          Vb (bin .add v23 (Value.int IntKind.i64 1)) fun v40 =>
          again0 v40 h5) fun J0 =>
      Vb (bin .rem how2 (Value.int IntKind.u8 2)) fun v27 =>
      Vb (bin .eql v27 (Value.int IntKind.u8 0)) fun v28 =>
      Br v28 (
        Vb (ixs 3 v20 v23) fun v31 =>
        Vb (fa 0 v31) fun v32 =>
        Sb (sto 1 v32 (Value.int IntKind.i64 3) h4) fun h6 =>
        J0 h6) (
        Vb (bin .rem how2 (Value.int IntKind.u8 4)) fun v36 =>
        Vb (bin .eql v36 (Value.int IntKind.u8 1)) fun v37 =>
        Vb (ixs 3 v20 v23) fun v38 =>
        Vb (fa 1 v38) fun v39 =>
        Sb (sto 1 v39 v37 h4) fun h7 =>
        J0 h7)) (
      S.C I.f_eliminate_Pairs [v20] h4 fun v43 h8 =>
      Vb (ext 0 v43) fun v44 =>
      Vb (ext 1 v43) fun v45 =>
      S.C I.f_eliminate_Fast [stack0, v20] h8 fun v49 h9 =>
      Vb (ext 0 v49) fun v50 =>
      Vb (ext 1 v49) fun v51 =>
      S.C I.f_eliminate_Apply [stack0, v20] h9 fun v55 h10 =>
      Vb (ext 0 v55) fun v56 =>
      Vb (ext 1 v55) fun v57 =>
      Jn1 (fun v6 h11 =>
          R v6 h11) fun J1 =>
      Vb (lnS v44) fun v59 =>
      Vb (bin .eql v59 (Value.int IntKind.i64 0)) fun v60 =>
      Br v60 (
        Vb (lnS v45) fun v63 =>
        Vb (lnS v20) fun v65 =>
        Vb (bin .eql v63 v65) fun v66 =>
        Br v66 (
          S.C I.f_slices_Equal_int64_int64 [v50, v56] h10 fun v71 h12 =>
          Br v71 (
            S.C I.f_slices_Equal_api_Answer_api_Answer [v51, v57] h12 fun v76 h13 =>
            Br v76 (
              S.C I.f_simulcastlaw53_awake [] h13 fun v79 h14 =>
              J1 v79 h14) (
              J1 (Value.bool false) h13)) (
            Br (Value.bool false) (
              S.C I.f_simulcastlaw53_awake [] h12 fun v79_1 h15 =>
              J1 v79_1 h15) (
              J1 (Value.bool false) h12))) (
          Br (Value.bool false) (
            S.C I.f_slices_Equal_api_Answer_api_Answer [v51, v57] h10 fun v76_1 h16 =>
            Br v76_1 (
              S.C I.f_simulcastlaw53_awake [] h16 fun v79_2 h17 =>
              J1 v79_2 h17) (
              J1 (Value.bool false) h16)) (
            Br (Value.bool false) (
              S.C I.f_simulcastlaw53_awake [] h10 fun v79_3 h18 =>
              J1 v79_3 h18) (
              J1 (Value.bool false) h10)))) (
        Br (Value.bool false) (
          S.C I.f_slices_Equal_int64_int64 [v50, v56] h10 fun v71_1 h19 =>
          Br v71_1 (
            S.C I.f_slices_Equal_api_Answer_api_Answer [v51, v57] h19 fun v76_2 h20 =>
            Br v76_2 (
              S.C I.f_simulcastlaw53_awake [] h20 fun v79_4 h21 =>
              J1 v79_4 h21) (
              J1 (Value.bool false) h20)) (
            Br (Value.bool false) (
              S.C I.f_simulcastlaw53_awake [] h19 fun v79_5 h22 =>
              J1 v79_5 h22) (
              J1 (Value.bool false) h19))) (
          Br (Value.bool false) (
            S.C I.f_slices_Equal_api_Answer_api_Answer [v51, v57] h10 fun v76_3 h23 =>
            Br v76_3 (
              S.C I.f_simulcastlaw53_awake [] h23 fun v79_6 h24 =>
              J1 v79_6 h24) (
              J1 (Value.bool false) h23)) (
            Br (Value.bool false) (
              S.C I.f_simulcastlaw53_awake [] h10 fun v79_7 h25 =>
              J1 v79_7 h25) (
              J1 (Value.bool false) h10))))))

def F_simulcastlaw53_EliminateConserves (S : Sys) (I : Ids) (stack0 l1 : Value) (h : Hp) (R : Value → Hp → Prop) : Prop :=
  S.C I.f_simulcastlaw53_great [stack0, l1] h fun v20 h1 =>
  Br v20 (
    S.C I.f_simulcastlaw53_awake [] h1 fun v21 h2 =>
    R v21 h2) (
    Eb (bsl #[Value.bool false] 1 2 I.t_bool [(0, (Value.bool false)), (1, (Value.bool true))] h1) fun v22 h3 =>
    Vb (lnS v22) fun v23 =>
    Lp1 (Value.int IntKind.i64 0) h3 fun v24 h4 again0 =>
    Vb (bin .lss v24 v23) fun v25 =>
    Br v25 (
      Vb (ixs 1 v22 v24) fun v26 =>
      Vb (ldc v26 h4) fun v27 =>
      S.C I.f_eliminate_Apply [stack0, l1] h4 fun v31 h5 =>
      Vb (ext 0 v31) fun v32 =>
      Vb (ext 1 v31) fun v33 =>
      Jn2 (fun s7 a8 h6 =>
          Vb (lnS a8) fun v42 =>
          Vb (lnS l1) fun v44 =>
          Vb (bin .neq v42 v44) fun v45 =>
          Br v45 (
            R (Value.bool false) h6) (
            Eb (mmk h6) fun v46 h7 =>
            Vb (lnS stack0) fun v48 =>
            Lp1 (Value.int IntKind.i64 0) h7 fun v49 h8 again1 =>
            Vb (bin .lss v49 v48) fun v50 =>
            Br v50 (
              Vb (ixs 1 stack0 v49) fun v51 =>
              Vb (ldc v51 h8) fun v52 =>
              Vb (lkm (.int .i64) (Value.int IntKind.i64 0) false v46 v52 h8) fun v55 =>
              Vb (bin .add v55 (Value.int IntKind.i64 1)) fun v56 =>
              Sb (mup (.int .i64) v46 v52 v56 h8) fun h9 =>
              Vb (bin .add v49 (Value.int IntKind.i64 1)) fun v57 =>
              again1 v57 h9) (
              Vb (lnS l1) fun v59 =>
              Lp1 (Value.int IntKind.i64 0) h8 fun v60 h10 again2 =>
              Vb (bin .lss v60 v59) fun v61 =>
              Br v61 (
                Jn0 (fun h11 =>
                    Vb (bin .add v60 (Value.int IntKind.i64 1)) fun v88 =>
                    again2 v88 h11) fun J1 =>
                Vb (ixs 3 l1 v60) fun v63 =>
                Vb (lda 3 v63 h10) fun v64 =>
                Eb (nw #[Value.int IntKind.i64 0, Value.bool false, Value.int IntKind.i64 0] I.t_eliminate_Op h10) fun o13 h12 =>
                Sb (sto 3 o13 v64 h12) fun h13 =>
                Vb (fa 1 o13) fun v66 =>
                Vb (ldc v66 h13) fun v67 =>
                Br v67 (
                  Vb (fa 2 o13) fun v69 =>
                  Vb (ldc v69 h13) fun v70 =>
                  Vb (lkm (.int .i64) (Value.int IntKind.i64 0) false v46 v70 h13) fun v71 =>
                  Vb (bin .add v71 (Value.int IntKind.i64 1)) fun v72 =>
                  Sb (mup (.int .i64) v46 v70 v72 h13) fun h14 =>
                  J1 h14) (
                  Vb (ixs 2 a8 v60) fun v76 =>
                  Vb (fa 0 v76) fun v77 =>
                  Vb (ldc v77 h13) fun v78 =>
                  Vb (bin .eql v78 (Value.int IntKind.i64 0)) fun v79 =>
                  Br v79 (
                    Vb (ixs 2 a8 v60) fun v83 =>
                    Vb (fa 1 v83) fun v84 =>
                    Vb (ldc v84 h13) fun v85 =>
                    Vb (lkm (.int .i64) (Value.int IntKind.i64 0) false v46 v85 h13) fun v86 =>
                    Vb (bin .sub v86 (Value.int IntKind.i64 1)) fun v87 =>
                    Sb (mup (.int .i64) v46 v85 v87 h13) fun h15 =>
                    J1 h15) (
                    J1 h13))) (
                Vb (lnS s7) fun v90 =>
                Lp1 (Value.int IntKind.i64 0) h10 fun v91 h16 again3 =>
                Vb (bin .lss v91 v90) fun v92 =>
                Br v92 (
                  Vb (ixs 1 s7 v91) fun v93 =>
                  Vb (ldc v93 h16) fun v94 =>
                  Vb (lkm (.int .i64) (Value.int IntKind.i64 0) false v46 v94 h16) fun v97 =>
                  Vb (bin .sub v97 (Value.int IntKind.i64 1)) fun v98 =>
                  Sb (mup (.int .i64) v46 v94 v98 h16) fun h17 =>
                  Vb (bin .add v91 (Value.int IntKind.i64 1)) fun v99 =>
                  again3 v99 h17) (
                  Eb (rng v46 h16) fun v101 h18 =>
                  Lp0 h18 fun h19 again4 =>
                  Nx v101 h19 fun v102 h20 =>
                  Vb (ext 0 v102) fun v103 =>
                  Br v103 (
                    Vb (ent v101 h20) fun v104 =>
                    Vb (ext 1 v104) fun v105 =>
                    Vb (bin .neq v105 (Value.int IntKind.i64 0)) fun v107 =>
                    Br v107 (
                      R (Value.bool false) h20) (
                      again4 h20)) (
                    Vb (bin .add v24 (Value.int IntKind.i64 1)) fun v108 =>
                    again0 v108 h20)))))) fun J0 =>
      Br v27 (
        S.C I.f_eliminate_Fast [stack0, l1] h5 fun v38 h21 =>
        Vb (ext 0 v38) fun v39 =>
        Vb (ext 1 v38) fun v40 =>
        J0 v39 v40 h21) (
        J0 v32 v33 h5)) (
      S.C I.f_simulcastlaw53_awake [] h4 fun v109 h22 =>
      R v109 h22))

def F_simulcastlaw53_great (S : Sys) (I : Ids) (stack0 l1 : Value) (h : Hp) (R : Value → Hp → Prop) : Prop :=
  Jn1 (fun v4 h1 =>
      R v4 h1) fun J0 =>
  Vb (lnS stack0) fun v6 =>
  Vb (bin .gtr v6 (Value.int IntKind.i64 100)) fun v7 =>
  Br v7 (
    J0 (Value.bool true) h) (
    Vb (lnS l1) fun v10 =>
    Vb (bin .gtr v10 (Value.int IntKind.i64 60)) fun v11 =>
    J0 v11 h)

def F_simulcastlaw53_awake (S : Sys) (I : Ids) (h : Hp) (R : Value → Hp → Prop) : Prop :=
  Vb (bldS [(0, 1), (1, 1), (2, 1)] #[Value.int IntKind.i64 0, Value.bool false, Value.int IntKind.i64 0] [(0, (Value.int IntKind.i64 1))]) fun v6 =>
  Vb (bldS [(0, 1), (1, 1), (2, 1)] #[Value.int IntKind.i64 0, Value.bool false, Value.int IntKind.i64 0] [(0, (Value.int IntKind.i64 2)), (1, (Value.bool true)), (2, (Value.int IntKind.i64 7))]) fun v7 =>
  Vb (bldS [(0, 1), (1, 1), (2, 1)] #[Value.int IntKind.i64 0, Value.bool false, Value.int IntKind.i64 0] [(0, (Value.int IntKind.i64 3)), (1, (Value.bool true)), (2, (Value.int IntKind.i64 8))]) fun v8 =>
  Eb (bsl #[Value.int IntKind.i64 0, Value.bool false, Value.int IntKind.i64 0] 3 3 I.t_eliminate_Op [(0, v6), (1, v7), (2, v8)] h) fun v9 h1 =>
  S.C I.f_eliminate_Pairs [v9] h1 fun v12 h2 =>
  Vb (ext 0 v12) fun v13 =>
  Vb (ext 1 v12) fun v14 =>
  Eb (bsl #[Value.int IntKind.i64 0] 1 1 I.t_int64 [(0, (Value.int IntKind.i64 5))] h2) fun v16 h3 =>
  S.C I.f_eliminate_Fast [v16, v9] h3 fun v18 h4 =>
  Vb (ext 0 v18) fun v19 =>
  Vb (ext 1 v18) fun v20 =>
  Jn1 (fun v0 h5 =>
      R v0 h5) fun J0 =>
  Vb (lnS v13) fun v22 =>
  Vb (bin .eql v22 (Value.int IntKind.i64 1)) fun v23 =>
  Br v23 (
    Vb (ixs 2 v13 (Value.int IntKind.i64 0)) fun v26 =>
    Vb (lda 2 v26 h4) fun v27 =>
    Vb (bldA 1 #[Value.int IntKind.i64 0, Value.int IntKind.i64 0] [(0, (Value.int IntKind.i64 1)), (1, (Value.int IntKind.i64 0))]) fun v28 =>
    Vb (pos? (eqA [true, true] v27 v28)) fun v29 =>
    Br v29 (
      Eb (bsl #[Value.int IntKind.i64 0] 1 1 I.t_int [(0, (Value.int IntKind.i64 2))] h4) fun v33 h6 =>
      S.C I.f_slices_Equal_int_int [v14, v33] h6 fun v34 h7 =>
      Br v34 (
        S.C I.f_eliminate_Order [v9] h7 fun v38 h8 =>
        Eb (bsl #[Value.int IntKind.i64 0] 1 3 I.t_int [(0, (Value.int IntKind.i64 1)), (1, (Value.int IntKind.i64 0)), (2, (Value.int IntKind.i64 2))] h8) fun v39 h9 =>
        S.C I.f_slices_Equal_int_int [v38, v39] h9 fun v40 h10 =>
        Br v40 (
          Eb (bsl #[Value.int IntKind.i64 0] 1 2 I.t_int64 [(0, (Value.int IntKind.i64 5)), (1, (Value.int IntKind.i64 8))] h10) fun v44 h11 =>
          S.C I.f_slices_Equal_int64_int64 [v19, v44] h11 fun v45 h12 =>
          Br v45 (
            Vb (lnS v20) fun v49 =>
            Vb (bin .eql v49 (Value.int IntKind.i64 3)) fun v50 =>
            Br v50 (
              Vb (ixs 2 v20 (Value.int IntKind.i64 0)) fun v54 =>
              Vb (fa 1 v54) fun v55 =>
              Vb (ldc v55 h12) fun v56 =>
              Vb (bin .eql v56 (Value.int IntKind.i64 7)) fun v57 =>
              Br v57 (
                Vb (ixs 2 v20 (Value.int IntKind.i64 2)) fun v61 =>
                Vb (fa 1 v61) fun v62 =>
                Vb (ldc v62 h12) fun v63 =>
                Vb (bin .eql v63 (Value.int IntKind.i64 8)) fun v64 =>
                J0 v64 h12) (
                J0 (Value.bool false) h12)) (
              Br (Value.bool false) (
                Vb (ixs 2 v20 (Value.int IntKind.i64 2)) fun v61_1 =>
                Vb (fa 1 v61_1) fun v62_1 =>
                Vb (ldc v62_1 h12) fun v63_1 =>
                Vb (bin .eql v63_1 (Value.int IntKind.i64 8)) fun v64_1 =>
                J0 v64_1 h12) (
                J0 (Value.bool false) h12))) (
            Br (Value.bool false) (
              Vb (ixs 2 v20 (Value.int IntKind.i64 0)) fun v54_1 =>
              Vb (fa 1 v54_1) fun v55_1 =>
              Vb (ldc v55_1 h12) fun v56_1 =>
              Vb (bin .eql v56_1 (Value.int IntKind.i64 7)) fun v57_1 =>
              Br v57_1 (
                Vb (ixs 2 v20 (Value.int IntKind.i64 2)) fun v61_2 =>
                Vb (fa 1 v61_2) fun v62_2 =>
                Vb (ldc v62_2 h12) fun v63_2 =>
                Vb (bin .eql v63_2 (Value.int IntKind.i64 8)) fun v64_2 =>
                J0 v64_2 h12) (
                J0 (Value.bool false) h12)) (
              Br (Value.bool false) (
                Vb (ixs 2 v20 (Value.int IntKind.i64 2)) fun v61_3 =>
                Vb (fa 1 v61_3) fun v62_3 =>
                Vb (ldc v62_3 h12) fun v63_3 =>
                Vb (bin .eql v63_3 (Value.int IntKind.i64 8)) fun v64_3 =>
                J0 v64_3 h12) (
                J0 (Value.bool false) h12)))) (
          Br (Value.bool false) (
            Vb (lnS v20) fun v49_1 =>
            Vb (bin .eql v49_1 (Value.int IntKind.i64 3)) fun v50_1 =>
            Br v50_1 (
              Vb (ixs 2 v20 (Value.int IntKind.i64 0)) fun v54_2 =>
              Vb (fa 1 v54_2) fun v55_2 =>
              Vb (ldc v55_2 h10) fun v56_2 =>
              Vb (bin .eql v56_2 (Value.int IntKind.i64 7)) fun v57_2 =>
              Br v57_2 (
                Vb (ixs 2 v20 (Value.int IntKind.i64 2)) fun v61_4 =>
                Vb (fa 1 v61_4) fun v62_4 =>
                Vb (ldc v62_4 h10) fun v63_4 =>
                Vb (bin .eql v63_4 (Value.int IntKind.i64 8)) fun v64_4 =>
                J0 v64_4 h10) (
                J0 (Value.bool false) h10)) (
              Br (Value.bool false) (
                Vb (ixs 2 v20 (Value.int IntKind.i64 2)) fun v61_5 =>
                Vb (fa 1 v61_5) fun v62_5 =>
                Vb (ldc v62_5 h10) fun v63_5 =>
                Vb (bin .eql v63_5 (Value.int IntKind.i64 8)) fun v64_5 =>
                J0 v64_5 h10) (
                J0 (Value.bool false) h10))) (
            Br (Value.bool false) (
              Vb (ixs 2 v20 (Value.int IntKind.i64 0)) fun v54_3 =>
              Vb (fa 1 v54_3) fun v55_3 =>
              Vb (ldc v55_3 h10) fun v56_3 =>
              Vb (bin .eql v56_3 (Value.int IntKind.i64 7)) fun v57_3 =>
              Br v57_3 (
                Vb (ixs 2 v20 (Value.int IntKind.i64 2)) fun v61_6 =>
                Vb (fa 1 v61_6) fun v62_6 =>
                Vb (ldc v62_6 h10) fun v63_6 =>
                Vb (bin .eql v63_6 (Value.int IntKind.i64 8)) fun v64_6 =>
                J0 v64_6 h10) (
                J0 (Value.bool false) h10)) (
              Br (Value.bool false) (
                Vb (ixs 2 v20 (Value.int IntKind.i64 2)) fun v61_7 =>
                Vb (fa 1 v61_7) fun v62_7 =>
                Vb (ldc v62_7 h10) fun v63_7 =>
                Vb (bin .eql v63_7 (Value.int IntKind.i64 8)) fun v64_7 =>
                J0 v64_7 h10) (
                J0 (Value.bool false) h10))))) (
        Br (Value.bool false) (
          Eb (bsl #[Value.int IntKind.i64 0] 1 2 I.t_int64 [(0, (Value.int IntKind.i64 5)), (1, (Value.int IntKind.i64 8))] h7) fun v44_1 h13 =>
          S.C I.f_slices_Equal_int64_int64 [v19, v44_1] h13 fun v45_1 h14 =>
          Br v45_1 (
            Vb (lnS v20) fun v49_2 =>
            Vb (bin .eql v49_2 (Value.int IntKind.i64 3)) fun v50_2 =>
            Br v50_2 (
              Vb (ixs 2 v20 (Value.int IntKind.i64 0)) fun v54_4 =>
              Vb (fa 1 v54_4) fun v55_4 =>
              Vb (ldc v55_4 h14) fun v56_4 =>
              Vb (bin .eql v56_4 (Value.int IntKind.i64 7)) fun v57_4 =>
              Br v57_4 (
                Vb (ixs 2 v20 (Value.int IntKind.i64 2)) fun v61_8 =>
                Vb (fa 1 v61_8) fun v62_8 =>
                Vb (ldc v62_8 h14) fun v63_8 =>
                Vb (bin .eql v63_8 (Value.int IntKind.i64 8)) fun v64_8 =>
                J0 v64_8 h14) (
                J0 (Value.bool false) h14)) (
              Br (Value.bool false) (
                Vb (ixs 2 v20 (Value.int IntKind.i64 2)) fun v61_9 =>
                Vb (fa 1 v61_9) fun v62_9 =>
                Vb (ldc v62_9 h14) fun v63_9 =>
                Vb (bin .eql v63_9 (Value.int IntKind.i64 8)) fun v64_9 =>
                J0 v64_9 h14) (
                J0 (Value.bool false) h14))) (
            Br (Value.bool false) (
              Vb (ixs 2 v20 (Value.int IntKind.i64 0)) fun v54_5 =>
              Vb (fa 1 v54_5) fun v55_5 =>
              Vb (ldc v55_5 h14) fun v56_5 =>
              Vb (bin .eql v56_5 (Value.int IntKind.i64 7)) fun v57_5 =>
              Br v57_5 (
                Vb (ixs 2 v20 (Value.int IntKind.i64 2)) fun v61_10 =>
                Vb (fa 1 v61_10) fun v62_10 =>
                Vb (ldc v62_10 h14) fun v63_10 =>
                Vb (bin .eql v63_10 (Value.int IntKind.i64 8)) fun v64_10 =>
                J0 v64_10 h14) (
                J0 (Value.bool false) h14)) (
              Br (Value.bool false) (
                Vb (ixs 2 v20 (Value.int IntKind.i64 2)) fun v61_11 =>
                Vb (fa 1 v61_11) fun v62_11 =>
                Vb (ldc v62_11 h14) fun v63_11 =>
                Vb (bin .eql v63_11 (Value.int IntKind.i64 8)) fun v64_11 =>
                J0 v64_11 h14) (
                J0 (Value.bool false) h14)))) (
          Br (Value.bool false) (
            Vb (lnS v20) fun v49_3 =>
            Vb (bin .eql v49_3 (Value.int IntKind.i64 3)) fun v50_3 =>
            Br v50_3 (
              Vb (ixs 2 v20 (Value.int IntKind.i64 0)) fun v54_6 =>
              Vb (fa 1 v54_6) fun v55_6 =>
              Vb (ldc v55_6 h7) fun v56_6 =>
              Vb (bin .eql v56_6 (Value.int IntKind.i64 7)) fun v57_6 =>
              Br v57_6 (
                Vb (ixs 2 v20 (Value.int IntKind.i64 2)) fun v61_12 =>
                Vb (fa 1 v61_12) fun v62_12 =>
                Vb (ldc v62_12 h7) fun v63_12 =>
                Vb (bin .eql v63_12 (Value.int IntKind.i64 8)) fun v64_12 =>
                J0 v64_12 h7) (
                J0 (Value.bool false) h7)) (
              Br (Value.bool false) (
                Vb (ixs 2 v20 (Value.int IntKind.i64 2)) fun v61_13 =>
                Vb (fa 1 v61_13) fun v62_13 =>
                Vb (ldc v62_13 h7) fun v63_13 =>
                Vb (bin .eql v63_13 (Value.int IntKind.i64 8)) fun v64_13 =>
                J0 v64_13 h7) (
                J0 (Value.bool false) h7))) (
            Br (Value.bool false) (
              Vb (ixs 2 v20 (Value.int IntKind.i64 0)) fun v54_7 =>
              Vb (fa 1 v54_7) fun v55_7 =>
              Vb (ldc v55_7 h7) fun v56_7 =>
              Vb (bin .eql v56_7 (Value.int IntKind.i64 7)) fun v57_7 =>
              Br v57_7 (
                Vb (ixs 2 v20 (Value.int IntKind.i64 2)) fun v61_14 =>
                Vb (fa 1 v61_14) fun v62_14 =>
                Vb (ldc v62_14 h7) fun v63_14 =>
                Vb (bin .eql v63_14 (Value.int IntKind.i64 8)) fun v64_14 =>
                J0 v64_14 h7) (
                J0 (Value.bool false) h7)) (
              Br (Value.bool false) (
                Vb (ixs 2 v20 (Value.int IntKind.i64 2)) fun v61_15 =>
                Vb (fa 1 v61_15) fun v62_15 =>
                Vb (ldc v62_15 h7) fun v63_15 =>
                Vb (bin .eql v63_15 (Value.int IntKind.i64 8)) fun v64_15 =>
                J0 v64_15 h7) (
                J0 (Value.bool false) h7)))))) (
      Br (Value.bool false) (
        S.C I.f_eliminate_Order [v9] h4 fun v38_1 h15 =>
        Eb (bsl #[Value.int IntKind.i64 0] 1 3 I.t_int [(0, (Value.int IntKind.i64 1)), (1, (Value.int IntKind.i64 0)), (2, (Value.int IntKind.i64 2))] h15) fun v39_1 h16 =>
        S.C I.f_slices_Equal_int_int [v38_1, v39_1] h16 fun v40_1 h17 =>
        Br v40_1 (
          Eb (bsl #[Value.int IntKind.i64 0] 1 2 I.t_int64 [(0, (Value.int IntKind.i64 5)), (1, (Value.int IntKind.i64 8))] h17) fun v44_2 h18 =>
          S.C I.f_slices_Equal_int64_int64 [v19, v44_2] h18 fun v45_2 h19 =>
          Br v45_2 (
            Vb (lnS v20) fun v49_4 =>
            Vb (bin .eql v49_4 (Value.int IntKind.i64 3)) fun v50_4 =>
            Br v50_4 (
              Vb (ixs 2 v20 (Value.int IntKind.i64 0)) fun v54_8 =>
              Vb (fa 1 v54_8) fun v55_8 =>
              Vb (ldc v55_8 h19) fun v56_8 =>
              Vb (bin .eql v56_8 (Value.int IntKind.i64 7)) fun v57_8 =>
              Br v57_8 (
                Vb (ixs 2 v20 (Value.int IntKind.i64 2)) fun v61_16 =>
                Vb (fa 1 v61_16) fun v62_16 =>
                Vb (ldc v62_16 h19) fun v63_16 =>
                Vb (bin .eql v63_16 (Value.int IntKind.i64 8)) fun v64_16 =>
                J0 v64_16 h19) (
                J0 (Value.bool false) h19)) (
              Br (Value.bool false) (
                Vb (ixs 2 v20 (Value.int IntKind.i64 2)) fun v61_17 =>
                Vb (fa 1 v61_17) fun v62_17 =>
                Vb (ldc v62_17 h19) fun v63_17 =>
                Vb (bin .eql v63_17 (Value.int IntKind.i64 8)) fun v64_17 =>
                J0 v64_17 h19) (
                J0 (Value.bool false) h19))) (
            Br (Value.bool false) (
              Vb (ixs 2 v20 (Value.int IntKind.i64 0)) fun v54_9 =>
              Vb (fa 1 v54_9) fun v55_9 =>
              Vb (ldc v55_9 h19) fun v56_9 =>
              Vb (bin .eql v56_9 (Value.int IntKind.i64 7)) fun v57_9 =>
              Br v57_9 (
                Vb (ixs 2 v20 (Value.int IntKind.i64 2)) fun v61_18 =>
                Vb (fa 1 v61_18) fun v62_18 =>
                Vb (ldc v62_18 h19) fun v63_18 =>
                Vb (bin .eql v63_18 (Value.int IntKind.i64 8)) fun v64_18 =>
                J0 v64_18 h19) (
                J0 (Value.bool false) h19)) (
              Br (Value.bool false) (
                Vb (ixs 2 v20 (Value.int IntKind.i64 2)) fun v61_19 =>
                Vb (fa 1 v61_19) fun v62_19 =>
                Vb (ldc v62_19 h19) fun v63_19 =>
                Vb (bin .eql v63_19 (Value.int IntKind.i64 8)) fun v64_19 =>
                J0 v64_19 h19) (
                J0 (Value.bool false) h19)))) (
          Br (Value.bool false) (
            Vb (lnS v20) fun v49_5 =>
            Vb (bin .eql v49_5 (Value.int IntKind.i64 3)) fun v50_5 =>
            Br v50_5 (
              Vb (ixs 2 v20 (Value.int IntKind.i64 0)) fun v54_10 =>
              Vb (fa 1 v54_10) fun v55_10 =>
              Vb (ldc v55_10 h17) fun v56_10 =>
              Vb (bin .eql v56_10 (Value.int IntKind.i64 7)) fun v57_10 =>
              Br v57_10 (
                Vb (ixs 2 v20 (Value.int IntKind.i64 2)) fun v61_20 =>
                Vb (fa 1 v61_20) fun v62_20 =>
                Vb (ldc v62_20 h17) fun v63_20 =>
                Vb (bin .eql v63_20 (Value.int IntKind.i64 8)) fun v64_20 =>
                J0 v64_20 h17) (
                J0 (Value.bool false) h17)) (
              Br (Value.bool false) (
                Vb (ixs 2 v20 (Value.int IntKind.i64 2)) fun v61_21 =>
                Vb (fa 1 v61_21) fun v62_21 =>
                Vb (ldc v62_21 h17) fun v63_21 =>
                Vb (bin .eql v63_21 (Value.int IntKind.i64 8)) fun v64_21 =>
                J0 v64_21 h17) (
                J0 (Value.bool false) h17))) (
            Br (Value.bool false) (
              Vb (ixs 2 v20 (Value.int IntKind.i64 0)) fun v54_11 =>
              Vb (fa 1 v54_11) fun v55_11 =>
              Vb (ldc v55_11 h17) fun v56_11 =>
              Vb (bin .eql v56_11 (Value.int IntKind.i64 7)) fun v57_11 =>
              Br v57_11 (
                Vb (ixs 2 v20 (Value.int IntKind.i64 2)) fun v61_22 =>
                Vb (fa 1 v61_22) fun v62_22 =>
                Vb (ldc v62_22 h17) fun v63_22 =>
                Vb (bin .eql v63_22 (Value.int IntKind.i64 8)) fun v64_22 =>
                J0 v64_22 h17) (
                J0 (Value.bool false) h17)) (
              Br (Value.bool false) (
                Vb (ixs 2 v20 (Value.int IntKind.i64 2)) fun v61_23 =>
                Vb (fa 1 v61_23) fun v62_23 =>
                Vb (ldc v62_23 h17) fun v63_23 =>
                Vb (bin .eql v63_23 (Value.int IntKind.i64 8)) fun v64_23 =>
                J0 v64_23 h17) (
                J0 (Value.bool false) h17))))) (
        Br (Value.bool false) (
          Eb (bsl #[Value.int IntKind.i64 0] 1 2 I.t_int64 [(0, (Value.int IntKind.i64 5)), (1, (Value.int IntKind.i64 8))] h4) fun v44_3 h20 =>
          S.C I.f_slices_Equal_int64_int64 [v19, v44_3] h20 fun v45_3 h21 =>
          Br v45_3 (
            Vb (lnS v20) fun v49_6 =>
            Vb (bin .eql v49_6 (Value.int IntKind.i64 3)) fun v50_6 =>
            Br v50_6 (
              Vb (ixs 2 v20 (Value.int IntKind.i64 0)) fun v54_12 =>
              Vb (fa 1 v54_12) fun v55_12 =>
              Vb (ldc v55_12 h21) fun v56_12 =>
              Vb (bin .eql v56_12 (Value.int IntKind.i64 7)) fun v57_12 =>
              Br v57_12 (
                Vb (ixs 2 v20 (Value.int IntKind.i64 2)) fun v61_24 =>
                Vb (fa 1 v61_24) fun v62_24 =>
                Vb (ldc v62_24 h21) fun v63_24 =>
                Vb (bin .eql v63_24 (Value.int IntKind.i64 8)) fun v64_24 =>
                J0 v64_24 h21) (
                J0 (Value.bool false) h21)) (
              Br (Value.bool false) (
                Vb (ixs 2 v20 (Value.int IntKind.i64 2)) fun v61_25 =>
                Vb (fa 1 v61_25) fun v62_25 =>
                Vb (ldc v62_25 h21) fun v63_25 =>
                Vb (bin .eql v63_25 (Value.int IntKind.i64 8)) fun v64_25 =>
                J0 v64_25 h21) (
                J0 (Value.bool false) h21))) (
            Br (Value.bool false) (
              Vb (ixs 2 v20 (Value.int IntKind.i64 0)) fun v54_13 =>
              Vb (fa 1 v54_13) fun v55_13 =>
              Vb (ldc v55_13 h21) fun v56_13 =>
              Vb (bin .eql v56_13 (Value.int IntKind.i64 7)) fun v57_13 =>
              Br v57_13 (
                Vb (ixs 2 v20 (Value.int IntKind.i64 2)) fun v61_26 =>
                Vb (fa 1 v61_26) fun v62_26 =>
                Vb (ldc v62_26 h21) fun v63_26 =>
                Vb (bin .eql v63_26 (Value.int IntKind.i64 8)) fun v64_26 =>
                J0 v64_26 h21) (
                J0 (Value.bool false) h21)) (
              Br (Value.bool false) (
                Vb (ixs 2 v20 (Value.int IntKind.i64 2)) fun v61_27 =>
                Vb (fa 1 v61_27) fun v62_27 =>
                Vb (ldc v62_27 h21) fun v63_27 =>
                Vb (bin .eql v63_27 (Value.int IntKind.i64 8)) fun v64_27 =>
                J0 v64_27 h21) (
                J0 (Value.bool false) h21)))) (
          Br (Value.bool false) (
            Vb (lnS v20) fun v49_7 =>
            Vb (bin .eql v49_7 (Value.int IntKind.i64 3)) fun v50_7 =>
            Br v50_7 (
              Vb (ixs 2 v20 (Value.int IntKind.i64 0)) fun v54_14 =>
              Vb (fa 1 v54_14) fun v55_14 =>
              Vb (ldc v55_14 h4) fun v56_14 =>
              Vb (bin .eql v56_14 (Value.int IntKind.i64 7)) fun v57_14 =>
              Br v57_14 (
                Vb (ixs 2 v20 (Value.int IntKind.i64 2)) fun v61_28 =>
                Vb (fa 1 v61_28) fun v62_28 =>
                Vb (ldc v62_28 h4) fun v63_28 =>
                Vb (bin .eql v63_28 (Value.int IntKind.i64 8)) fun v64_28 =>
                J0 v64_28 h4) (
                J0 (Value.bool false) h4)) (
              Br (Value.bool false) (
                Vb (ixs 2 v20 (Value.int IntKind.i64 2)) fun v61_29 =>
                Vb (fa 1 v61_29) fun v62_29 =>
                Vb (ldc v62_29 h4) fun v63_29 =>
                Vb (bin .eql v63_29 (Value.int IntKind.i64 8)) fun v64_29 =>
                J0 v64_29 h4) (
                J0 (Value.bool false) h4))) (
            Br (Value.bool false) (
              Vb (ixs 2 v20 (Value.int IntKind.i64 0)) fun v54_15 =>
              Vb (fa 1 v54_15) fun v55_15 =>
              Vb (ldc v55_15 h4) fun v56_15 =>
              Vb (bin .eql v56_15 (Value.int IntKind.i64 7)) fun v57_15 =>
              Br v57_15 (
                Vb (ixs 2 v20 (Value.int IntKind.i64 2)) fun v61_30 =>
                Vb (fa 1 v61_30) fun v62_30 =>
                Vb (ldc v62_30 h4) fun v63_30 =>
                Vb (bin .eql v63_30 (Value.int IntKind.i64 8)) fun v64_30 =>
                J0 v64_30 h4) (
                J0 (Value.bool false) h4)) (
              Br (Value.bool false) (
                Vb (ixs 2 v20 (Value.int IntKind.i64 2)) fun v61_31 =>
                Vb (fa 1 v61_31) fun v62_31 =>
                Vb (ldc v62_31 h4) fun v63_31 =>
                Vb (bin .eql v63_31 (Value.int IntKind.i64 8)) fun v64_31 =>
                J0 v64_31 h4) (
                J0 (Value.bool false) h4))))))) (
    Br (Value.bool false) (
      Eb (bsl #[Value.int IntKind.i64 0] 1 1 I.t_int [(0, (Value.int IntKind.i64 2))] h4) fun v33_1 h22 =>
      S.C I.f_slices_Equal_int_int [v14, v33_1] h22 fun v34_1 h23 =>
      Br v34_1 (
        S.C I.f_eliminate_Order [v9] h23 fun v38_2 h24 =>
        Eb (bsl #[Value.int IntKind.i64 0] 1 3 I.t_int [(0, (Value.int IntKind.i64 1)), (1, (Value.int IntKind.i64 0)), (2, (Value.int IntKind.i64 2))] h24) fun v39_2 h25 =>
        S.C I.f_slices_Equal_int_int [v38_2, v39_2] h25 fun v40_2 h26 =>
        Br v40_2 (
          Eb (bsl #[Value.int IntKind.i64 0] 1 2 I.t_int64 [(0, (Value.int IntKind.i64 5)), (1, (Value.int IntKind.i64 8))] h26) fun v44_4 h27 =>
          S.C I.f_slices_Equal_int64_int64 [v19, v44_4] h27 fun v45_4 h28 =>
          Br v45_4 (
            Vb (lnS v20) fun v49_8 =>
            Vb (bin .eql v49_8 (Value.int IntKind.i64 3)) fun v50_8 =>
            Br v50_8 (
              Vb (ixs 2 v20 (Value.int IntKind.i64 0)) fun v54_16 =>
              Vb (fa 1 v54_16) fun v55_16 =>
              Vb (ldc v55_16 h28) fun v56_16 =>
              Vb (bin .eql v56_16 (Value.int IntKind.i64 7)) fun v57_16 =>
              Br v57_16 (
                Vb (ixs 2 v20 (Value.int IntKind.i64 2)) fun v61_32 =>
                Vb (fa 1 v61_32) fun v62_32 =>
                Vb (ldc v62_32 h28) fun v63_32 =>
                Vb (bin .eql v63_32 (Value.int IntKind.i64 8)) fun v64_32 =>
                J0 v64_32 h28) (
                J0 (Value.bool false) h28)) (
              Br (Value.bool false) (
                Vb (ixs 2 v20 (Value.int IntKind.i64 2)) fun v61_33 =>
                Vb (fa 1 v61_33) fun v62_33 =>
                Vb (ldc v62_33 h28) fun v63_33 =>
                Vb (bin .eql v63_33 (Value.int IntKind.i64 8)) fun v64_33 =>
                J0 v64_33 h28) (
                J0 (Value.bool false) h28))) (
            Br (Value.bool false) (
              Vb (ixs 2 v20 (Value.int IntKind.i64 0)) fun v54_17 =>
              Vb (fa 1 v54_17) fun v55_17 =>
              Vb (ldc v55_17 h28) fun v56_17 =>
              Vb (bin .eql v56_17 (Value.int IntKind.i64 7)) fun v57_17 =>
              Br v57_17 (
                Vb (ixs 2 v20 (Value.int IntKind.i64 2)) fun v61_34 =>
                Vb (fa 1 v61_34) fun v62_34 =>
                Vb (ldc v62_34 h28) fun v63_34 =>
                Vb (bin .eql v63_34 (Value.int IntKind.i64 8)) fun v64_34 =>
                J0 v64_34 h28) (
                J0 (Value.bool false) h28)) (
              Br (Value.bool false) (
                Vb (ixs 2 v20 (Value.int IntKind.i64 2)) fun v61_35 =>
                Vb (fa 1 v61_35) fun v62_35 =>
                Vb (ldc v62_35 h28) fun v63_35 =>
                Vb (bin .eql v63_35 (Value.int IntKind.i64 8)) fun v64_35 =>
                J0 v64_35 h28) (
                J0 (Value.bool false) h28)))) (
          Br (Value.bool false) (
            Vb (lnS v20) fun v49_9 =>
            Vb (bin .eql v49_9 (Value.int IntKind.i64 3)) fun v50_9 =>
            Br v50_9 (
              Vb (ixs 2 v20 (Value.int IntKind.i64 0)) fun v54_18 =>
              Vb (fa 1 v54_18) fun v55_18 =>
              Vb (ldc v55_18 h26) fun v56_18 =>
              Vb (bin .eql v56_18 (Value.int IntKind.i64 7)) fun v57_18 =>
              Br v57_18 (
                Vb (ixs 2 v20 (Value.int IntKind.i64 2)) fun v61_36 =>
                Vb (fa 1 v61_36) fun v62_36 =>
                Vb (ldc v62_36 h26) fun v63_36 =>
                Vb (bin .eql v63_36 (Value.int IntKind.i64 8)) fun v64_36 =>
                J0 v64_36 h26) (
                J0 (Value.bool false) h26)) (
              Br (Value.bool false) (
                Vb (ixs 2 v20 (Value.int IntKind.i64 2)) fun v61_37 =>
                Vb (fa 1 v61_37) fun v62_37 =>
                Vb (ldc v62_37 h26) fun v63_37 =>
                Vb (bin .eql v63_37 (Value.int IntKind.i64 8)) fun v64_37 =>
                J0 v64_37 h26) (
                J0 (Value.bool false) h26))) (
            Br (Value.bool false) (
              Vb (ixs 2 v20 (Value.int IntKind.i64 0)) fun v54_19 =>
              Vb (fa 1 v54_19) fun v55_19 =>
              Vb (ldc v55_19 h26) fun v56_19 =>
              Vb (bin .eql v56_19 (Value.int IntKind.i64 7)) fun v57_19 =>
              Br v57_19 (
                Vb (ixs 2 v20 (Value.int IntKind.i64 2)) fun v61_38 =>
                Vb (fa 1 v61_38) fun v62_38 =>
                Vb (ldc v62_38 h26) fun v63_38 =>
                Vb (bin .eql v63_38 (Value.int IntKind.i64 8)) fun v64_38 =>
                J0 v64_38 h26) (
                J0 (Value.bool false) h26)) (
              Br (Value.bool false) (
                Vb (ixs 2 v20 (Value.int IntKind.i64 2)) fun v61_39 =>
                Vb (fa 1 v61_39) fun v62_39 =>
                Vb (ldc v62_39 h26) fun v63_39 =>
                Vb (bin .eql v63_39 (Value.int IntKind.i64 8)) fun v64_39 =>
                J0 v64_39 h26) (
                J0 (Value.bool false) h26))))) (
        Br (Value.bool false) (
          Eb (bsl #[Value.int IntKind.i64 0] 1 2 I.t_int64 [(0, (Value.int IntKind.i64 5)), (1, (Value.int IntKind.i64 8))] h23) fun v44_5 h29 =>
          S.C I.f_slices_Equal_int64_int64 [v19, v44_5] h29 fun v45_5 h30 =>
          Br v45_5 (
            Vb (lnS v20) fun v49_10 =>
            Vb (bin .eql v49_10 (Value.int IntKind.i64 3)) fun v50_10 =>
            Br v50_10 (
              Vb (ixs 2 v20 (Value.int IntKind.i64 0)) fun v54_20 =>
              Vb (fa 1 v54_20) fun v55_20 =>
              Vb (ldc v55_20 h30) fun v56_20 =>
              Vb (bin .eql v56_20 (Value.int IntKind.i64 7)) fun v57_20 =>
              Br v57_20 (
                Vb (ixs 2 v20 (Value.int IntKind.i64 2)) fun v61_40 =>
                Vb (fa 1 v61_40) fun v62_40 =>
                Vb (ldc v62_40 h30) fun v63_40 =>
                Vb (bin .eql v63_40 (Value.int IntKind.i64 8)) fun v64_40 =>
                J0 v64_40 h30) (
                J0 (Value.bool false) h30)) (
              Br (Value.bool false) (
                Vb (ixs 2 v20 (Value.int IntKind.i64 2)) fun v61_41 =>
                Vb (fa 1 v61_41) fun v62_41 =>
                Vb (ldc v62_41 h30) fun v63_41 =>
                Vb (bin .eql v63_41 (Value.int IntKind.i64 8)) fun v64_41 =>
                J0 v64_41 h30) (
                J0 (Value.bool false) h30))) (
            Br (Value.bool false) (
              Vb (ixs 2 v20 (Value.int IntKind.i64 0)) fun v54_21 =>
              Vb (fa 1 v54_21) fun v55_21 =>
              Vb (ldc v55_21 h30) fun v56_21 =>
              Vb (bin .eql v56_21 (Value.int IntKind.i64 7)) fun v57_21 =>
              Br v57_21 (
                Vb (ixs 2 v20 (Value.int IntKind.i64 2)) fun v61_42 =>
                Vb (fa 1 v61_42) fun v62_42 =>
                Vb (ldc v62_42 h30) fun v63_42 =>
                Vb (bin .eql v63_42 (Value.int IntKind.i64 8)) fun v64_42 =>
                J0 v64_42 h30) (
                J0 (Value.bool false) h30)) (
              Br (Value.bool false) (
                Vb (ixs 2 v20 (Value.int IntKind.i64 2)) fun v61_43 =>
                Vb (fa 1 v61_43) fun v62_43 =>
                Vb (ldc v62_43 h30) fun v63_43 =>
                Vb (bin .eql v63_43 (Value.int IntKind.i64 8)) fun v64_43 =>
                J0 v64_43 h30) (
                J0 (Value.bool false) h30)))) (
          Br (Value.bool false) (
            Vb (lnS v20) fun v49_11 =>
            Vb (bin .eql v49_11 (Value.int IntKind.i64 3)) fun v50_11 =>
            Br v50_11 (
              Vb (ixs 2 v20 (Value.int IntKind.i64 0)) fun v54_22 =>
              Vb (fa 1 v54_22) fun v55_22 =>
              Vb (ldc v55_22 h23) fun v56_22 =>
              Vb (bin .eql v56_22 (Value.int IntKind.i64 7)) fun v57_22 =>
              Br v57_22 (
                Vb (ixs 2 v20 (Value.int IntKind.i64 2)) fun v61_44 =>
                Vb (fa 1 v61_44) fun v62_44 =>
                Vb (ldc v62_44 h23) fun v63_44 =>
                Vb (bin .eql v63_44 (Value.int IntKind.i64 8)) fun v64_44 =>
                J0 v64_44 h23) (
                J0 (Value.bool false) h23)) (
              Br (Value.bool false) (
                Vb (ixs 2 v20 (Value.int IntKind.i64 2)) fun v61_45 =>
                Vb (fa 1 v61_45) fun v62_45 =>
                Vb (ldc v62_45 h23) fun v63_45 =>
                Vb (bin .eql v63_45 (Value.int IntKind.i64 8)) fun v64_45 =>
                J0 v64_45 h23) (
                J0 (Value.bool false) h23))) (
            Br (Value.bool false) (
              Vb (ixs 2 v20 (Value.int IntKind.i64 0)) fun v54_23 =>
              Vb (fa 1 v54_23) fun v55_23 =>
              Vb (ldc v55_23 h23) fun v56_23 =>
              Vb (bin .eql v56_23 (Value.int IntKind.i64 7)) fun v57_23 =>
              Br v57_23 (
                Vb (ixs 2 v20 (Value.int IntKind.i64 2)) fun v61_46 =>
                Vb (fa 1 v61_46) fun v62_46 =>
                Vb (ldc v62_46 h23) fun v63_46 =>
                Vb (bin .eql v63_46 (Value.int IntKind.i64 8)) fun v64_46 =>
                J0 v64_46 h23) (
                J0 (Value.bool false) h23)) (
              Br (Value.bool false) (
                Vb (ixs 2 v20 (Value.int IntKind.i64 2)) fun v61_47 =>
                Vb (fa 1 v61_47) fun v62_47 =>
                Vb (ldc v62_47 h23) fun v63_47 =>
                Vb (bin .eql v63_47 (Value.int IntKind.i64 8)) fun v64_47 =>
                J0 v64_47 h23) (
                J0 (Value.bool false) h23)))))) (
      Br (Value.bool false) (
        S.C I.f_eliminate_Order [v9] h4 fun v38_3 h31 =>
        Eb (bsl #[Value.int IntKind.i64 0] 1 3 I.t_int [(0, (Value.int IntKind.i64 1)), (1, (Value.int IntKind.i64 0)), (2, (Value.int IntKind.i64 2))] h31) fun v39_3 h32 =>
        S.C I.f_slices_Equal_int_int [v38_3, v39_3] h32 fun v40_3 h33 =>
        Br v40_3 (
          Eb (bsl #[Value.int IntKind.i64 0] 1 2 I.t_int64 [(0, (Value.int IntKind.i64 5)), (1, (Value.int IntKind.i64 8))] h33) fun v44_6 h34 =>
          S.C I.f_slices_Equal_int64_int64 [v19, v44_6] h34 fun v45_6 h35 =>
          Br v45_6 (
            Vb (lnS v20) fun v49_12 =>
            Vb (bin .eql v49_12 (Value.int IntKind.i64 3)) fun v50_12 =>
            Br v50_12 (
              Vb (ixs 2 v20 (Value.int IntKind.i64 0)) fun v54_24 =>
              Vb (fa 1 v54_24) fun v55_24 =>
              Vb (ldc v55_24 h35) fun v56_24 =>
              Vb (bin .eql v56_24 (Value.int IntKind.i64 7)) fun v57_24 =>
              Br v57_24 (
                Vb (ixs 2 v20 (Value.int IntKind.i64 2)) fun v61_48 =>
                Vb (fa 1 v61_48) fun v62_48 =>
                Vb (ldc v62_48 h35) fun v63_48 =>
                Vb (bin .eql v63_48 (Value.int IntKind.i64 8)) fun v64_48 =>
                J0 v64_48 h35) (
                J0 (Value.bool false) h35)) (
              Br (Value.bool false) (
                Vb (ixs 2 v20 (Value.int IntKind.i64 2)) fun v61_49 =>
                Vb (fa 1 v61_49) fun v62_49 =>
                Vb (ldc v62_49 h35) fun v63_49 =>
                Vb (bin .eql v63_49 (Value.int IntKind.i64 8)) fun v64_49 =>
                J0 v64_49 h35) (
                J0 (Value.bool false) h35))) (
            Br (Value.bool false) (
              Vb (ixs 2 v20 (Value.int IntKind.i64 0)) fun v54_25 =>
              Vb (fa 1 v54_25) fun v55_25 =>
              Vb (ldc v55_25 h35) fun v56_25 =>
              Vb (bin .eql v56_25 (Value.int IntKind.i64 7)) fun v57_25 =>
              Br v57_25 (
                Vb (ixs 2 v20 (Value.int IntKind.i64 2)) fun v61_50 =>
                Vb (fa 1 v61_50) fun v62_50 =>
                Vb (ldc v62_50 h35) fun v63_50 =>
                Vb (bin .eql v63_50 (Value.int IntKind.i64 8)) fun v64_50 =>
                J0 v64_50 h35) (
                J0 (Value.bool false) h35)) (
              Br (Value.bool false) (
                Vb (ixs 2 v20 (Value.int IntKind.i64 2)) fun v61_51 =>
                Vb (fa 1 v61_51) fun v62_51 =>
                Vb (ldc v62_51 h35) fun v63_51 =>
                Vb (bin .eql v63_51 (Value.int IntKind.i64 8)) fun v64_51 =>
                J0 v64_51 h35) (
                J0 (Value.bool false) h35)))) (
          Br (Value.bool false) (
            Vb (lnS v20) fun v49_13 =>
            Vb (bin .eql v49_13 (Value.int IntKind.i64 3)) fun v50_13 =>
            Br v50_13 (
              Vb (ixs 2 v20 (Value.int IntKind.i64 0)) fun v54_26 =>
              Vb (fa 1 v54_26) fun v55_26 =>
              Vb (ldc v55_26 h33) fun v56_26 =>
              Vb (bin .eql v56_26 (Value.int IntKind.i64 7)) fun v57_26 =>
              Br v57_26 (
                Vb (ixs 2 v20 (Value.int IntKind.i64 2)) fun v61_52 =>
                Vb (fa 1 v61_52) fun v62_52 =>
                Vb (ldc v62_52 h33) fun v63_52 =>
                Vb (bin .eql v63_52 (Value.int IntKind.i64 8)) fun v64_52 =>
                J0 v64_52 h33) (
                J0 (Value.bool false) h33)) (
              Br (Value.bool false) (
                Vb (ixs 2 v20 (Value.int IntKind.i64 2)) fun v61_53 =>
                Vb (fa 1 v61_53) fun v62_53 =>
                Vb (ldc v62_53 h33) fun v63_53 =>
                Vb (bin .eql v63_53 (Value.int IntKind.i64 8)) fun v64_53 =>
                J0 v64_53 h33) (
                J0 (Value.bool false) h33))) (
            Br (Value.bool false) (
              Vb (ixs 2 v20 (Value.int IntKind.i64 0)) fun v54_27 =>
              Vb (fa 1 v54_27) fun v55_27 =>
              Vb (ldc v55_27 h33) fun v56_27 =>
              Vb (bin .eql v56_27 (Value.int IntKind.i64 7)) fun v57_27 =>
              Br v57_27 (
                Vb (ixs 2 v20 (Value.int IntKind.i64 2)) fun v61_54 =>
                Vb (fa 1 v61_54) fun v62_54 =>
                Vb (ldc v62_54 h33) fun v63_54 =>
                Vb (bin .eql v63_54 (Value.int IntKind.i64 8)) fun v64_54 =>
                J0 v64_54 h33) (
                J0 (Value.bool false) h33)) (
              Br (Value.bool false) (
                Vb (ixs 2 v20 (Value.int IntKind.i64 2)) fun v61_55 =>
                Vb (fa 1 v61_55) fun v62_55 =>
                Vb (ldc v62_55 h33) fun v63_55 =>
                Vb (bin .eql v63_55 (Value.int IntKind.i64 8)) fun v64_55 =>
                J0 v64_55 h33) (
                J0 (Value.bool false) h33))))) (
        Br (Value.bool false) (
          Eb (bsl #[Value.int IntKind.i64 0] 1 2 I.t_int64 [(0, (Value.int IntKind.i64 5)), (1, (Value.int IntKind.i64 8))] h4) fun v44_7 h36 =>
          S.C I.f_slices_Equal_int64_int64 [v19, v44_7] h36 fun v45_7 h37 =>
          Br v45_7 (
            Vb (lnS v20) fun v49_14 =>
            Vb (bin .eql v49_14 (Value.int IntKind.i64 3)) fun v50_14 =>
            Br v50_14 (
              Vb (ixs 2 v20 (Value.int IntKind.i64 0)) fun v54_28 =>
              Vb (fa 1 v54_28) fun v55_28 =>
              Vb (ldc v55_28 h37) fun v56_28 =>
              Vb (bin .eql v56_28 (Value.int IntKind.i64 7)) fun v57_28 =>
              Br v57_28 (
                Vb (ixs 2 v20 (Value.int IntKind.i64 2)) fun v61_56 =>
                Vb (fa 1 v61_56) fun v62_56 =>
                Vb (ldc v62_56 h37) fun v63_56 =>
                Vb (bin .eql v63_56 (Value.int IntKind.i64 8)) fun v64_56 =>
                J0 v64_56 h37) (
                J0 (Value.bool false) h37)) (
              Br (Value.bool false) (
                Vb (ixs 2 v20 (Value.int IntKind.i64 2)) fun v61_57 =>
                Vb (fa 1 v61_57) fun v62_57 =>
                Vb (ldc v62_57 h37) fun v63_57 =>
                Vb (bin .eql v63_57 (Value.int IntKind.i64 8)) fun v64_57 =>
                J0 v64_57 h37) (
                J0 (Value.bool false) h37))) (
            Br (Value.bool false) (
              Vb (ixs 2 v20 (Value.int IntKind.i64 0)) fun v54_29 =>
              Vb (fa 1 v54_29) fun v55_29 =>
              Vb (ldc v55_29 h37) fun v56_29 =>
              Vb (bin .eql v56_29 (Value.int IntKind.i64 7)) fun v57_29 =>
              Br v57_29 (
                Vb (ixs 2 v20 (Value.int IntKind.i64 2)) fun v61_58 =>
                Vb (fa 1 v61_58) fun v62_58 =>
                Vb (ldc v62_58 h37) fun v63_58 =>
                Vb (bin .eql v63_58 (Value.int IntKind.i64 8)) fun v64_58 =>
                J0 v64_58 h37) (
                J0 (Value.bool false) h37)) (
              Br (Value.bool false) (
                Vb (ixs 2 v20 (Value.int IntKind.i64 2)) fun v61_59 =>
                Vb (fa 1 v61_59) fun v62_59 =>
                Vb (ldc v62_59 h37) fun v63_59 =>
                Vb (bin .eql v63_59 (Value.int IntKind.i64 8)) fun v64_59 =>
                J0 v64_59 h37) (
                J0 (Value.bool false) h37)))) (
          Br (Value.bool false) (
            Vb (lnS v20) fun v49_15 =>
            Vb (bin .eql v49_15 (Value.int IntKind.i64 3)) fun v50_15 =>
            Br v50_15 (
              Vb (ixs 2 v20 (Value.int IntKind.i64 0)) fun v54_30 =>
              Vb (fa 1 v54_30) fun v55_30 =>
              Vb (ldc v55_30 h4) fun v56_30 =>
              Vb (bin .eql v56_30 (Value.int IntKind.i64 7)) fun v57_30 =>
              Br v57_30 (
                Vb (ixs 2 v20 (Value.int IntKind.i64 2)) fun v61_60 =>
                Vb (fa 1 v61_60) fun v62_60 =>
                Vb (ldc v62_60 h4) fun v63_60 =>
                Vb (bin .eql v63_60 (Value.int IntKind.i64 8)) fun v64_60 =>
                J0 v64_60 h4) (
                J0 (Value.bool false) h4)) (
              Br (Value.bool false) (
                Vb (ixs 2 v20 (Value.int IntKind.i64 2)) fun v61_61 =>
                Vb (fa 1 v61_61) fun v62_61 =>
                Vb (ldc v62_61 h4) fun v63_61 =>
                Vb (bin .eql v63_61 (Value.int IntKind.i64 8)) fun v64_61 =>
                J0 v64_61 h4) (
                J0 (Value.bool false) h4))) (
            Br (Value.bool false) (
              Vb (ixs 2 v20 (Value.int IntKind.i64 0)) fun v54_31 =>
              Vb (fa 1 v54_31) fun v55_31 =>
              Vb (ldc v55_31 h4) fun v56_31 =>
              Vb (bin .eql v56_31 (Value.int IntKind.i64 7)) fun v57_31 =>
              Br v57_31 (
                Vb (ixs 2 v20 (Value.int IntKind.i64 2)) fun v61_62 =>
                Vb (fa 1 v61_62) fun v62_62 =>
                Vb (ldc v62_62 h4) fun v63_62 =>
                Vb (bin .eql v63_62 (Value.int IntKind.i64 8)) fun v64_62 =>
                J0 v64_62 h4) (
                J0 (Value.bool false) h4)) (
              Br (Value.bool false) (
                Vb (ixs 2 v20 (Value.int IntKind.i64 2)) fun v61_63 =>
                Vb (fa 1 v61_63) fun v62_63 =>
                Vb (ldc v62_63 h4) fun v63_63 =>
                Vb (bin .eql v63_63 (Value.int IntKind.i64 8)) fun v64_63 =>
                J0 v64_63 h4) (
                J0 (Value.bool false) h4)))))))

def F_eliminate_Pairs (S : Sys) (I : Ids) (l0 : Value) (h : Hp) (R : Value → Hp → Prop) : Prop :=
  S.C I.f_eliminate_firsts [l0] h fun v13 h1 =>
  Vb (ext 0 v13) fun v14 =>
  Vb (ext 1 v13) fun v15 =>
  Eb (mmk h1) fun v16 h2 =>
  Vb (lnS v14) fun v18 =>
  Vb (lnS v15) fun v20 =>
  Vb (mn v18 v20) fun v21 =>
  Lp2 (Value.slice none 0 0) (Value.int IntKind.i64 0) h2 fun out7 v22 h3 again0 =>
  Vb (bin .lss v22 v21) fun v23 =>
  Br v23 (
    Vb (ixs 1 v14 v22) fun v28 =>
    Vb (ldc v28 h3) fun v29 =>
    Vb (ixs 1 v15 v22) fun v32 =>
    Vb (ldc v32 h3) fun v33 =>
    Vb (bldA 1 #[Value.int IntKind.i64 0, Value.int IntKind.i64 0] [(0, v29), (1, v33)]) fun v34 =>
    Eb (bsl #[Value.int IntKind.i64 0, Value.int IntKind.i64 0] 2 1 I.t_2_int [(0, v34)] h3) fun v35 h4 =>
    Ap I.t_2_int #[Value.int IntKind.i64 0, Value.int IntKind.i64 0] 2 16 out7 v35 h4 fun v36 h5 =>
    Vb (ixs 1 v14 v22) fun v40 =>
    Vb (ldc v40 h5) fun v41 =>
    Vb (ixs 1 v15 v22) fun v45 =>
    Vb (ldc v45 h5) fun v46 =>
    Eb (men (.int .i64) (Value.bool false) v16 v41 h5) fun v47 h6 =>
    Vb (ext 1 v47) fun v48 =>
    Sb (mst v16 v48 (Value.bool true) h6) fun h7 =>
    Eb (men (.int .i64) (Value.bool false) v16 v46 h7) fun v49 h8 =>
    Vb (ext 1 v49) fun v50 =>
    Sb (mst v16 v50 (Value.bool true) h8) fun h9 =>
    Vb (bin .add v22 (Value.int IntKind.i64 1)) fun v51 =>
    again0 v36 v51 h9) (
    Vb (lnS l0) fun v53 =>
    Lp2 (Value.slice none 0 0) (Value.int IntKind.i64 0) h3 fun rest9 v54 h10 again1 =>
    Vb (bin .lss v54 v53) fun v55 =>
    Br v55 (
      Jn1 (fun rest9_1 h11 =>
          Vb (bin .add v54 (Value.int IntKind.i64 1)) fun v65 =>
          again1 rest9_1 v65 h11) fun J0 =>
      Vb (lkm (.int .i64) (Value.bool false) false v16 v54 h10) fun v59 =>
      Vb (uno .not v59) fun v60 =>
      Br v60 (
        Eb (bsl #[Value.int IntKind.i64 0] 1 1 I.t_int [(0, v54)] h10) fun v63 h12 =>
        Ap I.t_int #[Value.int IntKind.i64 0] 1 8 rest9 v63 h12 fun v64 h13 =>
        J0 v64 h13) (
        J0 rest9 h10)) (
      R (.tuple #[out7, rest9]) h10))

def F_simulcastref53_Pairs (S : Sys) (I : Ids) (l0 : Value) (h : Hp) (R : Value → Hp → Prop) : Prop :=
  Lp3 (Value.slice none 0 0) (Value.slice none 0 0) (Value.int IntKind.i64 0) h fun pushes5 pops6 i8 h1 again0 =>
  Vb (lnS l0) fun v15 =>
  Vb (bin .lss i8 v15) fun v16 =>
  Br v16 (
    Jn2 (fun pushes5_1 pops6_1 h2 =>
        Vb (bin .add i8 (Value.int IntKind.i64 1)) fun v18 =>
        again0 pushes5_1 pops6_1 v18 h2) fun J0 =>
    Jn1 (fun pushes5_2 h3 =>
        Jn1 (fun v43 h4 =>
            Br v43 (
              Eb (bsl #[Value.int IntKind.i64 0] 1 1 I.t_int [(0, i8)] h4) fun v46 h5 =>
              Ap I.t_int #[Value.int IntKind.i64 0] 1 8 pops6 v46 h5 fun v47 h6 =>
              J0 pushes5_2 v47 h6) (
              J0 pushes5_2 pops6 h4)) fun J2 =>
        S.C I.f_simulcastref53_first [l0, i8] h3 fun v35 h7 =>
        Br v35 (
          Vb (ixs 3 l0 i8) fun v39 =>
          Vb (fa 1 v39) fun v40 =>
          Vb (ldc v40 h7) fun v41 =>
          Vb (uno .not v41) fun v42 =>
          J2 v42 h7) (
          J2 (Value.bool false) h7)) fun J1 =>
    Jn1 (fun v28 h8 =>
        Br v28 (
          Eb (bsl #[Value.int IntKind.i64 0] 1 1 I.t_int [(0, i8)] h8) fun v31 h9 =>
          Ap I.t_int #[Value.int IntKind.i64 0] 1 8 pushes5 v31 h9 fun v32 h10 =>
          J1 v32 h10) (
          J1 pushes5 h8)) fun J3 =>
    S.C I.f_simulcastref53_first [l0, i8] h1 fun v21 h11 =>
    Br v21 (
      Vb (ixs 3 l0 i8) fun v25 =>
      Vb (fa 1 v25) fun v26 =>
      Vb (ldc v26 h11) fun v27 =>
      J3 v27 h11) (
      J3 (Value.bool false) h11)) (
    Vb (lnS pushes5) fun v49 =>
    Jn1 (fun n9 h12 =>
        Vb (slc 1 pushes5 none (some n9) none) fun v58 =>
        Vb (slc 1 pops6 none (some n9) none) fun v61 =>
        Lp2 (Value.slice none 0 0) (Value.int IntKind.i64 0) h12 fun rest7 i10 h13 again1 =>
        Vb (lnS l0) fun v64 =>
        Vb (bin .lss i10 v64) fun v65 =>
        Br v65 (
          Jn1 (fun rest7_1 h14 =>
              Vb (bin .add i10 (Value.int IntKind.i64 1)) fun v67 =>
              again1 rest7_1 v67 h14) fun J5 =>
          Lp2 (Value.bool false) (Value.int IntKind.i64 0) h13 fun in11 k12 h15 again2 =>
          Vb (bin .lss k12 n9) fun v70 =>
          Br v70 (
            Jn1 (fun in11_1 h16 =>
                Vb (bin .add k12 (Value.int IntKind.i64 1)) fun v72 =>
                again2 in11_1 v72 h16) fun J6 =>
            Br in11 (
              Br (Value.bool true) (
                J6 (Value.bool true) h15) (
                Vb (ixs 1 v61 k12) fun v85 =>
                Vb (ldc v85 h15) fun v86 =>
                Vb (bin .eql v86 i10) fun v88 =>
                J6 v88 h15)) (
              Vb (ixs 1 v58 k12) fun v77 =>
              Vb (ldc v77 h15) fun v78 =>
              Vb (bin .eql v78 i10) fun v80 =>
              Br v80 (
                J6 (Value.bool true) h15) (
                Vb (ixs 1 v61 k12) fun v85_1 =>
                Vb (ldc v85_1 h15) fun v86_1 =>
                Vb (bin .eql v86_1 i10) fun v88_1 =>
                J6 v88_1 h15))) (
            Vb (uno .not in11) fun v91 =>
            Br v91 (
              Eb (bsl #[Value.int IntKind.i64 0] 1 1 I.t_int [(0, i10)] h15) fun v94 h17 =>
              Ap I.t_int #[Value.int IntKind.i64 0] 1 8 rest7 v94 h17 fun v95 h18 =>
              J5 v95 h18) (
              J5 rest7 h15))) (
          R (.tuple #[v58, v61, rest7]) h13)) fun J4 =>
    Vb (lnS pops6) fun v51 =>
    Vb (bin .lss v51 v49) fun v53 =>
    Br v53 (
      Vb (lnS pops6) fun v55 =>
      J4 v55 h1) (
      J4 v49 h1))

def F_simulcastlaw53_of (S : Sys) (I : Ids) (l0 : Value) (h : Hp) (R : Value → Hp → Prop) : Prop :=
  Vb (lnS l0) fun v7 =>
  Lp2 (Value.slice none 0 0) (Value.int IntKind.i64 0) h fun out3 v8 h1 again0 =>
  Vb (bin .lss v8 v7) fun v9 =>
  Br v9 (
    Vb (ixs 3 l0 v8) fun v10 =>
    Vb (lda 3 v10 h1) fun v11 =>
    Eb (nw #[Value.int IntKind.i64 0, Value.bool false, Value.int IntKind.i64 0] I.t_eliminate_Op h1) fun o5 h2 =>
    Sb (sto 3 o5 v11 h2) fun h3 =>
    Vb (lda 3 o5 h3) fun v13 =>
    Eb (bsl #[Value.int IntKind.i64 0, Value.bool false, Value.int IntKind.i64 0] 3 1 I.t_simulcastref53_Op [(0, v13)] h3) fun v14 h4 =>
    Ap I.t_simulcastref53_Op #[Value.int IntKind.i64 0, Value.bool false, Value.int IntKind.i64 0] 3 24 out3 v14 h4 fun v15 h5 =>
    Vb (bin .add v8 (Value.int IntKind.i64 1)) fun v16 =>
    again0 v15 v16 h5) (
    R out3 h1)

def F_slices_Equal_int_int (S : Sys) (I : Ids) (s10 s21 : Value) (h : Hp) (R : Value → Hp → Prop) : Prop :=
  Vb (lnS s10) fun v7 =>
  Vb (lnS s21) fun v9 =>
  Vb (bin .neq v7 v9) fun v10 =>
  Br v10 (
    R (Value.bool false) h) (
    Vb (lnS s10) fun v12 =>
    Lp1 (Value.int IntKind.i64 0) h fun v13 h1 again0 =>
    Vb (bin .lss v13 v12) fun v14 =>
    Br v14 (
      Vb (ixs 1 s10 v13) fun v18 =>
      Vb (ldc v18 h1) fun v19 =>
      Vb (ixs 1 s21 v13) fun v22 =>
      Vb (ldc v22 h1) fun v23 =>
      Vb (bin .neq v19 v23) fun v24 =>
      Br v24 (
        R (Value.bool false) h1) (
        Vb (bin .add v13 (Value.int IntKind.i64 1)) fun v25 =>
        again0 v25 h1)) (
      R (Value.bool true) h1))

def F_eliminate_Order (S : Sys) (I : Ids) (l0 : Value) (h : Hp) (R : Value → Hp → Prop) : Prop :=
  S.C I.f_eliminate_Pairs [l0] h fun v10 h1 =>
  Vb (ext 0 v10) fun v11 =>
  Vb (ext 1 v10) fun v12 =>
  Vb (lnS v11) fun v14 =>
  Lp2 (Value.slice none 0 0) (Value.int IntKind.i64 0) h1 fun out5 v15 h2 again0 =>
  Vb (bin .lss v15 v14) fun v16 =>
  Br v16 (
    Vb (ixs 2 v11 v15) fun v17 =>
    Vb (lda 2 v17 h2) fun v18 =>
    Eb (nw #[Value.int IntKind.i64 0, Value.int IntKind.i64 0] I.t_2_int h2) fun p7 h3 =>
    Sb (sto 2 p7 v18 h3) fun h4 =>
    Vb (sla 2 1 p7 none none none) fun v20 =>
    Ap I.t_int #[Value.int IntKind.i64 0] 1 8 out5 v20 h4 fun v21 h5 =>
    Vb (bin .add v15 (Value.int IntKind.i64 1)) fun v22 =>
    again0 v21 v22 h5) (
    Ap I.t_int #[Value.int IntKind.i64 0] 1 8 out5 v12 h2 fun v25 h6 =>
    R v25 h6)

def F_slices_Clone_int64_int64 (S : Sys) (I : Ids) (s0 : Value) (h : Hp) (R : Value → Hp → Prop) : Prop :=
  Vb (pos? (eqS s0 (Value.slice none 0 0))) fun v4 =>
  Br v4 (
    R (Value.slice none 0 0) h) (
    Eb (bsl #[Value.int IntKind.i64 0] 1 0 I.t_int64 [] h) fun v5 h1 =>
    Ap I.t_int64 #[Value.int IntKind.i64 0] 1 8 v5 s0 h1 fun v7 h2 =>
    R v7 h2)

def F_eliminate_Fast (S : Sys) (I : Ids) (stack0 l1 : Value) (h : Hp) (R : Value → Hp → Prop) : Prop :=
  S.C I.f_eliminate_Pairs [l1] h fun v18 h1 =>
  Vb (ext 0 v18) fun v19 =>
  Vb (ext 1 v18) fun v20 =>
  Jn1 (fun answers8 h2 =>
      Vb (lnS v19) fun v28 =>
      Lp1 (Value.int IntKind.i64 0) h2 fun v29 h3 again0 =>
      Vb (bin .lss v29 v28) fun v30 =>
      Br v30 (
        Vb (ixs 2 v19 v29) fun v31 =>
        Vb (lda 2 v31 h3) fun v32 =>
        Eb (nw #[Value.int IntKind.i64 0, Value.int IntKind.i64 0] I.t_2_int h3) fun p10 h4 =>
        Sb (sto 2 p10 v32 h4) fun h5 =>
        Vb (lda 2 p10 h5) fun v33 =>
        Lp1 (Value.int IntKind.i64 0) h5 fun v34 h6 again1 =>
        Vb (bin .lss v34 (Value.int IntKind.i64 2)) fun v35 =>
        Br v35 (
          Vb (idc 2 1 v33 v34) fun v36 =>
          Vb (ixa 2 1 p10 (Value.int IntKind.i64 0)) fun v40 =>
          Vb (ldc v40 h6) fun v41 =>
          Vb (ixs 3 l1 v41) fun v42 =>
          Vb (fa 2 v42) fun v43 =>
          Vb (ldc v43 h6) fun v44 =>
          Vb (bldS [(0, 1), (1, 1)] #[Value.int IntKind.i64 0, Value.int IntKind.i64 0] [(1, v44)]) fun v45 =>
          Vb (ixs 2 answers8 v36) fun v46 =>
          Sb (sto 2 v46 v45 h6) fun h7 =>
          Vb (bin .add v34 (Value.int IntKind.i64 1)) fun v47 =>
          again1 v47 h7) (
          Vb (bin .add v29 (Value.int IntKind.i64 1)) fun v48 =>
          again0 v48 h6)) (
        S.C I.f_slices_Clone_int64_int64 [stack0] h3 fun v50 h8 =>
        Vb (lnS v20) fun v52 =>
        Lp2 v50 (Value.int IntKind.i64 0) h8 fun out13 v53 h9 again2 =>
        Vb (bin .lss v53 v52) fun v54 =>
        Br v54 (
          Vb (ixs 1 v20 v53) fun v55 =>
          Vb (ldc v55 h9) fun v56 =>
          Vb (ixs 3 l1 v56) fun v63 =>
          Vb (lda 3 v63 h9) fun v64 =>
          S.C I.f_eliminate_apply [out13, v64] h9 fun v65 h10 =>
          Vb (ext 0 v65) fun v66 =>
          Vb (ext 1 v65) fun v67 =>
          Vb (ixs 2 answers8 v56) fun v68 =>
          Sb (sto 2 v68 v67 h10) fun h11 =>
          Vb (bin .add v53 (Value.int IntKind.i64 1)) fun v69 =>
          again2 v66 v69 h11) (
          R (.tuple #[out13, answers8]) h9))) fun J0 =>
  Vb (lnS l1) fun v22 =>
  Vb (bin .gtr v22 (Value.int IntKind.i64 0)) fun v23 =>
  Br v23 (
    Vb (lnS l1) fun v25 =>
    Eb (msl #[Value.int IntKind.i64 0, Value.int IntKind.i64 0] 2 16 I.t_api_Answer v25 v25 h1) fun v26 h12 =>
    J0 v26 h12) (
    J0 (Value.slice none 0 0) h1)

def F_simulcastref53_Fast (S : Sys) (I : Ids) (stack0 l1 : Value) (h : Hp) (R : Value → Hp → Prop) : Prop :=
  S.C I.f_simulcastref53_Pairs [l1] h fun v18 h1 =>
  Vb (ext 0 v18) fun v19 =>
  Vb (ext 1 v18) fun v20 =>
  Vb (ext 2 v18) fun v21 =>
  Vb (lnS l1) fun v23 =>
  Eb (msl #[Value.int IntKind.i64 0, Value.int IntKind.i64 0] 2 16 I.t_simulcastref53_Answer v23 v23 h1) fun v24 h2 =>
  Lp1 (Value.int IntKind.i64 0) h2 fun k10 h3 again0 =>
  Vb (lnS v19) fun v27 =>
  Vb (bin .lss k10 v27) fun v28 =>
  Br v28 (
    Vb (ixs 1 v19 k10) fun v34 =>
    Vb (ldc v34 h3) fun v35 =>
    Vb (ixs 1 v19 k10) fun v39 =>
    Vb (ldc v39 h3) fun v40 =>
    Vb (ixs 3 l1 v40) fun v41 =>
    Vb (fa 2 v41) fun v42 =>
    Vb (ldc v42 h3) fun v43 =>
    Vb (bldS [(0, 1), (1, 1)] #[Value.int IntKind.i64 0, Value.int IntKind.i64 0] [(0, (Value.int IntKind.i64 0)), (1, v43)]) fun v44 =>
    Vb (ixs 2 v24 v35) fun v45 =>
    Sb (sto 2 v45 v44 h3) fun h4 =>
    Vb (ixs 1 v20 k10) fun v49 =>
    Vb (ldc v49 h4) fun v50 =>
    Vb (ixs 1 v19 k10) fun v54 =>
    Vb (ldc v54 h4) fun v55 =>
    Vb (ixs 3 l1 v55) fun v56 =>
    Vb (fa 2 v56) fun v57 =>
    Vb (ldc v57 h4) fun v58 =>
    Vb (bldS [(0, 1), (1, 1)] #[Value.int IntKind.i64 0, Value.int IntKind.i64 0] [(0, (Value.int IntKind.i64 0)), (1, v58)]) fun v59 =>
    Vb (ixs 2 v24 v50) fun v60 =>
    Sb (sto 2 v60 v59 h4) fun h5 =>
    Vb (bin .add k10 (Value.int IntKind.i64 1)) fun v30 =>
    again0 v30 h5) (
    Lp2 (Value.slice none 0 0) (Value.int IntKind.i64 0) h3 fun others11 k12 h6 again1 =>
    Vb (lnS v21) fun v63 =>
    Vb (bin .lss k12 v63) fun v64 =>
    Br v64 (
      Vb (ixs 1 v21 k12) fun v71 =>
      Vb (ldc v71 h6) fun v72 =>
      Vb (ixs 3 l1 v72) fun v73 =>
      Vb (lda 3 v73 h6) fun v74 =>
      Eb (bsl #[Value.int IntKind.i64 0, Value.bool false, Value.int IntKind.i64 0] 3 1 I.t_simulcastref53_Op [(0, v74)] h6) fun v75 h7 =>
      Ap I.t_simulcastref53_Op #[Value.int IntKind.i64 0, Value.bool false, Value.int IntKind.i64 0] 3 24 others11 v75 h7 fun v76 h8 =>
      Vb (bin .add k12 (Value.int IntKind.i64 1)) fun v66 =>
      again1 v76 v66 h8) (
      S.C I.f_simulcastref53_Apply [stack0, others11] h6 fun v80 h9 =>
      Vb (ext 0 v80) fun v81 =>
      Vb (ext 1 v80) fun v82 =>
      Lp1 (Value.int IntKind.i64 0) h9 fun k15 h10 again2 =>
      Vb (lnS v21) fun v85 =>
      Vb (bin .lss k15 v85) fun v86 =>
      Br v86 (
        Vb (ixs 1 v21 k15) fun v92 =>
        Vb (ldc v92 h10) fun v93 =>
        Vb (ixs 2 v82 k15) fun v96 =>
        Vb (lda 2 v96 h10) fun v97 =>
        Vb (ixs 2 v24 v93) fun v98 =>
        Sb (sto 2 v98 v97 h10) fun h11 =>
        Vb (bin .add k15 (Value.int IntKind.i64 1)) fun v88 =>
        again2 v88 h11) (
        R (.tuple #[v81, v24]) h10)))

def F_slices_Equal_int64_int64 (S : Sys) (I : Ids) (s10 s21 : Value) (h : Hp) (R : Value → Hp → Prop) : Prop :=
  Vb (lnS s10) fun v7 =>
  Vb (lnS s21) fun v9 =>
  Vb (bin .neq v7 v9) fun v10 =>
  Br v10 (
    R (Value.bool false) h) (
    Vb (lnS s10) fun v12 =>
    Lp1 (Value.int IntKind.i64 0) h fun v13 h1 again0 =>
    Vb (bin .lss v13 v12) fun v14 =>
    Br v14 (
      Vb (ixs 1 s10 v13) fun v18 =>
      Vb (ldc v18 h1) fun v19 =>
      Vb (ixs 1 s21 v13) fun v22 =>
      Vb (ldc v22 h1) fun v23 =>
      Vb (bin .neq v19 v23) fun v24 =>
      Br v24 (
        R (Value.bool false) h1) (
        Vb (bin .add v13 (Value.int IntKind.i64 1)) fun v25 =>
        again0 v25 h1)) (
      R (Value.bool true) h1))

def F_simulcastlaw53_same (S : Sys) (I : Ids) (a0 b1 : Value) (h : Hp) (R : Value → Hp → Prop) : Prop :=
  Vb (lnS a0) fun v7 =>
  Vb (lnS b1) fun v9 =>
  Vb (bin .neq v7 v9) fun v10 =>
  Br v10 (
    R (Value.bool false) h) (
    Vb (lnS a0) fun v12 =>
    Lp1 (Value.int IntKind.i64 0) h fun v13 h1 again0 =>
    Vb (bin .lss v13 v12) fun v14 =>
    Br v14 (
      Jn1 (fun v39 h2 =>
          Br v39 (
            R (Value.bool false) h2) (
            Vb (bin .add v13 (Value.int IntKind.i64 1)) fun v40 =>
            again0 v40 h2)) fun J0 =>
      Vb (ixs 2 a0 v13) fun v18 =>
      Vb (fa 0 v18) fun v19 =>
      Vb (ldc v19 h1) fun v20 =>
      Vb (ixs 2 b1 v13) fun v23 =>
      Vb (fa 0 v23) fun v24 =>
      Vb (ldc v24 h1) fun v25 =>
      Vb (bin .neq v20 v25) fun v26 =>
      Br v26 (
        J0 (Value.bool true) h1) (
        Vb (ixs 2 a0 v13) fun v30 =>
        Vb (fa 1 v30) fun v31 =>
        Vb (ldc v31 h1) fun v32 =>
        Vb (ixs 2 b1 v13) fun v35 =>
        Vb (fa 1 v35) fun v36 =>
        Vb (ldc v36 h1) fun v37 =>
        Vb (bin .neq v32 v37) fun v38 =>
        J0 v38 h1)) (
      R (Value.bool true) h1))

def F_slices_Clone_eliminate_Op_eliminate_Op (S : Sys) (I : Ids) (s0 : Value) (h : Hp) (R : Value → Hp → Prop) : Prop :=
  Vb (pos? (eqS s0 (Value.slice none 0 0))) fun v4 =>
  Br v4 (
    R (Value.slice none 0 0) h) (
    Eb (bsl #[Value.int IntKind.i64 0, Value.bool false, Value.int IntKind.i64 0] 3 0 I.t_eliminate_Op [] h) fun v5 h1 =>
    Ap I.t_eliminate_Op #[Value.int IntKind.i64 0, Value.bool false, Value.int IntKind.i64 0] 3 24 v5 s0 h1 fun v7 h2 =>
    R v7 h2)

def F_eliminate_Apply (S : Sys) (I : Ids) (stack0 l1 : Value) (h : Hp) (R : Value → Hp → Prop) : Prop :=
  S.C I.f_slices_Clone_int64_int64 [stack0] h fun v13 h1 =>
  Vb (lnS l1) fun v15 =>
  Lp3 v13 (Value.slice none 0 0) (Value.int IntKind.i64 0) h1 fun out6 answers7 v16 h2 again0 =>
  Vb (bin .lss v16 v15) fun v17 =>
  Br v17 (
    Vb (ixs 3 l1 v16) fun v18 =>
    Vb (lda 3 v18 h2) fun v19 =>
    Eb (nw #[Value.int IntKind.i64 0, Value.bool false, Value.int IntKind.i64 0] I.t_eliminate_Op h2) fun o9 h3 =>
    Sb (sto 3 o9 v19 h3) fun h4 =>
    Vb (lda 3 o9 h4) fun v22 =>
    S.C I.f_eliminate_apply [out6, v22] h4 fun v23 h5 =>
    Vb (ext 0 v23) fun v24 =>
    Vb (ext 1 v23) fun v25 =>
    Eb (nw #[Value.int IntKind.i64 0, Value.int IntKind.i64 0] I.t_api_Answer h5) fun a11 h6 =>
    Sb (sto 2 a11 v25 h6) fun h7 =>
    Vb (lda 2 a11 h7) fun v28 =>
    Eb (bsl #[Value.int IntKind.i64 0, Value.int IntKind.i64 0] 2 1 I.t_api_Answer [(0, v28)] h7) fun v29 h8 =>
    Ap I.t_api_Answer #[Value.int IntKind.i64 0, Value.int IntKind.i64 0] 2 16 answers7 v29 h8 fun v30 h9 =>
    Vb (bin .add v16 (Value.int IntKind.i64 1)) fun v31 =>
    again0 v24 v30 v31 h9) (
    R (.tuple #[out6, answers7]) h2)

def F_simulcastref53_Apply (S : Sys) (I : Ids) (stack0 l1 : Value) (h : Hp) (R : Value → Hp → Prop) : Prop :=
  Ap I.t_int64 #[Value.int IntKind.i64 0] 1 8 (Value.slice none 0 0) stack0 h fun v11 h1 =>
  Lp3 v11 (Value.slice none 0 0) (Value.int IntKind.i64 0) h1 fun s6 out7 i8 h2 again0 =>
  Vb (lnS l1) fun v14 =>
  Vb (bin .lss i8 v14) fun v15 =>
  Br v15 (
    Jn2 (fun s6_1 out7_1 h3 =>
        Vb (bin .add i8 (Value.int IntKind.i64 1)) fun v17 =>
        again0 s6_1 out7_1 v17 h3) fun J0 =>
    Vb (ixs 3 l1 i8) fun v20 =>
    Vb (fa 1 v20) fun v21 =>
    Vb (ldc v21 h2) fun v22 =>
    Br v22 (
      Vb (ixs 3 l1 i8) fun v26 =>
      Vb (fa 2 v26) fun v27 =>
      Vb (ldc v27 h2) fun v28 =>
      Eb (bsl #[Value.int IntKind.i64 0] 1 1 I.t_int64 [(0, v28)] h2) fun v29 h4 =>
      Ap I.t_int64 #[Value.int IntKind.i64 0] 1 8 s6 v29 h4 fun v30 h5 =>
      Vb (ixs 3 l1 i8) fun v34 =>
      Vb (fa 2 v34) fun v35 =>
      Vb (ldc v35 h5) fun v36 =>
      Vb (bldS [(0, 1), (1, 1)] #[Value.int IntKind.i64 0, Value.int IntKind.i64 0] [(0, (Value.int IntKind.i64 0)), (1, v36)]) fun v37 =>
      Eb (bsl #[Value.int IntKind.i64 0, Value.int IntKind.i64 0] 2 1 I.t_simulcastref53_Answer [(0, v37)] h5) fun v38 h6 =>
      Ap I.t_simulcastref53_Answer #[Value.int IntKind.i64 0, Value.int IntKind.i64 0] 2 16 out7 v38 h6 fun v39 h7 =>
      J0 v30 v39 h7) (
      Vb (lnS s6) fun v41 =>
      Vb (bin .eql v41 (Value.int IntKind.i64 0)) fun v42 =>
      Br v42 (
        Vb (bldS [(0, 1), (1, 1)] #[Value.int IntKind.i64 0, Value.int IntKind.i64 0] [(0, (Value.int IntKind.i64 8)), (1, (Value.int IntKind.i64 0))]) fun v44 =>
        Eb (bsl #[Value.int IntKind.i64 0, Value.int IntKind.i64 0] 2 1 I.t_simulcastref53_Answer [(0, v44)] h2) fun v45 h8 =>
        Ap I.t_simulcastref53_Answer #[Value.int IntKind.i64 0, Value.int IntKind.i64 0] 2 16 out7 v45 h8 fun v46 h9 =>
        J0 s6 v46 h9) (
        Vb (lnS s6) fun v50 =>
        Vb (bin .sub v50 (Value.int IntKind.i64 1)) fun v51 =>
        Vb (ixs 1 s6 v51) fun v52 =>
        Vb (ldc v52 h2) fun v53 =>
        Vb (bldS [(0, 1), (1, 1)] #[Value.int IntKind.i64 0, Value.int IntKind.i64 0] [(0, (Value.int IntKind.i64 0)), (1, v53)]) fun v54 =>
        Eb (bsl #[Value.int IntKind.i64 0, Value.int IntKind.i64 0] 2 1 I.t_simulcastref53_Answer [(0, v54)] h2) fun v55 h10 =>
        Ap I.t_simulcastref53_Answer #[Value.int IntKind.i64 0, Value.int IntKind.i64 0] 2 16 out7 v55 h10 fun v56 h11 =>
        Vb (lnS s6) fun v59 =>
        Vb (bin .sub v59 (Value.int IntKind.i64 1)) fun v60 =>
        Vb (slc 1 s6 none (some v60) none) fun v61 =>
        J0 v61 v56 h11))) (
    R (.tuple #[s6, out7]) h2)

def F_slices_Equal_api_Answer_api_Answer (S : Sys) (I : Ids) (s10 s21 : Value) (h : Hp) (R : Value → Hp → Prop) : Prop :=
  Vb (lnS s10) fun v7 =>
  Vb (lnS s21) fun v9 =>
  Vb (bin .neq v7 v9) fun v10 =>
  Br v10 (
    R (Value.bool false) h) (
    Vb (lnS s10) fun v12 =>
    Lp1 (Value.int IntKind.i64 0) h fun v13 h1 again0 =>
    Vb (bin .lss v13 v12) fun v14 =>
    Br v14 (
      Vb (ixs 2 s10 v13) fun v18 =>
      Vb (lda 2 v18 h1) fun v19 =>
      Vb (ixs 2 s21 v13) fun v22 =>
      Vb (lda 2 v22 h1) fun v23 =>
      Vb (neg? (eqA [true, true] v19 v23)) fun v24 =>
      Br v24 (
        R (Value.bool false) h1) (
        Vb (bin .add v13 (Value.int IntKind.i64 1)) fun v25 =>
        again0 v25 h1)) (
      R (Value.bool true) h1))

def F_eliminate_firsts (S : Sys) (I : Ids) (l0 : Value) (h : Hp) (R : Value → Hp → Prop) : Prop :=
  Eb (mmk h) fun v7 h1 =>
  Vb (lnS l0) fun v9 =>
  Lp3 (Value.slice none 0 0) (Value.slice none 0 0) (Value.int IntKind.i64 0) h1 fun pushes2 pops3 v10 h2 again0 =>
  Vb (bin .lss v10 v9) fun v11 =>
  Br v11 (
    Jn2 (fun pushes2_1 pops3_1 h3 =>
        Vb (bin .add v10 (Value.int IntKind.i64 1)) fun v32 =>
        again0 pushes2_1 pops3_1 v32 h3) fun J0 =>
    Vb (ixs 3 l0 v10) fun v13 =>
    Vb (lda 3 v13 h2) fun v14 =>
    Eb (nw #[Value.int IntKind.i64 0, Value.bool false, Value.int IntKind.i64 0] I.t_eliminate_Op h2) fun o6 h4 =>
    Sb (sto 3 o6 v14 h4) fun h5 =>
    Vb (fa 0 o6) fun v16 =>
    Vb (ldc v16 h5) fun v17 =>
    Vb (lkm (.int .i64) (Value.bool false) false v7 v17 h5) fun v18 =>
    Br v18 (
      J0 pushes2 pops3 h5) (
      Vb (fa 0 o6) fun v20 =>
      Vb (ldc v20 h5) fun v21 =>
      Sb (mup (.int .i64) v7 v21 (Value.bool true) h5) fun h6 =>
      Vb (fa 1 o6) fun v22 =>
      Vb (ldc v22 h6) fun v23 =>
      Br v23 (
        Eb (bsl #[Value.int IntKind.i64 0] 1 1 I.t_int [(0, v10)] h6) fun v26 h7 =>
        Ap I.t_int #[Value.int IntKind.i64 0] 1 8 pushes2 v26 h7 fun v27 h8 =>
        J0 v27 pops3 h8) (
        Eb (bsl #[Value.int IntKind.i64 0] 1 1 I.t_int [(0, v10)] h6) fun v30 h9 =>
        Ap I.t_int #[Value.int IntKind.i64 0] 1 8 pops3 v30 h9 fun v31 h10 =>
        J0 pushes2 v31 h10))) (
    R (.tuple #[pushes2, pops3]) h2)

def F_simulcastref53_first (S : Sys) (I : Ids) (l0 i1 : Value) (h : Hp) (R : Value → Hp → Prop) : Prop :=
  Lp1 (Value.int IntKind.i64 0) h fun k5 h1 again0 =>
  Vb (bin .lss k5 i1) fun v8 =>
  Br v8 (
    Vb (ixs 3 l0 k5) fun v13 =>
    Vb (fa 0 v13) fun v14 =>
    Vb (ldc v14 h1) fun v15 =>
    Vb (ixs 3 l0 i1) fun v18 =>
    Vb (fa 0 v18) fun v19 =>
    Vb (ldc v19 h1) fun v20 =>
    Vb (bin .eql v15 v20) fun v21 =>
    Br v21 (
      R (Value.bool false) h1) (
      Vb (bin .add k5 (Value.int IntKind.i64 1)) fun v10 =>
      again0 v10 h1)) (
    R (Value.bool true) h1)

def F_eliminate_apply (S : Sys) (I : Ids) (stack0 o1 : Value) (h : Hp) (R : Value → Hp → Prop) : Prop :=
  Eb (nw (Value.cells o1) I.t_eliminate_Op h) fun o3 h1 =>
  Eb (nw #[Value.int IntKind.i64 0, Value.int IntKind.i64 0] I.t_api_Answer h1) fun v5 h2 =>
  Vb (lnS stack0) fun v8 =>
  Vb (fa 1 o3) fun v10 =>
  Vb (ldc v10 h2) fun v11 =>
  Br v11 (
    Vb (fa 2 o3) fun v13 =>
    Vb (ldc v13 h2) fun v14 =>
    Vb (fa 2 o3) fun v17 =>
    Vb (ldc v17 h2) fun v18 =>
    Vb (bldS [(0, 1), (1, 1)] #[Value.int IntKind.i64 0, Value.int IntKind.i64 0] [(1, v18)]) fun v19 =>
    Eb (bsl #[Value.int IntKind.i64 0] 1 1 I.t_int64 [(0, v14)] h2) fun v15 h3 =>
    ldc v17 h3 = some v18 ∧
    Ap I.t_int64 #[Value.int IntKind.i64 0] 1 8 stack0 v15 h3 fun v16 h4 =>
    ldc v17 h4 = some v18 ∧
    Sb (sto 2 v5 v19 h4) fun h5 =>
    Vb (lda 2 v5 h5) fun r1 =>
    R (.tuple #[v16, r1]) h5) (
    Vb (bin .eql v8 (Value.int IntKind.i64 0)) fun v22 =>
    Br v22 (
      Vb (bldS [(0, 1), (1, 1)] #[Value.int IntKind.i64 0, Value.int IntKind.i64 0] [(0, (Value.int IntKind.i64 8))]) fun v24 =>
      Sb (sto 2 v5 v24 h2) fun h6 =>
      Vb (lda 2 v5 h6) fun r1 =>
      R (.tuple #[stack0, r1]) h6) (
      Vb (bin .sub v8 (Value.int IntKind.i64 1)) fun v27 =>
      Vb (slc 1 stack0 none (some v27) none) fun v28 =>
      Vb (bin .sub v8 (Value.int IntKind.i64 1)) fun v31 =>
      Vb (ixs 1 stack0 v31) fun v32 =>
      Vb (ldc v32 h2) fun v33 =>
      Vb (bldS [(0, 1), (1, 1)] #[Value.int IntKind.i64 0, Value.int IntKind.i64 0] [(1, v33)]) fun v34 =>
      Sb (sto 2 v5 v34 h2) fun h7 =>
      Vb (lda 2 v5 h7) fun r1 =>
      R (.tuple #[v28, r1]) h7))

end Go.En
