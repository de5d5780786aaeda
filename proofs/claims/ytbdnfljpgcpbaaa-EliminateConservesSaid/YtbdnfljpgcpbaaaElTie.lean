/-
  The clean texts are what the engine reads off the program: by the kernel.
-/
import Derived.Test.YtbdnfljpgcpbaaaElText
import Derived.Test.YtbdnfljpgcpbaaaProg
import Derived.KernelRfl
namespace Go.En
set_option maxRecDepth 100000

/-- the numbers in this translation -/
def ids : Ids := { f_simulcastlaw53_EliminatePairs := 3, f_simulcastlaw53_EliminateFast := 4, f_simulcastlaw53_EliminateSpares := 5, f_simulcastlaw53_EliminateApplies := 6, f_simulcastlaw53_EliminateWitness := 7, f_simulcastlaw53_EliminateAlone := 8, f_simulcastlaw53_EliminateConserves := 9, f_simulcastlaw53_great := 10, f_simulcastlaw53_awake := 11, f_eliminate_Pairs := 12, f_simulcastref53_Pairs := 13, f_simulcastlaw53_of := 14, f_slices_Equal_int_int := 15, f_eliminate_Order := 16, f_slices_Clone_int64_int64 := 17, f_eliminate_Fast := 18, f_simulcastref53_Fast := 19, f_slices_Equal_int64_int64 := 20, f_simulcastlaw53_same := 21, f_slices_Clone_eliminate_Op_eliminate_Op := 22, f_eliminate_Apply := 23, f_simulcastref53_Apply := 24, f_slices_Equal_api_Answer_api_Answer := 25, f_eliminate_firsts := 26, f_simulcastref53_first := 27, f_eliminate_apply := 28, t_int64 := 2, t_int := 3, t_bool := 4, t_2_int := 34, t_eliminate_Op := 48, t_api_Answer := 52, t_simulcastref53_Op := 64, t_simulcastref53_Answer := 68 }
theorem mixed : Go.Proofs.Try.prog.follows .mixedOrders = true := by kernel_rfl

def H_simulcastlaw53_EliminatePairs : HT := (.s .z (.s (.s .z (.c (.s .z .z) .z)) (.s .z (.s .z (.s (.j [35] [0, 3, 5, 6, 7, 76] .z (.c (.s .z .z) .z)) (.s .z (.s (.s .z (.b (.l [8, 38] [0, 3, 5, 6, 7, 37, 76] (.s .z (.s (.c .z .z) (.s (.b (.s .z (.s (.s (.o [0, 1, 2, 3, 4, 5, 6, 7, 8, 9, 10, 11, 12, 13]) (.c (.s .z .z) .z)) (.o [0, 1, 2, 3, 4, 5, 6, 7, 8, 9, 10, 11])))) .z)))))) (.j [2] [76] .z .z))))))))
theorem E_simulcastlaw53_EliminatePairs (l0 : Value) (h : Hp) (R : Value → Hp → Prop) : F_simulcastlaw53_EliminatePairs (Sys.of Go.Proofs.Try.prog) ids l0 h R = denFn Go.Proofs.Try.prog Go.Proofs.Try.f3 H_simulcastlaw53_EliminatePairs [l0] h R := by kernel_rfl
theorem C_simulcastlaw53_EliminatePairs {l0 : Value} {h : Hp} {R : Value → Hp → Prop} (H : F_simulcastlaw53_EliminatePairs (Sys.of Go.Proofs.Try.prog) ids l0 h R) : (Sys.of Go.Proofs.Try.prog).C ids.f_simulcastlaw53_EliminatePairs [l0] h R :=
  cl_of_den Go.Proofs.Try.func3 (by kernel_rfl) mixed (E_simulcastlaw53_EliminatePairs l0 h R) H

def H_simulcastlaw53_EliminateFast : HT := (.s .z (.s (.s .z (.c (.s .z .z) .z)) (.s .z (.s .z (.s .z (.j [4] [45] .z .z))))))
theorem E_simulcastlaw53_EliminateFast (stack0 l1 : Value) (h : Hp) (R : Value → Hp → Prop) : F_simulcastlaw53_EliminateFast (Sys.of Go.Proofs.Try.prog) ids stack0 l1 h R = denFn Go.Proofs.Try.prog Go.Proofs.Try.f4 H_simulcastlaw53_EliminateFast [stack0, l1] h R := by kernel_rfl
theorem C_simulcastlaw53_EliminateFast {stack0 l1 : Value} {h : Hp} {R : Value → Hp → Prop} (H : F_simulcastlaw53_EliminateFast (Sys.of Go.Proofs.Try.prog) ids stack0 l1 h R) : (Sys.of Go.Proofs.Try.prog).C ids.f_simulcastlaw53_EliminateFast [stack0, l1] h R :=
  cl_of_den Go.Proofs.Try.func4 (by kernel_rfl) mixed (E_simulcastlaw53_EliminateFast stack0 l1 h R) H

def H_simulcastlaw53_EliminateSpares : HT := (.s .z (.s (.j [24] [0, 1, 2, 113] .z (.c (.s .z .z) .z)) (.s .z (.s (.s .z (.b (.l [7, 28] [0, 2, 26, 27, 113] (.s .z (.s (.c .z .z) (.s (.b (.s .z .z)) .z)))))) (.s .z (.j [10] [0, 7, 113] (.s .z (.c .z .z)) (.s (.o [0, 1, 2, 4, 5, 6, 3, 7, 8]) (.s .z (.s (.j [77] [7, 12, 113] .z (.c (.s .z .z) .z)) (.s .z (.s (.s .z (.b (.l [13, 14, 80] [12, 78, 79, 113] (.s .z (.s (.c .z .z) (.j [13, 14] [12, 78, 79, 80, 113] (.b (.s .z (.s (.s .z (.c (.s .z .z) .z)) (.s .z (.c .z .z))))) .z)))))) (.j [6] [113] .z .z))))))))))))
theorem E_simulcastlaw53_EliminateSpares (stack0 vs1 turn2 : Value) (h : Hp) (R : Value → Hp → Prop) : F_simulcastlaw53_EliminateSpares (Sys.of Go.Proofs.Try.prog) ids stack0 vs1 turn2 h R = denFn Go.Proofs.Try.prog Go.Proofs.Try.f5 H_simulcastlaw53_EliminateSpares [stack0, vs1, turn2] h R := by kernel_rfl
theorem C_simulcastlaw53_EliminateSpares {stack0 vs1 turn2 : Value} {h : Hp} {R : Value → Hp → Prop} (H : F_simulcastlaw53_EliminateSpares (Sys.of Go.Proofs.Try.prog) ids stack0 vs1 turn2 h R) : (Sys.of Go.Proofs.Try.prog).C ids.f_simulcastlaw53_EliminateSpares [stack0, vs1, turn2] h R :=
  cl_of_den Go.Proofs.Try.func5 (by kernel_rfl) mixed (E_simulcastlaw53_EliminateSpares stack0 vs1 turn2 h R) H

def H_simulcastlaw53_EliminateApplies : HT := (.s .z (.s (.s .z (.c (.s .z .z) .z)) (.s .z (.s .z (.s .z (.j [4] [45] .z .z))))))
theorem E_simulcastlaw53_EliminateApplies (stack0 l1 : Value) (h : Hp) (R : Value → Hp → Prop) : F_simulcastlaw53_EliminateApplies (Sys.of Go.Proofs.Try.prog) ids stack0 l1 h R = denFn Go.Proofs.Try.prog Go.Proofs.Try.f6 H_simulcastlaw53_EliminateApplies [stack0, l1] h R := by kernel_rfl
theorem C_simulcastlaw53_EliminateApplies {stack0 l1 : Value} {h : Hp} {R : Value → Hp → Prop} (H : F_simulcastlaw53_EliminateApplies (Sys.of Go.Proofs.Try.prog) ids stack0 l1 h R) : (Sys.of Go.Proofs.Try.prog).C ids.f_simulcastlaw53_EliminateApplies [stack0, l1] h R :=
  cl_of_den Go.Proofs.Try.func6 (by kernel_rfl) mixed (E_simulcastlaw53_EliminateApplies stack0 l1 h R) H

def H_simulcastlaw53_EliminateWitness : HT := (.s .z (.s (.s .z (.c (.s .z .z) .z)) (.s .z (.s .z (.s .z (.s .z (.s (.s .z (.b (.l [6, 31] [0, 1, 5, 7, 8, 29, 30, 138] (.s .z (.s (.c .z .z) (.s (.b (.s .z (.s (.j [48] [0, 1, 5, 6, 7, 8, 10, 29, 30, 31, 138] .z (.c (.s .z .z) .z)) (.s .z (.s (.s .z (.j [67] [0, 1, 5, 6, 7, 8, 10, 29, 30, 31, 138] .z (.c (.s .z .z) .z))) (.s .z .z)))))) .z)))))) (.s .z (.s .z (.s (.j [119] [5, 14, 16, 138] .z (.c (.s .z .z) .z)) (.s (.s .z (.b (.l [122] [14, 16, 120, 121, 138] (.s .z (.s (.c .z .z) (.s (.b (.s .z (.s (.o [0, 1, 2, 3, 4, 5, 6, 7, 8]) (.c (.s .z .z) .z)))) .z)))))) (.s .z .z))))))))))))
theorem E_simulcastlaw53_EliminateWitness (stack0 l1 : Value) (h : Hp) (R : Value → Hp → Prop) : F_simulcastlaw53_EliminateWitness (Sys.of Go.Proofs.Try.prog) ids stack0 l1 h R = denFn Go.Proofs.Try.prog Go.Proofs.Try.f7 H_simulcastlaw53_EliminateWitness [stack0, l1] h R := by kernel_rfl
theorem C_simulcastlaw53_EliminateWitness {stack0 l1 : Value} {h : Hp} {R : Value → Hp → Prop} (H : F_simulcastlaw53_EliminateWitness (Sys.of Go.Proofs.Try.prog) ids stack0 l1 h R) : (Sys.of Go.Proofs.Try.prog).C ids.f_simulcastlaw53_EliminateWitness [stack0, l1] h R :=
  cl_of_den Go.Proofs.Try.func7 (by kernel_rfl) mixed (E_simulcastlaw53_EliminateWitness stack0 l1 h R) H

def H_simulcastlaw53_EliminateAlone : HT := (.s .z (.s (.s .z (.c (.s .z .z) .z)) (.s .z (.s (.s .z (.b (.l [23] [0, 2, 7, 22, 81] (.s .z (.s (.c .z .z) (.j [] [0, 2, 7, 22, 23, 81] (.b (.s .z (.s .z (.c .z .z)))) .z)))))) (.s .z (.s .z (.s .z (.j [6] [81] .z .z))))))))
theorem E_simulcastlaw53_EliminateAlone (stack0 l1 how2 : Value) (h : Hp) (R : Value → Hp → Prop) : F_simulcastlaw53_EliminateAlone (Sys.of Go.Proofs.Try.prog) ids stack0 l1 how2 h R = denFn Go.Proofs.Try.prog Go.Proofs.Try.f8 H_simulcastlaw53_EliminateAlone [stack0, l1, how2] h R := by kernel_rfl
theorem C_simulcastlaw53_EliminateAlone {stack0 l1 how2 : Value} {h : Hp} {R : Value → Hp → Prop} (H : F_simulcastlaw53_EliminateAlone (Sys.of Go.Proofs.Try.prog) ids stack0 l1 how2 h R) : (Sys.of Go.Proofs.Try.prog).C ids.f_simulcastlaw53_EliminateAlone [stack0, l1, how2] h R :=
  cl_of_den Go.Proofs.Try.func8 (by kernel_rfl) mixed (E_simulcastlaw53_EliminateAlone stack0 l1 how2 h R) H

def H_simulcastlaw53_EliminateConserves : HT := (.s .z (.s (.s .z (.c (.s .z .z) .z)) (.s (.s .z (.b (.l [24] [0, 1, 22, 23, 110] (.s .z (.s (.c .z .z) (.s (.b (.s .z (.s .z (.j [7, 8] [0, 1, 22, 23, 24, 110] (.s .z (.c .z .z)) (.s (.s .z (.c (.s .z .z) .z)) (.s .z (.s (.s .z (.b (.l [49] [0, 1, 7, 8, 9, 22, 23, 24, 47, 48, 110] (.s .z (.s (.c .z .z) (.s (.b (.s .z .z)) .z)))))) (.s (.s .z (.b (.l [60] [0, 1, 7, 8, 9, 22, 23, 24, 58, 59, 110] (.s .z (.s (.c .z .z) (.j [] [0, 1, 7, 8, 9, 22, 23, 24, 58, 59, 60, 110] (.b (.s .z (.b (.s .z (.c .z (.s .z (.c .z .z))))))) .z)))))) (.s (.s .z (.b (.l [91] [0, 1, 9, 22, 23, 24, 89, 90, 110] (.s .z (.s (.c .z .z) (.s (.b (.s .z .z)) .z)))))) (.s .z (.b (.l [] [0, 1, 22, 23, 24, 101, 110] (.s .z (.s (.c .z .z) (.b (.s .z (.s .z (.c (.s .z .z) .z)))))))))))))))))) .z)))))) (.s .z .z))))
theorem E_simulcastlaw53_EliminateConserves (stack0 l1 : Value) (h : Hp) (R : Value → Hp → Prop) : F_simulcastlaw53_EliminateConserves (Sys.of Go.Proofs.Try.prog) ids stack0 l1 h R = denFn Go.Proofs.Try.prog Go.Proofs.Try.f9 H_simulcastlaw53_EliminateConserves [stack0, l1] h R := by kernel_rfl
theorem C_simulcastlaw53_EliminateConserves {stack0 l1 : Value} {h : Hp} {R : Value → Hp → Prop} (H : F_simulcastlaw53_EliminateConserves (Sys.of Go.Proofs.Try.prog) ids stack0 l1 h R) : (Sys.of Go.Proofs.Try.prog).C ids.f_simulcastlaw53_EliminateConserves [stack0, l1] h R :=
  cl_of_den Go.Proofs.Try.func9 (by kernel_rfl) mixed (E_simulcastlaw53_EliminateConserves stack0 l1 h R) H

def H_simulcastlaw53_great : HT := (.s .z (.j [4] [13] .z .z))
theorem E_simulcastlaw53_great (stack0 l1 : Value) (h : Hp) (R : Value → Hp → Prop) : F_simulcastlaw53_great (Sys.of Go.Proofs.Try.prog) ids stack0 l1 h R = denFn Go.Proofs.Try.prog Go.Proofs.Try.f10 H_simulcastlaw53_great [stack0, l1] h R := by kernel_rfl
theorem C_simulcastlaw53_great {stack0 l1 : Value} {h : Hp} {R : Value → Hp → Prop} (H : F_simulcastlaw53_great (Sys.of Go.Proofs.Try.prog) ids stack0 l1 h R) : (Sys.of Go.Proofs.Try.prog).C ids.f_simulcastlaw53_great [stack0, l1] h R :=
  cl_of_den Go.Proofs.Try.func10 (by kernel_rfl) mixed (E_simulcastlaw53_great stack0 l1 h R) H

def H_simulcastlaw53_awake : HT := (.s .z (.s .z (.s .z (.s .z (.j [0] [66] .z .z)))))
theorem E_simulcastlaw53_awake (h : Hp) (R : Value → Hp → Prop) : F_simulcastlaw53_awake (Sys.of Go.Proofs.Try.prog) ids h R = denFn Go.Proofs.Try.prog Go.Proofs.Try.f11 H_simulcastlaw53_awake [] h R := by kernel_rfl
theorem C_simulcastlaw53_awake {h : Hp} {R : Value → Hp → Prop} (H : F_simulcastlaw53_awake (Sys.of Go.Proofs.Try.prog) ids h R) : (Sys.of Go.Proofs.Try.prog).C ids.f_simulcastlaw53_awake [] h R :=
  cl_of_den Go.Proofs.Try.func11 (by kernel_rfl) mixed (E_simulcastlaw53_awake h R) H

def H_eliminate_Pairs : HT := (.s .z (.s .z (.s .z (.s .z (.s (.s .z (.b (.l [7, 22] [0, 4, 5, 6, 21, 68] (.s .z (.s (.c .z .z) (.s (.b (.s .z (.s (.o [0, 1, 2, 3, 4, 5, 6, 7, 8, 9, 10, 11, 12]) (.o [0, 1, 2, 3, 4, 5, 6, 7, 8, 9, 10, 11, 12, 13, 14, 15])))) .z)))))) (.s .z (.s (.s .z (.b (.l [9, 54] [6, 7, 53, 68] (.s .z (.s (.c .z .z) (.j [9] [6, 7, 53, 54, 68] (.b (.s .z (.s .z (.c .z .z)))) .z)))))) (.s .z .z))))))))
theorem E_eliminate_Pairs (l0 : Value) (h : Hp) (R : Value → Hp → Prop) : F_eliminate_Pairs (Sys.of Go.Proofs.Try.prog) ids l0 h R = denFn Go.Proofs.Try.prog Go.Proofs.Try.f12 H_eliminate_Pairs [l0] h R := by kernel_rfl
theorem C_eliminate_Pairs {l0 : Value} {h : Hp} {R : Value → Hp → Prop} (H : F_eliminate_Pairs (Sys.of Go.Proofs.Try.prog) ids l0 h R) : (Sys.of Go.Proofs.Try.prog).C ids.f_eliminate_Pairs [l0] h R :=
  cl_of_den Go.Proofs.Try.func12 (by kernel_rfl) mixed (E_eliminate_Pairs l0 h R) H

def H_simulcastref53_Pairs : HT := (.s .z (.s .z (.s (.s .z (.b (.l [5, 6, 8] [0, 7, 99] (.s (.s .z (.c .z .z)) (.j [5, 6] [0, 7, 8, 99] (.b (.j [5] [0, 6, 7, 8, 99] (.j [28] [0, 5, 6, 7, 8, 99] .z (.c .z .z)) (.j [43] [0, 5, 6, 7, 8, 99] .z (.c .z .z)))) .z))))) (.s .z (.j [9] [0, 5, 6, 7, 99] (.s .z (.c .z .z)) (.s .z (.s .z (.s (.s .z (.b (.l [7, 10] [0, 5, 6, 9, 99] (.s (.s .z (.c .z .z)) (.j [7] [0, 5, 6, 9, 10, 99] (.b (.s .z (.s (.s .z (.b (.l [11, 12] [0, 5, 6, 7, 9, 10, 99] (.s (.s .z (.c .z .z)) (.j [11] [0, 5, 6, 7, 9, 10, 12, 99] (.b .z) .z))))) (.s .z (.c .z .z))))) .z))))) (.s .z .z)))))))))
theorem E_simulcastref53_Pairs (l0 : Value) (h : Hp) (R : Value → Hp → Prop) : F_simulcastref53_Pairs (Sys.of Go.Proofs.Try.prog) ids l0 h R = denFn Go.Proofs.Try.prog Go.Proofs.Try.f13 H_simulcastref53_Pairs [l0] h R := by kernel_rfl
theorem C_simulcastref53_Pairs {l0 : Value} {h : Hp} {R : Value → Hp → Prop} (H : F_simulcastref53_Pairs (Sys.of Go.Proofs.Try.prog) ids l0 h R) : (Sys.of Go.Proofs.Try.prog).C ids.f_simulcastref53_Pairs [l0] h R :=
  cl_of_den Go.Proofs.Try.func13 (by kernel_rfl) mixed (E_simulcastref53_Pairs l0 h R) H

def H_simulcastlaw53_of : HT := (.s .z (.s .z (.s (.s .z (.b (.l [3, 8] [6, 7, 18] (.s .z (.s (.c .z .z) (.s (.b (.s .z .z)) .z)))))) (.s .z .z))))
theorem E_simulcastlaw53_of (l0 : Value) (h : Hp) (R : Value → Hp → Prop) : F_simulcastlaw53_of (Sys.of Go.Proofs.Try.prog) ids l0 h R = denFn Go.Proofs.Try.prog Go.Proofs.Try.f14 H_simulcastlaw53_of [l0] h R := by kernel_rfl
theorem C_simulcastlaw53_of {l0 : Value} {h : Hp} {R : Value → Hp → Prop} (H : F_simulcastlaw53_of (Sys.of Go.Proofs.Try.prog) ids l0 h R) : (Sys.of Go.Proofs.Try.prog).C ids.f_simulcastlaw53_of [l0] h R :=
  cl_of_den Go.Proofs.Try.func14 (by kernel_rfl) mixed (E_simulcastlaw53_of l0 h R) H

def H_slices_Equal_int_int : HT := (.s .z (.s (.s .z (.c (.s .z .z) .z)) (.s (.s .z (.b (.l [13] [0, 1, 12, 26] (.s .z (.s (.c .z .z) (.s (.b (.s .z (.s (.o [0, 1, 2, 3, 4, 5, 6, 7, 8]) (.c (.s .z .z) .z)))) .z)))))) (.s .z .z))))
theorem E_slices_Equal_int_int (s10 s21 : Value) (h : Hp) (R : Value → Hp → Prop) : F_slices_Equal_int_int (Sys.of Go.Proofs.Try.prog) ids s10 s21 h R = denFn Go.Proofs.Try.prog Go.Proofs.Try.f15 H_slices_Equal_int_int [s10, s21] h R := by kernel_rfl
theorem C_slices_Equal_int_int {s10 s21 : Value} {h : Hp} {R : Value → Hp → Prop} (H : F_slices_Equal_int_int (Sys.of Go.Proofs.Try.prog) ids s10 s21 h R) : (Sys.of Go.Proofs.Try.prog).C ids.f_slices_Equal_int_int [s10, s21] h R :=
  cl_of_den Go.Proofs.Try.func15 (by kernel_rfl) mixed (E_slices_Equal_int_int s10 s21 h R) H

def H_eliminate_Order : HT := (.s .z (.s .z (.s .z (.s (.s .z (.b (.l [5, 15] [4, 13, 14, 26] (.s .z (.s (.c .z .z) (.s (.b (.s .z .z)) .z)))))) (.s .z .z)))))
theorem E_eliminate_Order (l0 : Value) (h : Hp) (R : Value → Hp → Prop) : F_eliminate_Order (Sys.of Go.Proofs.Try.prog) ids l0 h R = denFn Go.Proofs.Try.prog Go.Proofs.Try.f16 H_eliminate_Order [l0] h R := by kernel_rfl
theorem C_eliminate_Order {l0 : Value} {h : Hp} {R : Value → Hp → Prop} (H : F_eliminate_Order (Sys.of Go.Proofs.Try.prog) ids l0 h R) : (Sys.of Go.Proofs.Try.prog).C ids.f_eliminate_Order [l0] h R :=
  cl_of_den Go.Proofs.Try.func16 (by kernel_rfl) mixed (E_eliminate_Order l0 h R) H

def H_slices_Clone_int64_int64 : HT := (.s .z (.s (.s .z (.c (.s .z .z) .z)) (.s .z .z)))
theorem E_slices_Clone_int64_int64 (s0 : Value) (h : Hp) (R : Value → Hp → Prop) : F_slices_Clone_int64_int64 (Sys.of Go.Proofs.Try.prog) ids s0 h R = denFn Go.Proofs.Try.prog Go.Proofs.Try.f17 H_slices_Clone_int64_int64 [s0] h R := by kernel_rfl
theorem C_slices_Clone_int64_int64 {s0 : Value} {h : Hp} {R : Value → Hp → Prop} (H : F_slices_Clone_int64_int64 (Sys.of Go.Proofs.Try.prog) ids s0 h R) : (Sys.of Go.Proofs.Try.prog).C ids.f_slices_Clone_int64_int64 [s0] h R :=
  cl_of_den Go.Proofs.Try.func17 (by kernel_rfl) mixed (E_slices_Clone_int64_int64 s0 h R) H

def H_eliminate_Fast : HT := (.s .z (.s .z (.s .z (.j [8] [0, 1, 6, 7, 72] (.s .z (.c .z .z)) (.s (.s .z (.b (.l [29] [0, 1, 7, 8, 27, 28, 72] (.s .z (.s (.c .z .z) (.s (.b (.s .z (.s .z (.b (.l [34] [0, 1, 7, 8, 10, 27, 28, 29, 33, 72] (.s .z (.s (.c .z .z) (.s (.b (.s .z .z)) .z)))))))) .z)))))) (.s .z (.s (.s .z (.b (.l [13, 53] [1, 8, 51, 52, 72] (.s .z (.s (.c .z .z) (.s (.b (.s .z .z)) .z)))))) (.s .z .z))))))))
theorem E_eliminate_Fast (stack0 l1 : Value) (h : Hp) (R : Value → Hp → Prop) : F_eliminate_Fast (Sys.of Go.Proofs.Try.prog) ids stack0 l1 h R = denFn Go.Proofs.Try.prog Go.Proofs.Try.f18 H_eliminate_Fast [stack0, l1] h R := by kernel_rfl
theorem C_eliminate_Fast {stack0 l1 : Value} {h : Hp} {R : Value → Hp → Prop} (H : F_eliminate_Fast (Sys.of Go.Proofs.Try.prog) ids stack0 l1 h R) : (Sys.of Go.Proofs.Try.prog).C ids.f_eliminate_Fast [stack0, l1] h R :=
  cl_of_den Go.Proofs.Try.func18 (by kernel_rfl) mixed (E_eliminate_Fast stack0 l1 h R) H

def H_simulcastref53_Fast : HT := (.s .z (.s .z (.s .z (.s (.s .z (.b (.l [10] [0, 1, 6, 7, 8, 9, 101] (.s (.s .z (.c .z .z)) (.s (.b (.s (.o [0, 1, 2, 3, 4, 5, 6, 7, 8, 9, 10, 11, 12, 13, 14, 15]) (.o [0, 1, 2, 3, 4, 5, 6, 7, 8, 9, 10, 11, 12, 13, 14, 15]))) .z))))) (.s .z (.s (.s .z (.b (.l [11, 12] [0, 1, 8, 9, 101] (.s (.s .z (.c .z .z)) (.s (.b .z) .z))))) (.s .z (.s (.s .z (.b (.l [15] [8, 9, 13, 14, 101] (.s (.s .z (.c .z .z)) (.s (.b (.o [0, 1, 2, 3, 4, 5, 6, 7, 8, 9, 10])) .z))))) (.s .z .z)))))))))
theorem E_simulcastref53_Fast (stack0 l1 : Value) (h : Hp) (R : Value → Hp → Prop) : F_simulcastref53_Fast (Sys.of Go.Proofs.Try.prog) ids stack0 l1 h R = denFn Go.Proofs.Try.prog Go.Proofs.Try.f19 H_simulcastref53_Fast [stack0, l1] h R := by kernel_rfl
theorem C_simulcastref53_Fast {stack0 l1 : Value} {h : Hp} {R : Value → Hp → Prop} (H : F_simulcastref53_Fast (Sys.of Go.Proofs.Try.prog) ids stack0 l1 h R) : (Sys.of Go.Proofs.Try.prog).C ids.f_simulcastref53_Fast [stack0, l1] h R :=
  cl_of_den Go.Proofs.Try.func19 (by kernel_rfl) mixed (E_simulcastref53_Fast stack0 l1 h R) H

def H_slices_Equal_int64_int64 : HT := (.s .z (.s (.s .z (.c (.s .z .z) .z)) (.s (.s .z (.b (.l [13] [0, 1, 12, 26] (.s .z (.s (.c .z .z) (.s (.b (.s .z (.s (.o [0, 1, 2, 3, 4, 5, 6, 7, 8]) (.c (.s .z .z) .z)))) .z)))))) (.s .z .z))))
theorem E_slices_Equal_int64_int64 (s10 s21 : Value) (h : Hp) (R : Value → Hp → Prop) : F_slices_Equal_int64_int64 (Sys.of Go.Proofs.Try.prog) ids s10 s21 h R = denFn Go.Proofs.Try.prog Go.Proofs.Try.f20 H_slices_Equal_int64_int64 [s10, s21] h R := by kernel_rfl
theorem C_slices_Equal_int64_int64 {s10 s21 : Value} {h : Hp} {R : Value → Hp → Prop} (H : F_slices_Equal_int64_int64 (Sys.of Go.Proofs.Try.prog) ids s10 s21 h R) : (Sys.of Go.Proofs.Try.prog).C ids.f_slices_Equal_int64_int64 [s10, s21] h R :=
  cl_of_den Go.Proofs.Try.func20 (by kernel_rfl) mixed (E_slices_Equal_int64_int64 s10 s21 h R) H

def H_simulcastlaw53_same : HT := (.s .z (.s (.s .z (.c (.s .z .z) .z)) (.s (.s .z (.b (.l [13] [0, 1, 12, 41] (.s .z (.s (.c .z .z) (.s (.b (.s .z (.j [39] [0, 1, 12, 13, 41] (.o [0, 1, 2, 3, 4, 5, 6, 7, 8, 9, 10, 11, 12, 13, 14, 15, 16, 17, 18, 19, 20, 21, 22, 23]) (.c (.s .z .z) .z)))) .z)))))) (.s .z .z))))
theorem E_simulcastlaw53_same (a0 b1 : Value) (h : Hp) (R : Value → Hp → Prop) : F_simulcastlaw53_same (Sys.of Go.Proofs.Try.prog) ids a0 b1 h R = denFn Go.Proofs.Try.prog Go.Proofs.Try.f21 H_simulcastlaw53_same [a0, b1] h R := by kernel_rfl
theorem C_simulcastlaw53_same {a0 b1 : Value} {h : Hp} {R : Value → Hp → Prop} (H : F_simulcastlaw53_same (Sys.of Go.Proofs.Try.prog) ids a0 b1 h R) : (Sys.of Go.Proofs.Try.prog).C ids.f_simulcastlaw53_same [a0, b1] h R :=
  cl_of_den Go.Proofs.Try.func21 (by kernel_rfl) mixed (E_simulcastlaw53_same a0 b1 h R) H

def H_slices_Clone_eliminate_Op_eliminate_Op : HT := (.s .z (.s (.s .z (.c (.s .z .z) .z)) (.s .z .z)))
theorem E_slices_Clone_eliminate_Op_eliminate_Op (s0 : Value) (h : Hp) (R : Value → Hp → Prop) : F_slices_Clone_eliminate_Op_eliminate_Op (Sys.of Go.Proofs.Try.prog) ids s0 h R = denFn Go.Proofs.Try.prog Go.Proofs.Try.f22 H_slices_Clone_eliminate_Op_eliminate_Op [s0] h R := by kernel_rfl
theorem C_slices_Clone_eliminate_Op_eliminate_Op {s0 : Value} {h : Hp} {R : Value → Hp → Prop} (H : F_slices_Clone_eliminate_Op_eliminate_Op (Sys.of Go.Proofs.Try.prog) ids s0 h R) : (Sys.of Go.Proofs.Try.prog).C ids.f_slices_Clone_eliminate_Op_eliminate_Op [s0] h R :=
  cl_of_den Go.Proofs.Try.func22 (by kernel_rfl) mixed (E_slices_Clone_eliminate_Op_eliminate_Op s0 h R) H

def H_eliminate_Apply : HT := (.s .z (.s .z (.s .z (.s (.s .z (.b (.l [6, 7, 16] [14, 15, 34] (.s .z (.s (.c .z .z) (.s (.b (.s .z (.s .z .z))) .z)))))) (.s .z .z)))))
theorem E_eliminate_Apply (stack0 l1 : Value) (h : Hp) (R : Value → Hp → Prop) : F_eliminate_Apply (Sys.of Go.Proofs.Try.prog) ids stack0 l1 h R = denFn Go.Proofs.Try.prog Go.Proofs.Try.f23 H_eliminate_Apply [stack0, l1] h R := by kernel_rfl
theorem C_eliminate_Apply {stack0 l1 : Value} {h : Hp} {R : Value → Hp → Prop} (H : F_eliminate_Apply (Sys.of Go.Proofs.Try.prog) ids stack0 l1 h R) : (Sys.of Go.Proofs.Try.prog).C ids.f_eliminate_Apply [stack0, l1] h R :=
  cl_of_den Go.Proofs.Try.func23 (by kernel_rfl) mixed (E_eliminate_Apply stack0 l1 h R) H

def H_simulcastref53_Apply : HT := (.s .z (.s .z (.s .z (.s .z (.s (.s .z (.b (.l [6, 7, 8] [1, 64] (.s (.s .z (.c .z .z)) (.j [6, 7] [1, 8, 64] (.b (.s .z (.c (.s .z .z) (.s .z (.c .z (.s .z .z)))))) .z))))) (.s .z .z))))))
theorem E_simulcastref53_Apply (stack0 l1 : Value) (h : Hp) (R : Value → Hp → Prop) : F_simulcastref53_Apply (Sys.of Go.Proofs.Try.prog) ids stack0 l1 h R = denFn Go.Proofs.Try.prog Go.Proofs.Try.f24 H_simulcastref53_Apply [stack0, l1] h R := by kernel_rfl
theorem C_simulcastref53_Apply {stack0 l1 : Value} {h : Hp} {R : Value → Hp → Prop} (H : F_simulcastref53_Apply (Sys.of Go.Proofs.Try.prog) ids stack0 l1 h R) : (Sys.of Go.Proofs.Try.prog).C ids.f_simulcastref53_Apply [stack0, l1] h R :=
  cl_of_den Go.Proofs.Try.func24 (by kernel_rfl) mixed (E_simulcastref53_Apply stack0 l1 h R) H

def H_slices_Equal_api_Answer_api_Answer : HT := (.s .z (.s (.s .z (.c (.s .z .z) .z)) (.s (.s .z (.b (.l [13] [0, 1, 12, 26] (.s .z (.s (.c .z .z) (.s (.b (.s .z (.s (.o [0, 1, 2, 3, 4, 5, 6, 7, 8]) (.c (.s .z .z) .z)))) .z)))))) (.s .z .z))))
theorem E_slices_Equal_api_Answer_api_Answer (s10 s21 : Value) (h : Hp) (R : Value → Hp → Prop) : F_slices_Equal_api_Answer_api_Answer (Sys.of Go.Proofs.Try.prog) ids s10 s21 h R = denFn Go.Proofs.Try.prog Go.Proofs.Try.f25 H_slices_Equal_api_Answer_api_Answer [s10, s21] h R := by kernel_rfl
theorem C_slices_Equal_api_Answer_api_Answer {s10 s21 : Value} {h : Hp} {R : Value → Hp → Prop} (H : F_slices_Equal_api_Answer_api_Answer (Sys.of Go.Proofs.Try.prog) ids s10 s21 h R) : (Sys.of Go.Proofs.Try.prog).C ids.f_slices_Equal_api_Answer_api_Answer [s10, s21] h R :=
  cl_of_den Go.Proofs.Try.func25 (by kernel_rfl) mixed (E_slices_Equal_api_Answer_api_Answer s10 s21 h R) H

def H_eliminate_firsts : HT := (.s .z (.s .z (.s (.s .z (.b (.l [2, 3, 10] [4, 8, 9, 35] (.s .z (.s (.c .z .z) (.j [2, 3] [4, 8, 9, 10, 35] (.b (.s .z (.s (.s .z (.c .z .z)) (.s .z (.s .z (.c .z .z)))))) .z)))))) (.s .z .z))))
theorem E_eliminate_firsts (l0 : Value) (h : Hp) (R : Value → Hp → Prop) : F_eliminate_firsts (Sys.of Go.Proofs.Try.prog) ids l0 h R = denFn Go.Proofs.Try.prog Go.Proofs.Try.f26 H_eliminate_firsts [l0] h R := by kernel_rfl
theorem C_eliminate_firsts {l0 : Value} {h : Hp} {R : Value → Hp → Prop} (H : F_eliminate_firsts (Sys.of Go.Proofs.Try.prog) ids l0 h R) : (Sys.of Go.Proofs.Try.prog).C ids.f_eliminate_firsts [l0] h R :=
  cl_of_den Go.Proofs.Try.func26 (by kernel_rfl) mixed (E_eliminate_firsts l0 h R) H

def H_simulcastref53_first : HT := (.s .z (.s (.s .z (.b (.l [5] [0, 1, 22] (.s (.s .z (.c .z .z)) (.s (.b (.s (.o [0, 1, 2, 3, 4, 5, 6, 7, 8, 9, 10]) (.c (.s .z .z) .z))) .z))))) (.s .z .z)))
theorem E_simulcastref53_first (l0 i1 : Value) (h : Hp) (R : Value → Hp → Prop) : F_simulcastref53_first (Sys.of Go.Proofs.Try.prog) ids l0 i1 h R = denFn Go.Proofs.Try.prog Go.Proofs.Try.f27 H_simulcastref53_first [l0, i1] h R := by kernel_rfl
theorem C_simulcastref53_first {l0 i1 : Value} {h : Hp} {R : Value → Hp → Prop} (H : F_simulcastref53_first (Sys.of Go.Proofs.Try.prog) ids l0 i1 h R) : (Sys.of Go.Proofs.Try.prog).C ids.f_simulcastref53_first [l0, i1] h R :=
  cl_of_den Go.Proofs.Try.func27 (by kernel_rfl) mixed (E_simulcastref53_first l0 i1 h R) H

def H_eliminate_apply : HT := (.s .z (.s .z (.s (.b (.s .z (.c (.s (.o [0, 1, 2, 5, 6, 7, 3, 4, 8, 9]) .z) (.s .z (.c (.s .z .z) .z))))) (.s (.o [0, 1, 2, 3, 4, 5, 6, 7, 8, 9, 10, 11]) .z))))
theorem E_eliminate_apply (stack0 o1 : Value) (h : Hp) (R : Value → Hp → Prop) : F_eliminate_apply (Sys.of Go.Proofs.Try.prog) ids stack0 o1 h R = denFn Go.Proofs.Try.prog Go.Proofs.Try.f28 H_eliminate_apply [stack0, o1] h R := by kernel_rfl
theorem C_eliminate_apply {stack0 o1 : Value} {h : Hp} {R : Value → Hp → Prop} (H : F_eliminate_apply (Sys.of Go.Proofs.Try.prog) ids stack0 o1 h R) : (Sys.of Go.Proofs.Try.prog).C ids.f_eliminate_apply [stack0, o1] h R :=
  cl_of_den Go.Proofs.Try.func28 (by kernel_rfl) mixed (E_eliminate_apply stack0 o1 h R) H

end Go.En
