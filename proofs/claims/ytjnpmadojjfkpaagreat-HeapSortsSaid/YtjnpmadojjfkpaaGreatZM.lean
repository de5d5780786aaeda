/-
  Layer 38: the contracts of the law Sorts.
-/
import Derived.Test.YtjnpmadojjfkpaaGreatZH
import Derived.Test.YtjnpmadojjfkpaaGreatZJ
namespace Go.En
open Go.ChangeShapes Go.WideShapes Prog Go.Sort
theorem csVS : CsVS (Sys.of Go.Proofs.Tryz.prog) ids := { csV8 with
  odd := fun a b c => C_simulcastlaw38_odd (K_odd a b c)
  usor1 := fun k => C_simulcastlaw38_HeapSorts_1 k
  usor2 := fun k => C_simulcastlaw38_HeapSorts_2 k
  usor3 := fun k => C_simulcastlaw38_HeapSorts_3 k }
end Go.En
