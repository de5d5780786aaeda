/-
  Layer 38: the contracts of the law Stands.
-/
import Derived.Test.YtjnpmadojjfkpaaGreatZG
import Derived.Test.YtjnpmadojjfkpaaGreatZK
namespace Go.En
open Go.ChangeShapes Go.WideShapes Prog Go.Sort
theorem csVA : CsVA (Sys.of Go.Proofs.Tryz.prog) ids := { csV9 with usta1 := fun k => C_simulcastlaw38_HeapStands_1 k }
end Go.En
