/-
  Layer 38: the contracts of the law Broken.
-/
import Derived.Test.YtjnpmadojjfkpaaGreatZP
import Derived.Test.YtjnpmadojjfkpaaGreatZJ
namespace Go.En
open Go.ChangeShapes Go.WideShapes Prog Go.Sort
theorem csVX : CsVX (Sys.of Go.Proofs.Tryz.prog) ids := { csV8 with
  ubrk1 := fun k => C_simulcastlaw38_HeapBroken_1 k
  ubrk2 := fun k => C_simulcastlaw38_HeapBroken_2 k }
end Go.En
