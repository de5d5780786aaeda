/-
  Layer 33: the contracts of the law Broken.
-/
import Derived.Test.YtalhmlnmbgpleaaDoorYG
import Derived.Test.YtalhmlnmbgpleaaDoorYK
namespace Go.En
open Go.ChangeShapes Go.WideShapes Prog Go.Sort
theorem csS10' : CsS10' (Sys.of Go.Proofs.Tryd.prog) ids := { csS9' with
  ubrk1 := fun k => C_simulcastlaw33_StackBroken_1 k
  ubrk2 := fun k => C_simulcastlaw33_StackBroken_2 k }
end Go.En
