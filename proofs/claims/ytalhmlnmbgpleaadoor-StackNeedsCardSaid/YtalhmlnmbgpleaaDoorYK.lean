/-
  Layer 33: the contracts of the law Turns.
-/
import Derived.Test.YtalhmlnmbgpleaaDoorYE
import Derived.Test.YtalhmlnmbgpleaaDoorYJ
namespace Go.En
open Go.ChangeShapes Go.WideShapes Prog Go.Sort
theorem csS9' : CsS9' (Sys.of Go.Proofs.Tryd.prog) ids := { csS8' with
  uturns1 := fun k => C_simulcastlaw33_StackTurns_1 k
  uturns2 := fun k => C_simulcastlaw33_StackTurns_2 k }
end Go.En
