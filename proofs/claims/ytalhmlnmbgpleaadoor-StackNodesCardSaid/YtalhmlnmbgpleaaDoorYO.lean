/-
  Layer 33: the contracts of the law Nodes.
-/
import Derived.Test.YtalhmlnmbgpleaaDoorYN
import Derived.Test.YtalhmlnmbgpleaaDoorYJ
namespace Go.En
open Go.ChangeShapes Go.WideShapes Prog Go.Sort
theorem csS12' : CsS12' (Sys.of Go.Proofs.Tryd.prog) ids := { csS8' with
  free := fun a b c d k => C_pool_Pool_Free (K_Free csQ a b c d k)
  unod1 := fun k => C_simulcastlaw33_StackNodes_1 k }
end Go.En
