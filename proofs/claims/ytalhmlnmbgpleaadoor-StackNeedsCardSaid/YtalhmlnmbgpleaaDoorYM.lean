/-
  Layer 33: the contracts of the law Needs.
-/
import Derived.Test.YtalhmlnmbgpleaaDoorYH
import Derived.Test.YtalhmlnmbgpleaaDoorYL
namespace Go.En
open Go.ChangeShapes Go.WideShapes Prog Go.Sort
theorem csS11' : CsS11' (Sys.of Go.Proofs.Tryd.prog) ids := { csS10' with
  uneed1 := fun k => C_simulcastlaw33_StackNeeds_1 k
  equalE := fun a b c k => C_slices_Equal_api_Entry_api_Entry (K_EqualE a b c k) }
end Go.En
