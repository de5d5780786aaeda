/-
  Layer 38: the contracts of the laws Few and Handles.
-/
import Derived.Test.YtjnpmadojjfkpaaGreatZF
import Derived.Test.YtjnpmadojjfkpaaGreatZJ
namespace Go.En
open Go.ChangeShapes Go.WideShapes Prog Go.Sort
theorem csV9 : CsV9 (Sys.of Go.Proofs.Tryz.prog) ids := { csV8 with
  urow := fun k => C_simulcastlaw38_state_row k
  uhan1 := fun k => C_simulcastlaw38_HeapHandles_1 k
  uhan2 := fun k => C_simulcastlaw38_HeapHandles_2 k }
end Go.En
