/-
  Layer 18: the model's contracts, joined over the program.
-/
import Derived.Test.YtggieecoagcmbaaMdA
import Derived.Test.YtggieecoagcmbaaSoJ
namespace Go.En
open Go.ChangeShapes Go.WideShapes Prog Go.Sort

theorem csM0 : CsM0 (Sys.of Go.Proofs.Try.prog) ids := ⟨fun a b k => C_slices_Clone_api_Word_api_Word (K_CloneW a b k), fun a b k => C_model_Model_At (K_At a b k), csG1.check⟩
theorem csM1 : CsM1 (Sys.of Go.Proofs.Try.prog) ids := { csM0 with
  words := fun a b k => C_model_Model_Words (K_MWords csM0 a b k)
  holds := fun a b c d e k => C_model_Model_Holds (K_Holds csM0 a b c d e k) }
theorem csM2 : CsM2 (Sys.of Go.Proofs.Try.prog) ids := { csM1 with
  mnew := fun a b c k => C_model_New (K_MNew csM0 a b c k)
  swap := fun a b c d e f k => C_model_Model_Swap (K_Swap csM1 a b c d e f k) }
end Go.En
