/-
  Layer 30: the contracts of the law Entries, joined over the program.
-/
import Derived.Test.YtggieecoagcmbaaLsJ
import Derived.Test.YtggieecoagcmbaaLsK
import Derived.Test.YtggieecoagcmbaaMdJ
namespace Go.En
open Go.ChangeShapes Go.WideShapes Prog Go.Sort

theorem csR7 : CsR7 (Sys.of Go.Proofs.Try.prog) ids := { csR5, csM2 with }
theorem wf_u16 {z : Int} (h : (Lit.int .u16 z).wf = true) : 0 ≤ z ∧ z ≤ 65535 := by
  have h1 : IntKind.u16.min = 0 := rfl
  have h2 : IntKind.u16.max = 65535 := rfl
  simp only [Lit.wf, Bool.and_eq_true, decide_eq_true_eq] at h
  exact ⟨by omega, by omega⟩
end Go.En
