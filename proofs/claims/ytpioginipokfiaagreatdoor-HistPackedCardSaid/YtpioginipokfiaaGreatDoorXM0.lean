/- Arguments: what is told of their literals. -/
import Derived.Test.YtpioginipokfiaaGreatDoorXL
import Derived.Deep.Strs
import Derived.ChangeSlices
set_option linter.unusedSimpArgs false
set_option linter.unusedVariables false
set_option maxRecDepth 100000
namespace Go.Proofs.YtpioginipokfiaaGreatDoor
open Go Go.Abs Go.ChangeShapes Go.WideShapes Go.RowKit
theorem u64_wf {n : Int} (h : (Lit.int .u64 n).wf = true) : 0 ≤ n ∧ n < 18446744073709551616 := by
 simp only [Lit.wf, Bool.and_eq_true, decide_eq_true_eq] at h
 have h1 : IntKind.u64.min = 0 := by decide
 have h2 : IntKind.u64.max = 18446744073709551615 := by decide
 rw [h1, h2] at h
 omega
