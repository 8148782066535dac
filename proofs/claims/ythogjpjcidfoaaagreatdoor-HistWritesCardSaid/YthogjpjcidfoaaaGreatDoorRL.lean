/- The reference: values read, and their lists. -/
import Derived.Test.YthogjpjcidfoaaaGreatDoorRK
import Derived.Test.YthogjpjcidfoaaaGreatDoorRS

set_option linter.unusedSimpArgs false
set_option linter.unusedVariables false
set_option maxRecDepth 100000
namespace Go.Proofs.YthogjpjcidfoaaaGreatDoor
open Go Go.Abs
variable (B : Fr)
/-! A value, record by record. -/
end Go.Proofs.YthogjpjcidfoaaaGreatDoor
