/- The reference: values read, and their lists. -/
import Derived.Test.YtcinfkbdmjnjlaaGreatDoorRK
import Derived.Test.YtcinfkbdmjnjlaaGreatDoorRS

set_option linter.unusedSimpArgs false
set_option linter.unusedVariables false
set_option maxRecDepth 100000
namespace Go.Proofs.YtcinfkbdmjnjlaaGreatDoor
open Go Go.Abs
variable (B : Fr)
/-! A value, record by record. -/
end Go.Proofs.YtcinfkbdmjnjlaaGreatDoor
