/- Buckets read: as they are told by their records. -/
import Derived.Test.YtpioginipokfiaaGreatDoorXG4
import Derived.Test.YtpioginipokfiaaGreatDoorPG
set_option linter.unusedSimpArgs false
set_option linter.unusedVariables false
set_option maxRecDepth 100000
namespace Go.Proofs.YtpioginipokfiaaGreatDoor
open Go Go.Abs
variable (B : Fr)
