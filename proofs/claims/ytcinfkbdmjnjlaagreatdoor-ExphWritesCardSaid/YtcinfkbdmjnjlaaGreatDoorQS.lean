/- Exp: the reference tells if two are alike. -/
import Derived.Test.YtcinfkbdmjnjlaaGreatDoorES
import Derived.Test.YtcinfkbdmjnjlaaGreatDoorSD
import Derived.Test.YtcinfkbdmjnjlaaGreatDoorQW
set_option linter.unusedSimpArgs false
set_option linter.unusedVariables false
set_option maxRecDepth 100000
namespace Go.Proofs.YtcinfkbdmjnjlaaGreatDoor
open Go Go.Abs
variable (B : Fr)
end Go.Proofs.YtcinfkbdmjnjlaaGreatDoor
