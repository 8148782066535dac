/- Exemplar: the reference tells if two are alike. -/
import Derived.Test.YthogjpjcidfoaaaGreatDoorRS
import Derived.Test.YthogjpjcidfoaaaGreatDoorEW
set_option linter.unusedSimpArgs false
set_option linter.unusedVariables false
set_option maxRecDepth 100000
namespace Go.Proofs.YthogjpjcidfoaaaGreatDoor
open Go Go.Abs
variable (B : Fr)
end Go.Proofs.YthogjpjcidfoaaaGreatDoor
