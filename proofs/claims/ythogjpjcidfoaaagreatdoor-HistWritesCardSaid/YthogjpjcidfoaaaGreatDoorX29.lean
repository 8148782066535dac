/- Buckets read: as they are told by their records. -/
import Derived.Test.YthogjpjcidfoaaaGreatDoorXG4
import Derived.Test.YthogjpjcidfoaaaGreatDoorPG
set_option linter.unusedSimpArgs false
set_option linter.unusedVariables false
set_option maxRecDepth 100000
namespace Go.Proofs.YthogjpjcidfoaaaGreatDoor
open Go Go.Abs
variable (B : Fr)
end Go.Proofs.YthogjpjcidfoaaaGreatDoor
