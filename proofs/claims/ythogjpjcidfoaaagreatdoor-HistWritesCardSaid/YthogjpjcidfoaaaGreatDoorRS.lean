/- The reference: values and attributes, are they alike? -/
import Derived.Test.YthogjpjcidfoaaaGreatDoorPAB
set_option linter.unusedSimpArgs false
set_option linter.unusedVariables false
set_option maxRecDepth 100000
namespace Go.Proofs.YthogjpjcidfoaaaGreatDoor
open Go Go.Abs
variable (B : Fr)
end Go.Proofs.YthogjpjcidfoaaaGreatDoor
