/- Exemplar: read, with more behind; read, and called so. -/
import Derived.Test.YthogjpjcidfoaaaGreatDoorEW
import Derived.Test.YthogjpjcidfoaaaGreatDoorX29
import Derived.Test.YthogjpjcidfoaaaGreatDoorR5
set_option linter.unusedSimpArgs false
set_option linter.unusedVariables false
set_option maxRecDepth 100000
namespace Go.Proofs.YthogjpjcidfoaaaGreatDoor
open Go Go.Abs
variable (B : Fr)
def Em.setU (x : Em) (u : List UInt8) : Em := { x with u := u }
variable {s w t : List UInt8} {d : Int} {x y : Em}
end Go.Proofs.YthogjpjcidfoaaaGreatDoor
