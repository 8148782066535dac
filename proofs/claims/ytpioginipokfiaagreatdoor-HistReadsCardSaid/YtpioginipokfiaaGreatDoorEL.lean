/- Exemplar: read, with more behind; read, and called so. -/
import Derived.Test.YtpioginipokfiaaGreatDoorEW
set_option linter.unusedSimpArgs false
set_option linter.unusedVariables false
set_option maxRecDepth 100000
namespace Go.Proofs.YtpioginipokfiaaGreatDoor
open Go Go.Abs
variable (B : Fr)
def Em.setU (x : Em) (u : List UInt8) : Em := { x with u := u }
variable {s w t : List UInt8} {d : Int} {x y : Em}
