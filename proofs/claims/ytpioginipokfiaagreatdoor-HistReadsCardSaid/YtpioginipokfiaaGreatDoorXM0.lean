/- Arguments: what is told of their literals. -/
import Derived.Test.YtpioginipokfiaaGreatDoorXL
import Derived.Deep.Strs
import Derived.ChangeSlices
set_option linter.unusedSimpArgs false
set_option linter.unusedVariables false
set_option maxRecDepth 100000
namespace Go.Proofs.YtpioginipokfiaaGreatDoor
open Go Go.Abs Go.ChangeShapes Go.WideShapes Go.RowKit
