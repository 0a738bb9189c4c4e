/- Proved here, for the statement TopFairCardSaid: laws that its walk leans on. It holds with no condition. (Put together and shortened by a program out of many texts: FieldMath2.) -/
import Derived.Test.YtbeaoddjomdlcaaGreatDoorZ02
set_option linter.unusedVariables false
set_option linter.unusedSimpArgs false
set_option maxRecDepth 100000
set_option maxHeartbeats 64000000
namespace Go.Proofs.YtbeaoddjomdlcaaGreatDoor.FieldM
open Go.Lib
def first (x : Int) : Nat := if 0 ≤ x then wid x.natAbs else wid x.natAbs + 16
end Go.Proofs.YtbeaoddjomdlcaaGreatDoor.FieldM
