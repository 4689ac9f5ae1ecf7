/- The walks over lists of dependencies, on: Missing, Equivalent, Valid, Clone. -/
import Derived.Test.YtalejolehccclaaGreatDoorFd
namespace Go.Proofs.YtalejolehccclaaGreatDoor
open Go.RowKit

end Go.Proofs.YtalejolehccclaaGreatDoor
