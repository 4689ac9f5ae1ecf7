/- More laws of chapter 7, over the contracts of what they call. -/
import Derived.Test.YtalejolehccclaaGreatDoorLaws07
namespace Go.Proofs.YtalejolehccclaaGreatDoor
open Go.RowKit

end Go.Proofs.YtalejolehccclaaGreatDoor
