/- The laws of chapter 7, over the contracts of what they call. -/
import Derived.Test.YtalejolehccclaaGreatDoorGSmall
namespace Go.Proofs.YtalejolehccclaaGreatDoor
open Go.RowKit

end Go.Proofs.YtalejolehccclaaGreatDoor
