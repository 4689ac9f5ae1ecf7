/- The walk of the reference's Subsets: all subsets of a set, in order. -/
import Derived.Test.YtalejolehccclaaGreatDoorGWalk
import Derived.Test.YtalejolehccclaaGreatDoorGPlain
namespace Go.Proofs.YtalejolehccclaaGreatDoor
open Go.RowKit

end Go.Proofs.YtalejolehccclaaGreatDoor
