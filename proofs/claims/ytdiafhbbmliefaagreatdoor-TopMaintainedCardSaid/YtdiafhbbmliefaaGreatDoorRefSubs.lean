/- The walk of the reference's Subsets: all subsets of a set, in order. -/
import Derived.Test.YtdiafhbbmliefaaGreatDoorGWalk
import Derived.Test.YtdiafhbbmliefaaGreatDoorGPlain
namespace Go.Proofs.YtdiafhbbmliefaaGreatDoor
open Go.RowKit

/-! The next subset. -/


/-! The lists on the way. -/


end Go.Proofs.YtdiafhbbmliefaaGreatDoor
