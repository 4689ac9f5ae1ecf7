/- The walk of the reference's Subsets: all subsets of a set, in order. -/
import Derived.Test.YtgahpgmagfngfaaGreatDoorGWalk
import Derived.Test.YtgahpgmagfngfaaGreatDoorGPlain
namespace Go.Proofs.YtgahpgmagfngfaaGreatDoor
open Go.RowKit

/-! The next subset. -/


/-! The lists on the way. -/


end Go.Proofs.YtgahpgmagfngfaaGreatDoor
