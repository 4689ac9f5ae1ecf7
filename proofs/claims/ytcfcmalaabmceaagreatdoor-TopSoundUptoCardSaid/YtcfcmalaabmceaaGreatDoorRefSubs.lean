/- The walk of the reference's Subsets: all subsets of a set, in order. -/
import Derived.Test.YtcfcmalaabmceaaGreatDoorGWalk
import Derived.Test.YtcfcmalaabmceaaGreatDoorGPlain
namespace Go.Proofs.YtcfcmalaabmceaaGreatDoor
open Go.RowKit

/-! The next subset. -/


/-! The lists on the way. -/


end Go.Proofs.YtcfcmalaabmceaaGreatDoor
