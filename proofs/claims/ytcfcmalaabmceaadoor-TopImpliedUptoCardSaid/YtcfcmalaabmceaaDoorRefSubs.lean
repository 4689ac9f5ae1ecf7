/- The walk of the reference's Subsets: all subsets of a set, in order. -/
import Derived.Test.YtcfcmalaabmceaaDoorGWalk
import Derived.Test.YtcfcmalaabmceaaDoorGPlain
namespace Go.Proofs.YtcfcmalaabmceaaDoor
open Go.RowKit

/-! The next subset. -/


/-! The lists on the way. -/


end Go.Proofs.YtcfcmalaabmceaaDoor
