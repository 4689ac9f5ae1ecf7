/- The walks over lists of dependencies, on: Missing, Equivalent, Valid, Clone. -/
import Derived.Test.YtcfcmalaabmceaaDoorFd
namespace Go.Proofs.YtcfcmalaabmceaaDoor
open Go.RowKit







end Go.Proofs.YtcfcmalaabmceaaDoor
