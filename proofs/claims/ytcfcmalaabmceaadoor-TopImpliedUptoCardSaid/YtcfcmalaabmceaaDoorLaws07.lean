/- The laws of chapter 7, over the contracts of what they call. -/
import Derived.Test.YtcfcmalaabmceaaDoorGSmall
namespace Go.Proofs.YtcfcmalaabmceaaDoor
open Go.RowKit





end Go.Proofs.YtcfcmalaabmceaaDoor
