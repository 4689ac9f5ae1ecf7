/- More laws of chapter 7, over the contracts of what they call. -/
import Derived.Test.YtcfcmalaabmceaaDoorLaws07
namespace Go.Proofs.YtcfcmalaabmceaaDoor
open Go.RowKit

/-! Plain laws that these laws want. -/






end Go.Proofs.YtcfcmalaabmceaaDoor
