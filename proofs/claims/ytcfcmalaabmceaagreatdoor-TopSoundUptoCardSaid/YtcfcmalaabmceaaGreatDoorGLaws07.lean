/- Texts that belong together, in one file. -/
import Derived.Test.YtcfcmalaabmceaaGreatDoorGSmall
/- The laws of chapter 7, over the contracts of what they call. -/
namespace Go.Proofs.YtcfcmalaabmceaaGreatDoor
open Go.RowKit





end Go.Proofs.YtcfcmalaabmceaaGreatDoor


/- More laws of chapter 7, over the contracts of what they call. -/
namespace Go.Proofs.YtcfcmalaabmceaaGreatDoor
open Go.RowKit

/-! Plain laws that these laws want. -/






end Go.Proofs.YtcfcmalaabmceaaGreatDoor

