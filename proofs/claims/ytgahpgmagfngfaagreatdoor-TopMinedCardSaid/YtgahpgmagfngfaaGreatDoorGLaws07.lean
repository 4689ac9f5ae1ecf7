/- Texts that belong together, in one file. -/
import Derived.Test.YtgahpgmagfngfaaGreatDoorGSmall
/- The laws of chapter 7, over the contracts of what they call. -/
namespace Go.Proofs.YtgahpgmagfngfaaGreatDoor
open Go.RowKit





end Go.Proofs.YtgahpgmagfngfaaGreatDoor


/- More laws of chapter 7, over the contracts of what they call. -/
namespace Go.Proofs.YtgahpgmagfngfaaGreatDoor
open Go.RowKit

/-! Plain laws that these laws want. -/






end Go.Proofs.YtgahpgmagfngfaaGreatDoor

