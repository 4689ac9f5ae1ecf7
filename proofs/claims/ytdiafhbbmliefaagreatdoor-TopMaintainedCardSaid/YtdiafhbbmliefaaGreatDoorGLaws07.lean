/- Texts that belong together, in one file. -/
import Derived.Test.YtdiafhbbmliefaaGreatDoorGSmall
/- The laws of chapter 7, over the contracts of what they call. -/
namespace Go.Proofs.YtdiafhbbmliefaaGreatDoor
open Go.RowKit





end Go.Proofs.YtdiafhbbmliefaaGreatDoor


/- More laws of chapter 7, over the contracts of what they call. -/
namespace Go.Proofs.YtdiafhbbmliefaaGreatDoor
open Go.RowKit

/-! Plain laws that these laws want. -/






end Go.Proofs.YtdiafhbbmliefaaGreatDoor

