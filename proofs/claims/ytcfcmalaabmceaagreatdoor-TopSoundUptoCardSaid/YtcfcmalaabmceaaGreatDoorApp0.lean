/- 'append(out, ys...)' of a whole list onto a row of the call's own. No program. -/
import Derived.Test.YtcfcmalaabmceaaGreatDoorCells
import Derived.RegionTactic
import Derived.Deep.RegionHeld3
namespace Go.Proofs.YtcfcmalaabmceaaGreatDoor
open Go.RowKit

section
variable {α : Type} {c : α → List Value} {n : Nat}
end

end Go.Proofs.YtcfcmalaabmceaaGreatDoor
