/- 'append(out, ys...)' of a whole list onto a row of the call's own. No program. -/
import Derived.Test.YtcfcmalaabmceaaDoorCells
import Derived.RegionTactic
import Derived.Deep.RegionHeld3
namespace Go.Proofs.YtcfcmalaabmceaaDoor
open Go.RowKit

section
variable {α : Type} {c : α → List Value} {n : Nat}
end

end Go.Proofs.YtcfcmalaabmceaaDoor
