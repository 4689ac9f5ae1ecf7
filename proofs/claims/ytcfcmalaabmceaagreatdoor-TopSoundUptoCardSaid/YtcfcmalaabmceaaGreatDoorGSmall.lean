/- Texts that belong together, in one file. -/
import Derived.Test.YtcfcmalaabmceaaGreatDoorGWalk
import Derived.Test.YtcfcmalaabmceaaGreatDoorGSort
import Derived.Test.YtcfcmalaabmceaaGreatDoorGPlain
import Derived.Test.YtcfcmalaabmceaaGreatDoorGOrd
/- The walks of the two Minimal. -/
namespace Go.Proofs.YtcfcmalaabmceaaGreatDoor
open Go.RowKit



end Go.Proofs.YtcfcmalaabmceaaGreatDoor


/- The walk of transversal.All: edge by edge. -/
namespace Go.Proofs.YtcfcmalaabmceaaGreatDoor
open Go.RowKit




end Go.Proofs.YtcfcmalaabmceaaGreatDoor


/- The walks of the reference's layer 7: Valid, All, Reduce, Smallest, Witness. -/
namespace Go.Proofs.YtcfcmalaabmceaaGreatDoor
open Go.RowKit


/-- The edges with no other one in them. -/
def least (xs : List S) (e : S) : Bool := !xs.any (fun f => f != e && (f &&& ~~~ e == 0#32))


end Go.Proofs.YtcfcmalaabmceaaGreatDoor


/- The walks of the reference's All and Smallest, of Witness, and of the program's Smallest. -/
namespace Go.Proofs.YtcfcmalaabmceaaGreatDoor
open Go.RowKit




end Go.Proofs.YtcfcmalaabmceaaGreatDoor


/- The walks of the two Smallest, of Witness, of Dual, of few; All of both in one statement each. -/
namespace Go.Proofs.YtcfcmalaabmceaaGreatDoor
open Go.RowKit






end Go.Proofs.YtcfcmalaabmceaaGreatDoor


/- The walk of transversal.Dual, and of few. -/
namespace Go.Proofs.YtcfcmalaabmceaaGreatDoor
open Go.RowKit

theorem undSet : Tryz.prog.underlying 47 = some (.int .u32) := by kernel_rfl




end Go.Proofs.YtcfcmalaabmceaaGreatDoor


/- The walk of awake: the chapter's examples hold. -/
namespace Go.Proofs.YtcfcmalaabmceaaGreatDoor
open Go.RowKit






end Go.Proofs.YtcfcmalaabmceaaGreatDoor

