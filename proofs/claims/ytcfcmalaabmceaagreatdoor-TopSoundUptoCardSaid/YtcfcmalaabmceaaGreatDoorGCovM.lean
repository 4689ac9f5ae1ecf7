/- Texts that belong together, in one file. -/
import Derived.Test.YtcfcmalaabmceaaGreatDoorGSort
import Derived.Test.YtcfcmalaabmceaaGreatDoorGPlain
import Derived.Test.YtcfcmalaabmceaaGreatDoorGMid
import Derived.Test.YtcfcmalaabmceaaGreatDoorGOrd
/- Plain laws of the merged list: one dependency for each left side, in order. -/
namespace Go.Proofs.YtcfcmalaabmceaaGreatDoor


end Go.Proofs.YtcfcmalaabmceaaGreatDoor


/- The walk of cover's Merge. -/
namespace Go.Proofs.YtcfcmalaabmceaaGreatDoor
open Go.RowKit

/-- Elements that are sets. -/
def setElems (P : Program) (e : TypeId) (he : P.underlying e = some (.int .u32)) : Elems P e S where
  el := enc
  dl x := .lit (.int .u32 (iv x))
  to x := plainElem_int he (wf_iv x)
  inv v x ps h := by
    obtain ⟨a, rfl, hz, _⟩ := plainElem_int_inv he h
    simp at hz
    rw [enc_eq, hz.1]
theorem undSet : Tryz.prog.underlying 47 = some (.int .u32) := by kernel_rfl
abbrev OwnS := OwnM (setElems Tryz.prog 47 undSet) 0#32 47



end Go.Proofs.YtcfcmalaabmceaaGreatDoor


/- The walks of cover's Minimal, Canonical, Redundant, Extraneous and IsMinimal. -/
namespace Go.Proofs.YtcfcmalaabmceaaGreatDoor
open Go.RowKit







end Go.Proofs.YtcfcmalaabmceaaGreatDoor


/- The walk of cover's IsMinimal. -/
namespace Go.Proofs.YtcfcmalaabmceaaGreatDoor
open Go.RowKit



end Go.Proofs.YtcfcmalaabmceaaGreatDoor


/- The walks of the reference of chapter 10. -/
namespace Go.Proofs.YtcfcmalaabmceaaGreatDoor
open Go.RowKit





end Go.Proofs.YtcfcmalaabmceaaGreatDoor

namespace Go.Proofs.YtcfcmalaabmceaaGreatDoor
open Go.RowKit Go.Shelf





end Go.Proofs.YtcfcmalaabmceaaGreatDoor

namespace Go.Proofs.YtcfcmalaabmceaaGreatDoor
open Go.RowKit




end Go.Proofs.YtcfcmalaabmceaaGreatDoor

namespace Go.Proofs.YtcfcmalaabmceaaGreatDoor
open Go.RowKit




end Go.Proofs.YtcfcmalaabmceaaGreatDoor

namespace Go.Proofs.YtcfcmalaabmceaaGreatDoor
open Go.RowKit

attribute [local irreducible] Go.wpQuiet

end Go.Proofs.YtcfcmalaabmceaaGreatDoor

namespace Go.Proofs.YtcfcmalaabmceaaGreatDoor
open Go.RowKit




end Go.Proofs.YtcfcmalaabmceaaGreatDoor

