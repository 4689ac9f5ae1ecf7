/- Texts that belong together, in one file. -/
import Derived.Test.YtcfcmalaabmceaaDoorGSort
import Derived.Test.YtcfcmalaabmceaaDoorGPlain
import Derived.Test.YtcfcmalaabmceaaDoorGMid
import Derived.Test.YtcfcmalaabmceaaDoorGOrd
/- Plain laws of the merged list: one dependency for each left side, in order. -/
namespace Go.Proofs.YtcfcmalaabmceaaDoor


end Go.Proofs.YtcfcmalaabmceaaDoor


/- The walk of cover's Merge. -/
namespace Go.Proofs.YtcfcmalaabmceaaDoor
open Go.RowKit

/-- Elements that are sets. -/
def setElems (P : Program) (e : TypeId) (he : P.underlying e = some (.int .u32)) : Elems P e S where
  el := enc
  dl x := .lit (.int .u32 (iv x))
  to x := plainElem_int he (wf_iv x)
  inv v x ps h := by
    obtain ⟨a, rfl, hz, _⟩ := plainElem_int_inv he h
    simp at hz
    rw [enc_eq, hz.1]
theorem undSet : Tryd.prog.underlying 32 = some (.int .u32) := by kernel_rfl
abbrev OwnS := OwnM (setElems Tryd.prog 32 undSet) 0#32 32



end Go.Proofs.YtcfcmalaabmceaaDoor


/- The walks of cover's Minimal, Canonical, Redundant, Extraneous and IsMinimal. -/
namespace Go.Proofs.YtcfcmalaabmceaaDoor
open Go.RowKit







end Go.Proofs.YtcfcmalaabmceaaDoor


/- The walk of cover's IsMinimal. -/
namespace Go.Proofs.YtcfcmalaabmceaaDoor
open Go.RowKit



end Go.Proofs.YtcfcmalaabmceaaDoor


/- The walks of the reference of chapter 10. -/
namespace Go.Proofs.YtcfcmalaabmceaaDoor
open Go.RowKit





end Go.Proofs.YtcfcmalaabmceaaDoor

namespace Go.Proofs.YtcfcmalaabmceaaDoor
open Go.RowKit Go.Shelf





end Go.Proofs.YtcfcmalaabmceaaDoor

namespace Go.Proofs.YtcfcmalaabmceaaDoor
open Go.RowKit




end Go.Proofs.YtcfcmalaabmceaaDoor

namespace Go.Proofs.YtcfcmalaabmceaaDoor
open Go.RowKit




end Go.Proofs.YtcfcmalaabmceaaDoor

namespace Go.Proofs.YtcfcmalaabmceaaDoor
open Go.RowKit

attribute [local irreducible] Go.wpQuiet

end Go.Proofs.YtcfcmalaabmceaaDoor

namespace Go.Proofs.YtcfcmalaabmceaaDoor
open Go.RowKit




end Go.Proofs.YtcfcmalaabmceaaDoor

