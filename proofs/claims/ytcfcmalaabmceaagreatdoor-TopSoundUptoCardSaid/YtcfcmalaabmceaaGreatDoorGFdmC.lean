/- Texts that belong together, in one file. -/
import Derived.Test.YtcfcmalaabmceaaGreatDoorGFdmA
import Derived.Test.YtcfcmalaabmceaaGreatDoorGFdmB
import Derived.Test.YtcfcmalaabmceaaGreatDoorGKm3
import Derived.Test.YtcfcmalaabmceaaGreatDoorRefSubs
import Derived.Test.YtcfcmalaabmceaaGreatDoorGMid
import Derived.Test.YtcfcmalaabmceaaGreatDoorGKm2
/- Plain laws: the order of dependencies, insertion, and the order of all the minimal dependencies. No program of its own. -/
namespace Go.Proofs.YtcfcmalaabmceaaGreatDoor
open Go.RowKit
set_option linter.unusedVariables false

/-- A dependency comes before another one. -/
def befF (x y : F) : Prop := bef x.1 y.1 ∨ (x.1 = y.1 ∧ iv x.2 < iv y.2)
instance (x y : F) : Decidable (befF x y) := by unfold befF; exact inferInstance

end Go.Proofs.YtcfcmalaabmceaaGreatDoor


/- Plain laws of mined dependencies: left sides are transversals, evidence, certificates, what follows. No program of its own. -/
namespace Go.Proofs.YtcfcmalaabmceaaGreatDoor
open Go.RowKit
set_option linter.unusedVariables false


end Go.Proofs.YtcfcmalaabmceaaGreatDoor


/- The walks of the reference: drossref28.Error, Few, drossref08.Satisfies, drossref28.determines. -/
namespace Go.Proofs.YtcfcmalaabmceaaGreatDoor
open Go.RowKit
set_option linter.unusedVariables false


end Go.Proofs.YtcfcmalaabmceaaGreatDoor


/- The walks of drossref08.Satisfies, drossref28.determines. -/
namespace Go.Proofs.YtcfcmalaabmceaaGreatDoor
open Go.RowKit
set_option linter.unusedVariables false


attribute [local irreducible] Go.wpQuiet


end Go.Proofs.YtcfcmalaabmceaaGreatDoor


/- The walk of drossref28.For. -/
namespace Go.Proofs.YtcfcmalaabmceaaGreatDoor
open Go.RowKit
set_option linter.unusedVariables false


attribute [local irreducible] Go.wpQuiet

end Go.Proofs.YtcfcmalaabmceaaGreatDoor


/- The walks of drossref28.before and Sorted. -/
namespace Go.Proofs.YtcfcmalaabmceaaGreatDoor
open Go.RowKit
set_option linter.unusedVariables false




end Go.Proofs.YtcfcmalaabmceaaGreatDoor


/- The walks of drossref28.All and Bounded. -/
namespace Go.Proofs.YtcfcmalaabmceaaGreatDoor
open Go.RowKit
set_option linter.unusedVariables false





end Go.Proofs.YtcfcmalaabmceaaGreatDoor


/- The walks of drossref28.witness and first. -/
namespace Go.Proofs.YtcfcmalaabmceaaGreatDoor
open Go.RowKit
set_option linter.unusedVariables false

attribute [local irreducible] Go.wpQuiet


end Go.Proofs.YtcfcmalaabmceaaGreatDoor


/- The walk of drossref28.Evidence. -/
namespace Go.Proofs.YtcfcmalaabmceaaGreatDoor
open Go.RowKit
set_option linter.unusedVariables false



end Go.Proofs.YtcfcmalaabmceaaGreatDoor


/- The walks of Same over witnesses and over dependencies, and of Few. -/
namespace Go.Proofs.YtcfcmalaabmceaaGreatDoor
open Go.RowKit
set_option linter.unusedVariables false




end Go.Proofs.YtcfcmalaabmceaaGreatDoor

