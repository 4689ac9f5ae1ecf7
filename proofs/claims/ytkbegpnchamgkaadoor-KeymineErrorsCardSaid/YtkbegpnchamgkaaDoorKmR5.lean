/- The walk of the reference of chapter 29: Right. -/
import Derived.Test.YtkbegpnchamgkaaDoorGKm3
import Derived.Test.YtkbegpnchamgkaaDoorGSort
import Derived.Test.YtkbegpnchamgkaaDoorGKm2
namespace Go.Proofs.YtkbegpnchamgkaaDoor
open Go.RowKit
set_option linter.unusedVariables false

attribute [local irreducible] Go.wpQuiet

end Go.Proofs.YtkbegpnchamgkaaDoor
