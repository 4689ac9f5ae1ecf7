/-
  DERIVED. GIVEN WITH THE SEED: THE CARDS: each row of YtdiafhbbmliefaaGreatDoorRows.lean that lists a variable, with what it lists TIED to the program's text (the seventh form; the later family's looks); each row that meets fmt, with fmt's text TOLD by the authors' own Lean function (tested against real Go, not proved from fmt's source: count such statements apart). THE CARD IS WHAT COUNTS. Prove the row's statement (the work); the ties are given (YtdiafhbbmliefaaGreatDoorTie.lean); close each card by the builder's one call (the guide's Derived/Test/ToyasCard.lean, 'card_holds'). Laid BY PROGRAM, IN A SANDBOX (cutbox-door.mjs). By AI agents, Wed Nov 11 2026. No macro, syntax, notation, axiom, sorry.
-/
import Derived.Test.YtdiafhbbmliefaaGreatDoorRows
import GoSem.ClaimSeven
namespace Go.Proofs.YtdiafhbbmliefaaGreatDoor
namespace Rows

/-- THE TIED CARD OF 'drosstop.TopMaintained'. -/
def topMaintainedCard : Claim7 := { stood := { row := topMaintainedRow, standIns := [], harness := (true, "158d494f1054ccc9ffd47ffea3ab76cd544fd34d27ae5ac375c20ea76fd83f6f"), looks := false }, kinds := [], alts := [], laidByText := true, laidKinds := [.data], laidTests := true, laidLooks := .later }
def TopMaintainedCardSaid : Prop := Claim7.holds Tryz.pinned (.plain (OpenSpec.ofChange topMaintainedSpec)) topMaintainedCard

/-- THE SECOND FORM's CARD OF 'drosstop.TopMaintained'. -/
def topMaintainedUptoCard : Claim7 := { stood := { row := topMaintainedUptoRow, standIns := [], harness := (true, "158d494f1054ccc9ffd47ffea3ab76cd544fd34d27ae5ac375c20ea76fd83f6f"), looks := false }, kinds := [], alts := [], laidByText := true, laidKinds := [.data], laidTests := true, laidLooks := .later }
def TopMaintainedUptoCardSaid : Prop := Claim7.holds Tryz.pinned (.plain (OpenSpec.upto topMaintainedSpec)) topMaintainedUptoCard
end Rows
end Go.Proofs.YtdiafhbbmliefaaGreatDoor
