/-
  DERIVED. GIVEN WITH THE SEED: THE CARDS: each row of YtgahpgmagfngfaaGreatDoorRows.lean that lists a variable, with what it lists TIED to the program's text (the seventh form; the later family's looks); each row that meets fmt, with fmt's text TOLD by the authors' own Lean function (tested against real Go, not proved from fmt's source: count such statements apart). THE CARD IS WHAT COUNTS. Prove the row's statement (the work); the ties are given (YtgahpgmagfngfaaGreatDoorTie.lean); close each card by the builder's one call (the guide's Derived/Test/ToyasCard.lean, 'card_holds'). Laid BY PROGRAM, IN A SANDBOX (cutbox-door.mjs). By AI agents, Wed Nov 11 2026. No macro, syntax, notation, axiom, sorry.
-/
import Derived.Test.YtgahpgmagfngfaaGreatDoorRows
import GoSem.ClaimSeven
namespace Go.Proofs.YtgahpgmagfngfaaGreatDoor
namespace Rows

/-- THE TIED CARD OF 'drosstop.TopMined'. -/
def topMinedCard : Claim7 := { stood := { row := topMinedRow, standIns := [], harness := (true, "2057521bf50b7186b052b7e24eb032292acd8695a4be6e5db515570153450ade"), looks := false }, kinds := [], alts := [], laidByText := true, laidKinds := [.data, .data, .data], laidTests := true, laidLooks := .later }
def TopMinedCardSaid : Prop := Claim7.holds Tryz.pinned (.plain (OpenSpec.ofChange topMinedSpec)) topMinedCard

/-- THE SECOND FORM's CARD OF 'drosstop.TopMined'. -/
def topMinedUptoCard : Claim7 := { stood := { row := topMinedUptoRow, standIns := [], harness := (true, "2057521bf50b7186b052b7e24eb032292acd8695a4be6e5db515570153450ade"), looks := false }, kinds := [], alts := [], laidByText := true, laidKinds := [.data, .data, .data], laidTests := true, laidLooks := .later }
def TopMinedUptoCardSaid : Prop := Claim7.holds Tryz.pinned (.plain (OpenSpec.upto topMinedSpec)) topMinedUptoCard
end Rows
end Go.Proofs.YtgahpgmagfngfaaGreatDoor
