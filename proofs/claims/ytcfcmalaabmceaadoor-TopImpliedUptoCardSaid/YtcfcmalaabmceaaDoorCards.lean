/-
  DERIVED. GIVEN WITH THE SEED: THE CARDS: each row of YtcfcmalaabmceaaDoorRows.lean that lists a variable, with what it lists TIED to the program's text (the seventh form; the later family's looks); each row that meets fmt, with fmt's text TOLD by the authors' own Lean function (tested against real Go, not proved from fmt's source: count such statements apart). THE CARD IS WHAT COUNTS. Prove the row's statement (the work); the ties are given (YtcfcmalaabmceaaDoorTie.lean); close each card by the builder's one call (the guide's Derived/Test/ToyasCard.lean, 'card_holds'). Laid BY PROGRAM, IN A SANDBOX (cutbox-door.mjs). By AI agents, Wed Nov 11 2026. No macro, syntax, notation, axiom, sorry.
-/
import Derived.Test.YtcfcmalaabmceaaDoorRows
import GoSem.ClaimSeven
namespace Go.Proofs.YtcfcmalaabmceaaDoor
namespace Rows

/-- THE TIED CARD OF 'drosstop.TopImplied'. -/
def topImpliedCard : Claim7 := { stood := { row := topImpliedRow, standIns := [], harness := (true, "94c98d9024acfa2709cc381a6a8b3a71ea3aa966c4c4a6f5e70f3366900842fa"), looks := false }, kinds := [], alts := [], laidByText := true, laidKinds := [.data], laidTests := true, laidLooks := .later }
def TopImpliedCardSaid : Prop := Claim7.holds Tryd.pinned (.plain (OpenSpec.ofChange topImpliedSpec)) topImpliedCard

/-- THE SECOND FORM's CARD OF 'drosstop.TopImplied'. -/
def topImpliedUptoCard : Claim7 := { stood := { row := topImpliedUptoRow, standIns := [], harness := (true, "94c98d9024acfa2709cc381a6a8b3a71ea3aa966c4c4a6f5e70f3366900842fa"), looks := false }, kinds := [], alts := [], laidByText := true, laidKinds := [.data], laidTests := true, laidLooks := .later }
def TopImpliedUptoCardSaid : Prop := Claim7.holds Tryd.pinned (.plain (OpenSpec.upto topImpliedSpec)) topImpliedUptoCard
end Rows
end Go.Proofs.YtcfcmalaabmceaaDoor
