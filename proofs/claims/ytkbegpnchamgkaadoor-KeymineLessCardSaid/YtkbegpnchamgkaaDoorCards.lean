/-
  DERIVED. GIVEN WITH THE SEED: THE CARDS: each row of YtkbegpnchamgkaaDoorRows.lean that lists a variable, with what it lists TIED to the program's text (the seventh form; the later family's looks); each row that meets fmt, with fmt's text TOLD by the authors' own Lean function (tested against real Go, not proved from fmt's source: count such statements apart). THE CARD IS WHAT COUNTS. Prove the row's statement (the work); the ties are given (YtkbegpnchamgkaaDoorTie.lean); close each card by the builder's one call (the guide's Derived/Test/ToyasCard.lean, 'card_holds'). Laid BY PROGRAM, IN A SANDBOX (cutbox-door.mjs). By AI agents, Wed Nov 11 2026. No macro, syntax, notation, axiom, sorry.
-/
import Derived.Test.YtkbegpnchamgkaaDoorRows
import GoSem.ClaimSeven
namespace Go.Proofs.YtkbegpnchamgkaaDoor
namespace Rows

/-- THE TIED CARD OF 'drosslaw29.KeymineCovers'. -/
def keymineCoversCard : Claim7 := { stood := { row := keymineCoversRow, standIns := [], harness := (true, "362a2c1c563d5e7b3569d7b31a94728a70e73fde5838cfeb7ebbbe7d592f7798"), looks := false }, kinds := [], alts := [], laidByText := true, laidKinds := [.data], laidTests := true, laidLooks := .later }
def KeymineCoversCardSaid : Prop := Claim7.holds Tryd.pinned (.plain (OpenSpec.ofChange keymineCoversSpec)) keymineCoversCard

/-- THE TIED CARD OF 'drosslaw29.KeymineLess'. -/
def keymineLessCard : Claim7 := { stood := { row := keymineLessRow, standIns := [], harness := (true, "362a2c1c563d5e7b3569d7b31a94728a70e73fde5838cfeb7ebbbe7d592f7798"), looks := false }, kinds := [], alts := [], laidByText := true, laidKinds := [.data], laidTests := true, laidLooks := .later }
def KeymineLessCardSaid : Prop := Claim7.holds Tryd.pinned (.plain (OpenSpec.ofChange keymineLessSpec)) keymineLessCard

/-- THE TIED CARD OF 'drosslaw29.KeymineErrors'. -/
def keymineErrorsCard : Claim7 := { stood := { row := keymineErrorsRow, standIns := [], harness := (true, "362a2c1c563d5e7b3569d7b31a94728a70e73fde5838cfeb7ebbbe7d592f7798"), looks := false }, kinds := [], alts := [], laidByText := true, laidKinds := [.data], laidTests := true, laidLooks := .later }
def KeymineErrorsCardSaid : Prop := Claim7.holds Tryd.pinned (.plain (OpenSpec.ofChange keymineErrorsSpec)) keymineErrorsCard

/-- THE SECOND FORM's CARD OF 'drosslaw29.KeymineCovers'. -/
def keymineCoversUptoCard : Claim7 := { stood := { row := keymineCoversUptoRow, standIns := [], harness := (true, "362a2c1c563d5e7b3569d7b31a94728a70e73fde5838cfeb7ebbbe7d592f7798"), looks := false }, kinds := [], alts := [], laidByText := true, laidKinds := [.data], laidTests := true, laidLooks := .later }
def KeymineCoversUptoCardSaid : Prop := Claim7.holds Tryd.pinned (.plain (OpenSpec.upto keymineCoversSpec)) keymineCoversUptoCard

/-- THE SECOND FORM's CARD OF 'drosslaw29.KeymineLess'. -/
def keymineLessUptoCard : Claim7 := { stood := { row := keymineLessUptoRow, standIns := [], harness := (true, "362a2c1c563d5e7b3569d7b31a94728a70e73fde5838cfeb7ebbbe7d592f7798"), looks := false }, kinds := [], alts := [], laidByText := true, laidKinds := [.data], laidTests := true, laidLooks := .later }
def KeymineLessUptoCardSaid : Prop := Claim7.holds Tryd.pinned (.plain (OpenSpec.upto keymineLessSpec)) keymineLessUptoCard

/-- THE SECOND FORM's CARD OF 'drosslaw29.KeymineErrors'. -/
def keymineErrorsUptoCard : Claim7 := { stood := { row := keymineErrorsUptoRow, standIns := [], harness := (true, "362a2c1c563d5e7b3569d7b31a94728a70e73fde5838cfeb7ebbbe7d592f7798"), looks := false }, kinds := [], alts := [], laidByText := true, laidKinds := [.data], laidTests := true, laidLooks := .later }
def KeymineErrorsUptoCardSaid : Prop := Claim7.holds Tryd.pinned (.plain (OpenSpec.upto keymineErrorsSpec)) keymineErrorsUptoCard
end Rows
end Go.Proofs.YtkbegpnchamgkaaDoor
