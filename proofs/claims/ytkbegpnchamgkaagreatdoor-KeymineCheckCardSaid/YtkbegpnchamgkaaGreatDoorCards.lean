/-
  DERIVED. GIVEN WITH THE SEED: THE CARDS: each row of YtkbegpnchamgkaaGreatDoorRows.lean that lists a variable, with what it lists TIED to the program's text (the seventh form; the later family's looks); each row that meets fmt, with fmt's text TOLD by the authors' own Lean function (tested against real Go, not proved from fmt's source: count such statements apart). THE CARD IS WHAT COUNTS. Prove the row's statement (the work); the ties are given (YtkbegpnchamgkaaGreatDoorTie.lean); close each card by the builder's one call (the guide's Derived/Test/ToyasCard.lean, 'card_holds'). Laid BY PROGRAM, IN A SANDBOX (cutbox-door.mjs). By AI agents, Wed Nov 11 2026. No macro, syntax, notation, axiom, sorry.
-/
import Derived.Test.YtkbegpnchamgkaaGreatDoorRows
import GoSem.ClaimSeven
namespace Go.Proofs.YtkbegpnchamgkaaGreatDoor
namespace Rows

/-- THE TIED CARD OF 'drosslaw29.KeymineUnique'. -/
def keymineUniqueCard : Claim7 := { stood := { row := keymineUniqueRow, standIns := [], harness := (true, "b84ef4e08be5d05bef6ef0c44e8254f428c5944108c7cf1fdf477b3d215ced0b"), looks := false }, kinds := [], alts := [], laidByText := true, laidKinds := [.data], laidTests := true, laidLooks := .later }
def KeymineUniqueCardSaid : Prop := Claim7.holds Tryz.pinned (.plain (OpenSpec.ofChange keymineUniqueSpec)) keymineUniqueCard

/-- THE TIED CARD OF 'drosslaw29.KeymineAll'. -/
def keymineAllCard : Claim7 := { stood := { row := keymineAllRow, standIns := [], harness := (true, "b84ef4e08be5d05bef6ef0c44e8254f428c5944108c7cf1fdf477b3d215ced0b"), looks := false }, kinds := [], alts := [], laidByText := true, laidKinds := [.data], laidTests := true, laidLooks := .later }
def KeymineAllCardSaid : Prop := Claim7.holds Tryz.pinned (.plain (OpenSpec.ofChange keymineAllSpec)) keymineAllCard

/-- THE TIED CARD OF 'drosslaw29.KeymineCheck'. -/
def keymineCheckCard : Claim7 := { stood := { row := keymineCheckRow, standIns := [], harness := (true, "b84ef4e08be5d05bef6ef0c44e8254f428c5944108c7cf1fdf477b3d215ced0b"), looks := false }, kinds := [], alts := [], laidByText := true, laidKinds := [.data], laidTests := true, laidLooks := .later }
def KeymineCheckCardSaid : Prop := Claim7.holds Tryz.pinned (.plain (OpenSpec.ofChange keymineCheckSpec)) keymineCheckCard

/-- THE TIED CARD OF 'drosslaw29.KeymineBest'. -/
def keymineBestCard : Claim7 := { stood := { row := keymineBestRow, standIns := [], harness := (true, "b84ef4e08be5d05bef6ef0c44e8254f428c5944108c7cf1fdf477b3d215ced0b"), looks := false }, kinds := [], alts := [], laidByText := true, laidKinds := [.data], laidTests := true, laidLooks := .later }
def KeymineBestCardSaid : Prop := Claim7.holds Tryz.pinned (.plain (OpenSpec.ofChange keymineBestSpec)) keymineBestCard

/-- THE SECOND FORM's CARD OF 'drosslaw29.KeymineUnique'. -/
def keymineUniqueUptoCard : Claim7 := { stood := { row := keymineUniqueUptoRow, standIns := [], harness := (true, "b84ef4e08be5d05bef6ef0c44e8254f428c5944108c7cf1fdf477b3d215ced0b"), looks := false }, kinds := [], alts := [], laidByText := true, laidKinds := [.data], laidTests := true, laidLooks := .later }
def KeymineUniqueUptoCardSaid : Prop := Claim7.holds Tryz.pinned (.plain (OpenSpec.upto keymineUniqueSpec)) keymineUniqueUptoCard

/-- THE SECOND FORM's CARD OF 'drosslaw29.KeymineAll'. -/
def keymineAllUptoCard : Claim7 := { stood := { row := keymineAllUptoRow, standIns := [], harness := (true, "b84ef4e08be5d05bef6ef0c44e8254f428c5944108c7cf1fdf477b3d215ced0b"), looks := false }, kinds := [], alts := [], laidByText := true, laidKinds := [.data], laidTests := true, laidLooks := .later }
def KeymineAllUptoCardSaid : Prop := Claim7.holds Tryz.pinned (.plain (OpenSpec.upto keymineAllSpec)) keymineAllUptoCard

/-- THE SECOND FORM's CARD OF 'drosslaw29.KeymineCheck'. -/
def keymineCheckUptoCard : Claim7 := { stood := { row := keymineCheckUptoRow, standIns := [], harness := (true, "b84ef4e08be5d05bef6ef0c44e8254f428c5944108c7cf1fdf477b3d215ced0b"), looks := false }, kinds := [], alts := [], laidByText := true, laidKinds := [.data], laidTests := true, laidLooks := .later }
def KeymineCheckUptoCardSaid : Prop := Claim7.holds Tryz.pinned (.plain (OpenSpec.upto keymineCheckSpec)) keymineCheckUptoCard

/-- THE SECOND FORM's CARD OF 'drosslaw29.KeymineBest'. -/
def keymineBestUptoCard : Claim7 := { stood := { row := keymineBestUptoRow, standIns := [], harness := (true, "b84ef4e08be5d05bef6ef0c44e8254f428c5944108c7cf1fdf477b3d215ced0b"), looks := false }, kinds := [], alts := [], laidByText := true, laidKinds := [.data], laidTests := true, laidLooks := .later }
def KeymineBestUptoCardSaid : Prop := Claim7.holds Tryz.pinned (.plain (OpenSpec.upto keymineBestSpec)) keymineBestUptoCard
end Rows
end Go.Proofs.YtkbegpnchamgkaaGreatDoor
