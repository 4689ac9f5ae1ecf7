/-
  DERIVED. GIVEN WITH THE SEED: THE CARDS: each row of YtciamnkalmihcaaDoorRows.lean that lists a variable, with what it lists TIED to the program's text (the seventh form; the later family's looks); each row that meets fmt, with fmt's text TOLD by the authors' own Lean function (tested against real Go, not proved from fmt's source: count such statements apart). THE CARD IS WHAT COUNTS. Prove the row's statement (the work); the ties are given (YtciamnkalmihcaaDoorTie.lean); close each card by the builder's one call (the guide's Derived/Test/ToyasCard.lean, 'card_holds'). Laid BY PROGRAM, IN A SANDBOX (cutbox-door.mjs). By AI agents, Wed Nov 11 2026. No macro, syntax, notation, axiom, sorry.
-/
import Derived.Test.YtciamnkalmihcaaDoorRows
import GoSem.ClaimSeven
namespace Go.Proofs.YtciamnkalmihcaaDoor
namespace Rows

/-- THE TIED CARD OF 'drosslaw22.PreserveProject'. -/
def preserveProjectCard : Claim7 := { stood := { row := preserveProjectRow, standIns := [], harness := (true, "750c360aec7eb0b158698c2bc32973d42635e14007491876852754cc4e71e0e9"), looks := false }, kinds := [], alts := [], laidByText := true, laidKinds := [.data], laidTests := true, laidLooks := .later }
def PreserveProjectCardSaid : Prop := Claim7.holds Tryd.pinned (.plain (OpenSpec.ofChange preserveProjectSpec)) preserveProjectCard

/-- THE TIED CARD OF 'drosslaw22.PreserveWithin'. -/
def preserveWithinCard : Claim7 := { stood := { row := preserveWithinRow, standIns := [], harness := (true, "750c360aec7eb0b158698c2bc32973d42635e14007491876852754cc4e71e0e9"), looks := false }, kinds := [], alts := [], laidByText := true, laidKinds := [.data], laidTests := true, laidLooks := .later }
def PreserveWithinCardSaid : Prop := Claim7.holds Tryd.pinned (.plain (OpenSpec.ofChange preserveWithinSpec)) preserveWithinCard

/-- THE TIED CARD OF 'drosslaw22.PreserveKept'. -/
def preserveKeptCard : Claim7 := { stood := { row := preserveKeptRow, standIns := [], harness := (true, "750c360aec7eb0b158698c2bc32973d42635e14007491876852754cc4e71e0e9"), looks := false }, kinds := [], alts := [], laidByText := true, laidKinds := [.data], laidTests := true, laidLooks := .later }
def PreserveKeptCardSaid : Prop := Claim7.holds Tryd.pinned (.plain (OpenSpec.ofChange preserveKeptSpec)) preserveKeptCard

/-- THE TIED CARD OF 'drosslaw22.PreserveLost'. -/
def preserveLostCard : Claim7 := { stood := { row := preserveLostRow, standIns := [], harness := (true, "750c360aec7eb0b158698c2bc32973d42635e14007491876852754cc4e71e0e9"), looks := false }, kinds := [], alts := [], laidByText := true, laidKinds := [.data], laidTests := true, laidLooks := .later }
def PreserveLostCardSaid : Prop := Claim7.holds Tryd.pinned (.plain (OpenSpec.ofChange preserveLostSpec)) preserveLostCard

/-- THE TIED CARD OF 'drosslaw22.PreserveUnion'. -/
def preserveUnionCard : Claim7 := { stood := { row := preserveUnionRow, standIns := [], harness := (true, "750c360aec7eb0b158698c2bc32973d42635e14007491876852754cc4e71e0e9"), looks := false }, kinds := [], alts := [], laidByText := true, laidKinds := [.data], laidTests := true, laidLooks := .later }
def PreserveUnionCardSaid : Prop := Claim7.holds Tryd.pinned (.plain (OpenSpec.ofChange preserveUnionSpec)) preserveUnionCard

/-- THE TIED CARD OF 'drosslaw22.PreserveMore'. -/
def preserveMoreCard : Claim7 := { stood := { row := preserveMoreRow, standIns := [], harness := (true, "750c360aec7eb0b158698c2bc32973d42635e14007491876852754cc4e71e0e9"), looks := false }, kinds := [], alts := [], laidByText := true, laidKinds := [.data], laidTests := true, laidLooks := .later }
def PreserveMoreCardSaid : Prop := Claim7.holds Tryd.pinned (.plain (OpenSpec.ofChange preserveMoreSpec)) preserveMoreCard

/-- THE TIED CARD OF 'drosslaw22.PreserveTraced'. -/
def preserveTracedCard : Claim7 := { stood := { row := preserveTracedRow, standIns := [], harness := (true, "750c360aec7eb0b158698c2bc32973d42635e14007491876852754cc4e71e0e9"), looks := false }, kinds := [], alts := [], laidByText := true, laidKinds := [.data], laidTests := true, laidLooks := .later }
def PreserveTracedCardSaid : Prop := Claim7.holds Tryd.pinned (.plain (OpenSpec.ofChange preserveTracedSpec)) preserveTracedCard

/-- THE SECOND FORM's CARD OF 'drosslaw22.PreserveProject'. -/
def preserveProjectUptoCard : Claim7 := { stood := { row := preserveProjectUptoRow, standIns := [], harness := (true, "750c360aec7eb0b158698c2bc32973d42635e14007491876852754cc4e71e0e9"), looks := false }, kinds := [], alts := [], laidByText := true, laidKinds := [.data], laidTests := true, laidLooks := .later }
def PreserveProjectUptoCardSaid : Prop := Claim7.holds Tryd.pinned (.plain (OpenSpec.upto preserveProjectSpec)) preserveProjectUptoCard

/-- THE SECOND FORM's CARD OF 'drosslaw22.PreserveWithin'. -/
def preserveWithinUptoCard : Claim7 := { stood := { row := preserveWithinUptoRow, standIns := [], harness := (true, "750c360aec7eb0b158698c2bc32973d42635e14007491876852754cc4e71e0e9"), looks := false }, kinds := [], alts := [], laidByText := true, laidKinds := [.data], laidTests := true, laidLooks := .later }
def PreserveWithinUptoCardSaid : Prop := Claim7.holds Tryd.pinned (.plain (OpenSpec.upto preserveWithinSpec)) preserveWithinUptoCard

/-- THE SECOND FORM's CARD OF 'drosslaw22.PreserveKept'. -/
def preserveKeptUptoCard : Claim7 := { stood := { row := preserveKeptUptoRow, standIns := [], harness := (true, "750c360aec7eb0b158698c2bc32973d42635e14007491876852754cc4e71e0e9"), looks := false }, kinds := [], alts := [], laidByText := true, laidKinds := [.data], laidTests := true, laidLooks := .later }
def PreserveKeptUptoCardSaid : Prop := Claim7.holds Tryd.pinned (.plain (OpenSpec.upto preserveKeptSpec)) preserveKeptUptoCard

/-- THE SECOND FORM's CARD OF 'drosslaw22.PreserveLost'. -/
def preserveLostUptoCard : Claim7 := { stood := { row := preserveLostUptoRow, standIns := [], harness := (true, "750c360aec7eb0b158698c2bc32973d42635e14007491876852754cc4e71e0e9"), looks := false }, kinds := [], alts := [], laidByText := true, laidKinds := [.data], laidTests := true, laidLooks := .later }
def PreserveLostUptoCardSaid : Prop := Claim7.holds Tryd.pinned (.plain (OpenSpec.upto preserveLostSpec)) preserveLostUptoCard

/-- THE SECOND FORM's CARD OF 'drosslaw22.PreserveUnion'. -/
def preserveUnionUptoCard : Claim7 := { stood := { row := preserveUnionUptoRow, standIns := [], harness := (true, "750c360aec7eb0b158698c2bc32973d42635e14007491876852754cc4e71e0e9"), looks := false }, kinds := [], alts := [], laidByText := true, laidKinds := [.data], laidTests := true, laidLooks := .later }
def PreserveUnionUptoCardSaid : Prop := Claim7.holds Tryd.pinned (.plain (OpenSpec.upto preserveUnionSpec)) preserveUnionUptoCard

/-- THE SECOND FORM's CARD OF 'drosslaw22.PreserveMore'. -/
def preserveMoreUptoCard : Claim7 := { stood := { row := preserveMoreUptoRow, standIns := [], harness := (true, "750c360aec7eb0b158698c2bc32973d42635e14007491876852754cc4e71e0e9"), looks := false }, kinds := [], alts := [], laidByText := true, laidKinds := [.data], laidTests := true, laidLooks := .later }
def PreserveMoreUptoCardSaid : Prop := Claim7.holds Tryd.pinned (.plain (OpenSpec.upto preserveMoreSpec)) preserveMoreUptoCard

/-- THE SECOND FORM's CARD OF 'drosslaw22.PreserveTraced'. -/
def preserveTracedUptoCard : Claim7 := { stood := { row := preserveTracedUptoRow, standIns := [], harness := (true, "750c360aec7eb0b158698c2bc32973d42635e14007491876852754cc4e71e0e9"), looks := false }, kinds := [], alts := [], laidByText := true, laidKinds := [.data], laidTests := true, laidLooks := .later }
def PreserveTracedUptoCardSaid : Prop := Claim7.holds Tryd.pinned (.plain (OpenSpec.upto preserveTracedSpec)) preserveTracedUptoCard
end Rows
end Go.Proofs.YtciamnkalmihcaaDoor
