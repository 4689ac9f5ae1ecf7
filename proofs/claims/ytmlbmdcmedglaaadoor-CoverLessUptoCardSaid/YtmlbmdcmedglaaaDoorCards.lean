/-
  DERIVED. GIVEN WITH THE SEED: THE CARDS: each row of YtmlbmdcmedglaaaDoorRows.lean that lists a variable, with what it lists TIED to the program's text (the seventh form; the later family's looks); each row that meets fmt, with fmt's text TOLD by the authors' own Lean function (tested against real Go, not proved from fmt's source: count such statements apart). THE CARD IS WHAT COUNTS. Prove the row's statement (the work); the ties are given (YtmlbmdcmedglaaaDoorTie.lean); close each card by the builder's one call (the guide's Derived/Test/ToyasCard.lean, 'card_holds'). Laid BY PROGRAM, IN A SANDBOX (cutbox-door.mjs). By AI agents, Wed Nov 11 2026. No macro, syntax, notation, axiom, sorry.
-/
import Derived.Test.YtmlbmdcmedglaaaDoorRows
import GoSem.ClaimSeven
namespace Go.Proofs.YtmlbmdcmedglaaaDoor
namespace Rows

/-- THE TIED CARD OF 'drosslaw10.CoverSplit'. -/
def coverSplitCard : Claim7 := { stood := { row := coverSplitRow, standIns := [], harness := (true, "d34ff6e5fb43f4c35ff9094e9cb339789d7f7cd55fc137580e554dea3d99acc2"), looks := false }, kinds := [], alts := [], laidByText := true, laidKinds := [.data], laidTests := true, laidLooks := .later }
def CoverSplitCardSaid : Prop := Claim7.holds Tryd.pinned (.plain (OpenSpec.ofChange coverSplitSpec)) coverSplitCard

/-- THE TIED CARD OF 'drosslaw10.CoverMinimal'. -/
def coverMinimalCard : Claim7 := { stood := { row := coverMinimalRow, standIns := [], harness := (true, "d34ff6e5fb43f4c35ff9094e9cb339789d7f7cd55fc137580e554dea3d99acc2"), looks := false }, kinds := [], alts := [], laidByText := true, laidKinds := [.data], laidTests := true, laidLooks := .later }
def CoverMinimalCardSaid : Prop := Claim7.holds Tryd.pinned (.plain (OpenSpec.ofChange coverMinimalSpec)) coverMinimalCard

/-- THE TIED CARD OF 'drosslaw10.CoverAgain'. -/
def coverAgainCard : Claim7 := { stood := { row := coverAgainRow, standIns := [], harness := (true, "d34ff6e5fb43f4c35ff9094e9cb339789d7f7cd55fc137580e554dea3d99acc2"), looks := false }, kinds := [], alts := [], laidByText := true, laidKinds := [.data], laidTests := true, laidLooks := .later }
def CoverAgainCardSaid : Prop := Claim7.holds Tryd.pinned (.plain (OpenSpec.ofChange coverAgainSpec)) coverAgainCard

/-- THE TIED CARD OF 'drosslaw10.CoverLess'. -/
def coverLessCard : Claim7 := { stood := { row := coverLessRow, standIns := [], harness := (true, "d34ff6e5fb43f4c35ff9094e9cb339789d7f7cd55fc137580e554dea3d99acc2"), looks := false }, kinds := [], alts := [], laidByText := true, laidKinds := [.data], laidTests := true, laidLooks := .later }
def CoverLessCardSaid : Prop := Claim7.holds Tryd.pinned (.plain (OpenSpec.ofChange coverLessSpec)) coverLessCard

/-- THE TIED CARD OF 'drosslaw10.CoverRedundant'. -/
def coverRedundantCard : Claim7 := { stood := { row := coverRedundantRow, standIns := [], harness := (true, "d34ff6e5fb43f4c35ff9094e9cb339789d7f7cd55fc137580e554dea3d99acc2"), looks := false }, kinds := [], alts := [], laidByText := true, laidKinds := [.data], laidTests := true, laidLooks := .later }
def CoverRedundantCardSaid : Prop := Claim7.holds Tryd.pinned (.plain (OpenSpec.ofChange coverRedundantSpec)) coverRedundantCard

/-- THE TIED CARD OF 'drosslaw10.CoverExtraneous'. -/
def coverExtraneousCard : Claim7 := { stood := { row := coverExtraneousRow, standIns := [], harness := (true, "d34ff6e5fb43f4c35ff9094e9cb339789d7f7cd55fc137580e554dea3d99acc2"), looks := false }, kinds := [], alts := [], laidByText := true, laidKinds := [.data], laidTests := true, laidLooks := .later }
def CoverExtraneousCardSaid : Prop := Claim7.holds Tryd.pinned (.plain (OpenSpec.ofChange coverExtraneousSpec)) coverExtraneousCard

/-- THE TIED CARD OF 'drosslaw22.PreserveProject'. -/
def preserveProjectCard : Claim7 := { stood := { row := preserveProjectRow, standIns := [], harness := (true, "d34ff6e5fb43f4c35ff9094e9cb339789d7f7cd55fc137580e554dea3d99acc2"), looks := false }, kinds := [], alts := [], laidByText := true, laidKinds := [.data], laidTests := true, laidLooks := .later }
def PreserveProjectCardSaid : Prop := Claim7.holds Tryd.pinned (.plain (OpenSpec.ofChange preserveProjectSpec)) preserveProjectCard

/-- THE TIED CARD OF 'drosslaw22.PreserveWithin'. -/
def preserveWithinCard : Claim7 := { stood := { row := preserveWithinRow, standIns := [], harness := (true, "d34ff6e5fb43f4c35ff9094e9cb339789d7f7cd55fc137580e554dea3d99acc2"), looks := false }, kinds := [], alts := [], laidByText := true, laidKinds := [.data], laidTests := true, laidLooks := .later }
def PreserveWithinCardSaid : Prop := Claim7.holds Tryd.pinned (.plain (OpenSpec.ofChange preserveWithinSpec)) preserveWithinCard

/-- THE TIED CARD OF 'drosslaw22.PreserveKept'. -/
def preserveKeptCard : Claim7 := { stood := { row := preserveKeptRow, standIns := [], harness := (true, "d34ff6e5fb43f4c35ff9094e9cb339789d7f7cd55fc137580e554dea3d99acc2"), looks := false }, kinds := [], alts := [], laidByText := true, laidKinds := [.data], laidTests := true, laidLooks := .later }
def PreserveKeptCardSaid : Prop := Claim7.holds Tryd.pinned (.plain (OpenSpec.ofChange preserveKeptSpec)) preserveKeptCard

/-- THE TIED CARD OF 'drosslaw22.PreserveLost'. -/
def preserveLostCard : Claim7 := { stood := { row := preserveLostRow, standIns := [], harness := (true, "d34ff6e5fb43f4c35ff9094e9cb339789d7f7cd55fc137580e554dea3d99acc2"), looks := false }, kinds := [], alts := [], laidByText := true, laidKinds := [.data], laidTests := true, laidLooks := .later }
def PreserveLostCardSaid : Prop := Claim7.holds Tryd.pinned (.plain (OpenSpec.ofChange preserveLostSpec)) preserveLostCard

/-- THE TIED CARD OF 'drosslaw22.PreserveUnion'. -/
def preserveUnionCard : Claim7 := { stood := { row := preserveUnionRow, standIns := [], harness := (true, "d34ff6e5fb43f4c35ff9094e9cb339789d7f7cd55fc137580e554dea3d99acc2"), looks := false }, kinds := [], alts := [], laidByText := true, laidKinds := [.data], laidTests := true, laidLooks := .later }
def PreserveUnionCardSaid : Prop := Claim7.holds Tryd.pinned (.plain (OpenSpec.ofChange preserveUnionSpec)) preserveUnionCard

/-- THE TIED CARD OF 'drosslaw22.PreserveMore'. -/
def preserveMoreCard : Claim7 := { stood := { row := preserveMoreRow, standIns := [], harness := (true, "d34ff6e5fb43f4c35ff9094e9cb339789d7f7cd55fc137580e554dea3d99acc2"), looks := false }, kinds := [], alts := [], laidByText := true, laidKinds := [.data], laidTests := true, laidLooks := .later }
def PreserveMoreCardSaid : Prop := Claim7.holds Tryd.pinned (.plain (OpenSpec.ofChange preserveMoreSpec)) preserveMoreCard

/-- THE TIED CARD OF 'drosslaw22.PreserveTraced'. -/
def preserveTracedCard : Claim7 := { stood := { row := preserveTracedRow, standIns := [], harness := (true, "d34ff6e5fb43f4c35ff9094e9cb339789d7f7cd55fc137580e554dea3d99acc2"), looks := false }, kinds := [], alts := [], laidByText := true, laidKinds := [.data], laidTests := true, laidLooks := .later }
def PreserveTracedCardSaid : Prop := Claim7.holds Tryd.pinned (.plain (OpenSpec.ofChange preserveTracedSpec)) preserveTracedCard

/-- THE TIED CARD OF 'drosslaw10.CoverEquivalent'. -/
def coverEquivalentCard : Claim7 := { stood := { row := coverEquivalentRow, standIns := [], harness := (true, "d34ff6e5fb43f4c35ff9094e9cb339789d7f7cd55fc137580e554dea3d99acc2"), looks := false }, kinds := [], alts := [], laidByText := true, laidKinds := [.data], laidTests := true, laidLooks := .later }
def CoverEquivalentCardSaid : Prop := Claim7.holds Tryd.pinned (.plain (OpenSpec.ofChange coverEquivalentSpec)) coverEquivalentCard

/-- THE TIED CARD OF 'drosslaw10.CoverIsMinimal'. -/
def coverIsMinimalCard : Claim7 := { stood := { row := coverIsMinimalRow, standIns := [], harness := (true, "d34ff6e5fb43f4c35ff9094e9cb339789d7f7cd55fc137580e554dea3d99acc2"), looks := false }, kinds := [], alts := [], laidByText := true, laidKinds := [.data], laidTests := true, laidLooks := .later }
def CoverIsMinimalCardSaid : Prop := Claim7.holds Tryd.pinned (.plain (OpenSpec.ofChange coverIsMinimalSpec)) coverIsMinimalCard

/-- THE SECOND FORM's CARD OF 'drosslaw10.CoverSplit'. -/
def coverSplitUptoCard : Claim7 := { stood := { row := coverSplitUptoRow, standIns := [], harness := (true, "d34ff6e5fb43f4c35ff9094e9cb339789d7f7cd55fc137580e554dea3d99acc2"), looks := false }, kinds := [], alts := [], laidByText := true, laidKinds := [.data], laidTests := true, laidLooks := .later }
def CoverSplitUptoCardSaid : Prop := Claim7.holds Tryd.pinned (.plain (OpenSpec.upto coverSplitSpec)) coverSplitUptoCard

/-- THE SECOND FORM's CARD OF 'drosslaw10.CoverMinimal'. -/
def coverMinimalUptoCard : Claim7 := { stood := { row := coverMinimalUptoRow, standIns := [], harness := (true, "d34ff6e5fb43f4c35ff9094e9cb339789d7f7cd55fc137580e554dea3d99acc2"), looks := false }, kinds := [], alts := [], laidByText := true, laidKinds := [.data], laidTests := true, laidLooks := .later }
def CoverMinimalUptoCardSaid : Prop := Claim7.holds Tryd.pinned (.plain (OpenSpec.upto coverMinimalSpec)) coverMinimalUptoCard

/-- THE SECOND FORM's CARD OF 'drosslaw10.CoverAgain'. -/
def coverAgainUptoCard : Claim7 := { stood := { row := coverAgainUptoRow, standIns := [], harness := (true, "d34ff6e5fb43f4c35ff9094e9cb339789d7f7cd55fc137580e554dea3d99acc2"), looks := false }, kinds := [], alts := [], laidByText := true, laidKinds := [.data], laidTests := true, laidLooks := .later }
def CoverAgainUptoCardSaid : Prop := Claim7.holds Tryd.pinned (.plain (OpenSpec.upto coverAgainSpec)) coverAgainUptoCard

/-- THE SECOND FORM's CARD OF 'drosslaw10.CoverLess'. -/
def coverLessUptoCard : Claim7 := { stood := { row := coverLessUptoRow, standIns := [], harness := (true, "d34ff6e5fb43f4c35ff9094e9cb339789d7f7cd55fc137580e554dea3d99acc2"), looks := false }, kinds := [], alts := [], laidByText := true, laidKinds := [.data], laidTests := true, laidLooks := .later }
def CoverLessUptoCardSaid : Prop := Claim7.holds Tryd.pinned (.plain (OpenSpec.upto coverLessSpec)) coverLessUptoCard

/-- THE SECOND FORM's CARD OF 'drosslaw10.CoverRedundant'. -/
def coverRedundantUptoCard : Claim7 := { stood := { row := coverRedundantUptoRow, standIns := [], harness := (true, "d34ff6e5fb43f4c35ff9094e9cb339789d7f7cd55fc137580e554dea3d99acc2"), looks := false }, kinds := [], alts := [], laidByText := true, laidKinds := [.data], laidTests := true, laidLooks := .later }
def CoverRedundantUptoCardSaid : Prop := Claim7.holds Tryd.pinned (.plain (OpenSpec.upto coverRedundantSpec)) coverRedundantUptoCard

/-- THE SECOND FORM's CARD OF 'drosslaw10.CoverExtraneous'. -/
def coverExtraneousUptoCard : Claim7 := { stood := { row := coverExtraneousUptoRow, standIns := [], harness := (true, "d34ff6e5fb43f4c35ff9094e9cb339789d7f7cd55fc137580e554dea3d99acc2"), looks := false }, kinds := [], alts := [], laidByText := true, laidKinds := [.data], laidTests := true, laidLooks := .later }
def CoverExtraneousUptoCardSaid : Prop := Claim7.holds Tryd.pinned (.plain (OpenSpec.upto coverExtraneousSpec)) coverExtraneousUptoCard

/-- THE SECOND FORM's CARD OF 'drosslaw22.PreserveProject'. -/
def preserveProjectUptoCard : Claim7 := { stood := { row := preserveProjectUptoRow, standIns := [], harness := (true, "d34ff6e5fb43f4c35ff9094e9cb339789d7f7cd55fc137580e554dea3d99acc2"), looks := false }, kinds := [], alts := [], laidByText := true, laidKinds := [.data], laidTests := true, laidLooks := .later }
def PreserveProjectUptoCardSaid : Prop := Claim7.holds Tryd.pinned (.plain (OpenSpec.upto preserveProjectSpec)) preserveProjectUptoCard

/-- THE SECOND FORM's CARD OF 'drosslaw22.PreserveWithin'. -/
def preserveWithinUptoCard : Claim7 := { stood := { row := preserveWithinUptoRow, standIns := [], harness := (true, "d34ff6e5fb43f4c35ff9094e9cb339789d7f7cd55fc137580e554dea3d99acc2"), looks := false }, kinds := [], alts := [], laidByText := true, laidKinds := [.data], laidTests := true, laidLooks := .later }
def PreserveWithinUptoCardSaid : Prop := Claim7.holds Tryd.pinned (.plain (OpenSpec.upto preserveWithinSpec)) preserveWithinUptoCard

/-- THE SECOND FORM's CARD OF 'drosslaw22.PreserveKept'. -/
def preserveKeptUptoCard : Claim7 := { stood := { row := preserveKeptUptoRow, standIns := [], harness := (true, "d34ff6e5fb43f4c35ff9094e9cb339789d7f7cd55fc137580e554dea3d99acc2"), looks := false }, kinds := [], alts := [], laidByText := true, laidKinds := [.data], laidTests := true, laidLooks := .later }
def PreserveKeptUptoCardSaid : Prop := Claim7.holds Tryd.pinned (.plain (OpenSpec.upto preserveKeptSpec)) preserveKeptUptoCard

/-- THE SECOND FORM's CARD OF 'drosslaw22.PreserveLost'. -/
def preserveLostUptoCard : Claim7 := { stood := { row := preserveLostUptoRow, standIns := [], harness := (true, "d34ff6e5fb43f4c35ff9094e9cb339789d7f7cd55fc137580e554dea3d99acc2"), looks := false }, kinds := [], alts := [], laidByText := true, laidKinds := [.data], laidTests := true, laidLooks := .later }
def PreserveLostUptoCardSaid : Prop := Claim7.holds Tryd.pinned (.plain (OpenSpec.upto preserveLostSpec)) preserveLostUptoCard

/-- THE SECOND FORM's CARD OF 'drosslaw22.PreserveUnion'. -/
def preserveUnionUptoCard : Claim7 := { stood := { row := preserveUnionUptoRow, standIns := [], harness := (true, "d34ff6e5fb43f4c35ff9094e9cb339789d7f7cd55fc137580e554dea3d99acc2"), looks := false }, kinds := [], alts := [], laidByText := true, laidKinds := [.data], laidTests := true, laidLooks := .later }
def PreserveUnionUptoCardSaid : Prop := Claim7.holds Tryd.pinned (.plain (OpenSpec.upto preserveUnionSpec)) preserveUnionUptoCard

/-- THE SECOND FORM's CARD OF 'drosslaw22.PreserveMore'. -/
def preserveMoreUptoCard : Claim7 := { stood := { row := preserveMoreUptoRow, standIns := [], harness := (true, "d34ff6e5fb43f4c35ff9094e9cb339789d7f7cd55fc137580e554dea3d99acc2"), looks := false }, kinds := [], alts := [], laidByText := true, laidKinds := [.data], laidTests := true, laidLooks := .later }
def PreserveMoreUptoCardSaid : Prop := Claim7.holds Tryd.pinned (.plain (OpenSpec.upto preserveMoreSpec)) preserveMoreUptoCard

/-- THE SECOND FORM's CARD OF 'drosslaw22.PreserveTraced'. -/
def preserveTracedUptoCard : Claim7 := { stood := { row := preserveTracedUptoRow, standIns := [], harness := (true, "d34ff6e5fb43f4c35ff9094e9cb339789d7f7cd55fc137580e554dea3d99acc2"), looks := false }, kinds := [], alts := [], laidByText := true, laidKinds := [.data], laidTests := true, laidLooks := .later }
def PreserveTracedUptoCardSaid : Prop := Claim7.holds Tryd.pinned (.plain (OpenSpec.upto preserveTracedSpec)) preserveTracedUptoCard

/-- THE SECOND FORM's CARD OF 'drosslaw10.CoverEquivalent'. -/
def coverEquivalentUptoCard : Claim7 := { stood := { row := coverEquivalentUptoRow, standIns := [], harness := (true, "d34ff6e5fb43f4c35ff9094e9cb339789d7f7cd55fc137580e554dea3d99acc2"), looks := false }, kinds := [], alts := [], laidByText := true, laidKinds := [.data], laidTests := true, laidLooks := .later }
def CoverEquivalentUptoCardSaid : Prop := Claim7.holds Tryd.pinned (.plain (OpenSpec.upto coverEquivalentSpec)) coverEquivalentUptoCard

/-- THE SECOND FORM's CARD OF 'drosslaw10.CoverIsMinimal'. -/
def coverIsMinimalUptoCard : Claim7 := { stood := { row := coverIsMinimalUptoRow, standIns := [], harness := (true, "d34ff6e5fb43f4c35ff9094e9cb339789d7f7cd55fc137580e554dea3d99acc2"), looks := false }, kinds := [], alts := [], laidByText := true, laidKinds := [.data], laidTests := true, laidLooks := .later }
def CoverIsMinimalUptoCardSaid : Prop := Claim7.holds Tryd.pinned (.plain (OpenSpec.upto coverIsMinimalSpec)) coverIsMinimalUptoCard
end Rows
end Go.Proofs.YtmlbmdcmedglaaaDoor
