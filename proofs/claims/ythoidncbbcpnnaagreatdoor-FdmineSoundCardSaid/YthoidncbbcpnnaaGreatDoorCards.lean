/-
  DERIVED. GIVEN WITH THE SEED: THE CARDS: each row of YthoidncbbcpnnaaGreatDoorRows.lean that lists a variable, with what it lists TIED to the program's text (the seventh form; the later family's looks); each row that meets fmt, with fmt's text TOLD by the authors' own Lean function (tested against real Go, not proved from fmt's source: count such statements apart). THE CARD IS WHAT COUNTS. Prove the row's statement (the work); the ties are given (YthoidncbbcpnnaaGreatDoorTie.lean); close each card by the builder's one call (the guide's Derived/Test/ToyasCard.lean, 'card_holds'). Laid BY PROGRAM, IN A SANDBOX (cutbox-door.mjs). By AI agents, Wed Nov 11 2026. No macro, syntax, notation, axiom, sorry.
-/
import Derived.Test.YthoidncbbcpnnaaGreatDoorRows
import GoSem.ClaimSeven
namespace Go.Proofs.YthoidncbbcpnnaaGreatDoor
namespace Rows

/-- THE TIED CARD OF 'drosslaw28.FdmineAll'. -/
def fdmineAllCard : Claim7 := { stood := { row := fdmineAllRow, standIns := [], harness := (true, "2192c6d430d9788273403c394acec405d008b23c1799006fac61092e524a60a6"), looks := false }, kinds := [], alts := [], laidByText := true, laidKinds := [.data], laidTests := true, laidLooks := .later }
def FdmineAllCardSaid : Prop := Claim7.holds Tryz.pinned (.plain (OpenSpec.ofChange fdmineAllSpec)) fdmineAllCard

/-- THE TIED CARD OF 'drosslaw28.FdmineBounded'. -/
def fdmineBoundedCard : Claim7 := { stood := { row := fdmineBoundedRow, standIns := [], harness := (true, "2192c6d430d9788273403c394acec405d008b23c1799006fac61092e524a60a6"), looks := false }, kinds := [], alts := [], laidByText := true, laidKinds := [.data], laidTests := true, laidLooks := .later }
def FdmineBoundedCardSaid : Prop := Claim7.holds Tryz.pinned (.plain (OpenSpec.ofChange fdmineBoundedSpec)) fdmineBoundedCard

/-- THE TIED CARD OF 'drosslaw28.FdmineFor'. -/
def fdmineForCard : Claim7 := { stood := { row := fdmineForRow, standIns := [], harness := (true, "2192c6d430d9788273403c394acec405d008b23c1799006fac61092e524a60a6"), looks := false }, kinds := [], alts := [], laidByText := true, laidKinds := [.data], laidTests := true, laidLooks := .later }
def FdmineForCardSaid : Prop := Claim7.holds Tryz.pinned (.plain (OpenSpec.ofChange fdmineForSpec)) fdmineForCard

/-- THE TIED CARD OF 'drosslaw28.FdmineCheck'. -/
def fdmineCheckCard : Claim7 := { stood := { row := fdmineCheckRow, standIns := [], harness := (true, "2192c6d430d9788273403c394acec405d008b23c1799006fac61092e524a60a6"), looks := false }, kinds := [], alts := [], laidByText := true, laidKinds := [.data], laidTests := true, laidLooks := .later }
def FdmineCheckCardSaid : Prop := Claim7.holds Tryz.pinned (.plain (OpenSpec.ofChange fdmineCheckSpec)) fdmineCheckCard

/-- THE TIED CARD OF 'drosslaw28.FdmineSound'. -/
def fdmineSoundCard : Claim7 := { stood := { row := fdmineSoundRow, standIns := [], harness := (true, "2192c6d430d9788273403c394acec405d008b23c1799006fac61092e524a60a6"), looks := false }, kinds := [], alts := [], laidByText := true, laidKinds := [.data], laidTests := true, laidLooks := .later }
def FdmineSoundCardSaid : Prop := Claim7.holds Tryz.pinned (.plain (OpenSpec.ofChange fdmineSoundSpec)) fdmineSoundCard

/-- THE TIED CARD OF 'drosslaw28.FdmineFollows'. -/
def fdmineFollowsCard : Claim7 := { stood := { row := fdmineFollowsRow, standIns := [], harness := (true, "2192c6d430d9788273403c394acec405d008b23c1799006fac61092e524a60a6"), looks := false }, kinds := [], alts := [], laidByText := true, laidKinds := [.data], laidTests := true, laidLooks := .later }
def FdmineFollowsCardSaid : Prop := Claim7.holds Tryz.pinned (.plain (OpenSpec.ofChange fdmineFollowsSpec)) fdmineFollowsCard

/-- THE TIED CARD OF 'drosslaw28.FdmineCover'. -/
def fdmineCoverCard : Claim7 := { stood := { row := fdmineCoverRow, standIns := [], harness := (true, "2192c6d430d9788273403c394acec405d008b23c1799006fac61092e524a60a6"), looks := false }, kinds := [], alts := [], laidByText := true, laidKinds := [.data], laidTests := true, laidLooks := .later }
def FdmineCoverCardSaid : Prop := Claim7.holds Tryz.pinned (.plain (OpenSpec.ofChange fdmineCoverSpec)) fdmineCoverCard

/-- THE SECOND FORM's CARD OF 'drosslaw28.FdmineAll'. -/
def fdmineAllUptoCard : Claim7 := { stood := { row := fdmineAllUptoRow, standIns := [], harness := (true, "2192c6d430d9788273403c394acec405d008b23c1799006fac61092e524a60a6"), looks := false }, kinds := [], alts := [], laidByText := true, laidKinds := [.data], laidTests := true, laidLooks := .later }
def FdmineAllUptoCardSaid : Prop := Claim7.holds Tryz.pinned (.plain (OpenSpec.upto fdmineAllSpec)) fdmineAllUptoCard

/-- THE SECOND FORM's CARD OF 'drosslaw28.FdmineBounded'. -/
def fdmineBoundedUptoCard : Claim7 := { stood := { row := fdmineBoundedUptoRow, standIns := [], harness := (true, "2192c6d430d9788273403c394acec405d008b23c1799006fac61092e524a60a6"), looks := false }, kinds := [], alts := [], laidByText := true, laidKinds := [.data], laidTests := true, laidLooks := .later }
def FdmineBoundedUptoCardSaid : Prop := Claim7.holds Tryz.pinned (.plain (OpenSpec.upto fdmineBoundedSpec)) fdmineBoundedUptoCard

/-- THE SECOND FORM's CARD OF 'drosslaw28.FdmineFor'. -/
def fdmineForUptoCard : Claim7 := { stood := { row := fdmineForUptoRow, standIns := [], harness := (true, "2192c6d430d9788273403c394acec405d008b23c1799006fac61092e524a60a6"), looks := false }, kinds := [], alts := [], laidByText := true, laidKinds := [.data], laidTests := true, laidLooks := .later }
def FdmineForUptoCardSaid : Prop := Claim7.holds Tryz.pinned (.plain (OpenSpec.upto fdmineForSpec)) fdmineForUptoCard

/-- THE SECOND FORM's CARD OF 'drosslaw28.FdmineCheck'. -/
def fdmineCheckUptoCard : Claim7 := { stood := { row := fdmineCheckUptoRow, standIns := [], harness := (true, "2192c6d430d9788273403c394acec405d008b23c1799006fac61092e524a60a6"), looks := false }, kinds := [], alts := [], laidByText := true, laidKinds := [.data], laidTests := true, laidLooks := .later }
def FdmineCheckUptoCardSaid : Prop := Claim7.holds Tryz.pinned (.plain (OpenSpec.upto fdmineCheckSpec)) fdmineCheckUptoCard

/-- THE SECOND FORM's CARD OF 'drosslaw28.FdmineSound'. -/
def fdmineSoundUptoCard : Claim7 := { stood := { row := fdmineSoundUptoRow, standIns := [], harness := (true, "2192c6d430d9788273403c394acec405d008b23c1799006fac61092e524a60a6"), looks := false }, kinds := [], alts := [], laidByText := true, laidKinds := [.data], laidTests := true, laidLooks := .later }
def FdmineSoundUptoCardSaid : Prop := Claim7.holds Tryz.pinned (.plain (OpenSpec.upto fdmineSoundSpec)) fdmineSoundUptoCard

/-- THE SECOND FORM's CARD OF 'drosslaw28.FdmineFollows'. -/
def fdmineFollowsUptoCard : Claim7 := { stood := { row := fdmineFollowsUptoRow, standIns := [], harness := (true, "2192c6d430d9788273403c394acec405d008b23c1799006fac61092e524a60a6"), looks := false }, kinds := [], alts := [], laidByText := true, laidKinds := [.data], laidTests := true, laidLooks := .later }
def FdmineFollowsUptoCardSaid : Prop := Claim7.holds Tryz.pinned (.plain (OpenSpec.upto fdmineFollowsSpec)) fdmineFollowsUptoCard

/-- THE SECOND FORM's CARD OF 'drosslaw28.FdmineCover'. -/
def fdmineCoverUptoCard : Claim7 := { stood := { row := fdmineCoverUptoRow, standIns := [], harness := (true, "2192c6d430d9788273403c394acec405d008b23c1799006fac61092e524a60a6"), looks := false }, kinds := [], alts := [], laidByText := true, laidKinds := [.data], laidTests := true, laidLooks := .later }
def FdmineCoverUptoCardSaid : Prop := Claim7.holds Tryz.pinned (.plain (OpenSpec.upto fdmineCoverSpec)) fdmineCoverUptoCard
end Rows
end Go.Proofs.YthoidncbbcpnnaaGreatDoor
