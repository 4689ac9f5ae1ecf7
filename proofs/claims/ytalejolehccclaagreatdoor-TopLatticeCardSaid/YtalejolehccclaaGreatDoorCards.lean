/-
  DERIVED. GIVEN WITH THE SEED: THE CARDS: each row of YtalejolehccclaaGreatDoorRows.lean that lists a variable, with what it lists TIED to the program's text (the seventh form; the later family's looks); each row that meets fmt, with fmt's text TOLD by the authors' own Lean function (tested against real Go, not proved from fmt's source: count such statements apart). THE CARD IS WHAT COUNTS. Prove the row's statement (the work); the ties are given (YtalejolehccclaaGreatDoorTie.lean); close each card by the builder's one call (the guide's Derived/Test/ToyasCard.lean, 'card_holds'). Laid BY PROGRAM, IN A SANDBOX (cutbox-door.mjs). By AI agents, Wed Nov 11 2026. No macro, syntax, notation, axiom, sorry.
-/
import Derived.Test.YtalejolehccclaaGreatDoorRows
import GoSem.ClaimSeven
namespace Go.Proofs.YtalejolehccclaaGreatDoor
namespace Rows

/-- THE TIED CARD OF 'drosstop.TopFound'. -/
def topFoundCard : Claim7 := { stood := { row := topFoundRow, standIns := [], harness := (true, "7a6be893c1044677c04827d87740f7a9e2004acd1501bd8776852e3f931e6b1d"), looks := false }, kinds := [], alts := [], laidByText := true, laidKinds := [.data], laidTests := true, laidLooks := .later }
def TopFoundCardSaid : Prop := Claim7.holds Tryz.pinned (.plain (OpenSpec.ofChange topFoundSpec)) topFoundCard

/-- THE TIED CARD OF 'drosstop.TopCertified'. -/
def topCertifiedCard : Claim7 := { stood := { row := topCertifiedRow, standIns := [], harness := (true, "7a6be893c1044677c04827d87740f7a9e2004acd1501bd8776852e3f931e6b1d"), looks := false }, kinds := [], alts := [], laidByText := true, laidKinds := [.data], laidTests := true, laidLooks := .later }
def TopCertifiedCardSaid : Prop := Claim7.holds Tryz.pinned (.plain (OpenSpec.ofChange topCertifiedSpec)) topCertifiedCard

/-- THE TIED CARD OF 'drosstop.TopLattice'. -/
def topLatticeCard : Claim7 := { stood := { row := topLatticeRow, standIns := [], harness := (true, "7a6be893c1044677c04827d87740f7a9e2004acd1501bd8776852e3f931e6b1d"), looks := false }, kinds := [], alts := [], laidByText := true, laidKinds := [.data], laidTests := true, laidLooks := .later }
def TopLatticeCardSaid : Prop := Claim7.holds Tryz.pinned (.plain (OpenSpec.ofChange topLatticeSpec)) topLatticeCard

/-- THE SECOND FORM's CARD OF 'drosstop.TopFound'. -/
def topFoundUptoCard : Claim7 := { stood := { row := topFoundUptoRow, standIns := [], harness := (true, "7a6be893c1044677c04827d87740f7a9e2004acd1501bd8776852e3f931e6b1d"), looks := false }, kinds := [], alts := [], laidByText := true, laidKinds := [.data], laidTests := true, laidLooks := .later }
def TopFoundUptoCardSaid : Prop := Claim7.holds Tryz.pinned (.plain (OpenSpec.upto topFoundSpec)) topFoundUptoCard

/-- THE SECOND FORM's CARD OF 'drosstop.TopCertified'. -/
def topCertifiedUptoCard : Claim7 := { stood := { row := topCertifiedUptoRow, standIns := [], harness := (true, "7a6be893c1044677c04827d87740f7a9e2004acd1501bd8776852e3f931e6b1d"), looks := false }, kinds := [], alts := [], laidByText := true, laidKinds := [.data], laidTests := true, laidLooks := .later }
def TopCertifiedUptoCardSaid : Prop := Claim7.holds Tryz.pinned (.plain (OpenSpec.upto topCertifiedSpec)) topCertifiedUptoCard

/-- THE SECOND FORM's CARD OF 'drosstop.TopLattice'. -/
def topLatticeUptoCard : Claim7 := { stood := { row := topLatticeUptoRow, standIns := [], harness := (true, "7a6be893c1044677c04827d87740f7a9e2004acd1501bd8776852e3f931e6b1d"), looks := false }, kinds := [], alts := [], laidByText := true, laidKinds := [.data], laidTests := true, laidLooks := .later }
def TopLatticeUptoCardSaid : Prop := Claim7.holds Tryz.pinned (.plain (OpenSpec.upto topLatticeSpec)) topLatticeUptoCard
end Rows
end Go.Proofs.YtalejolehccclaaGreatDoor
