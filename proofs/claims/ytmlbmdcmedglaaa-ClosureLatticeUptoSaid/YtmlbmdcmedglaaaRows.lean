/-
  No cell of these rows narrows 'for every input' (looked for: loops, veiled, ifaces, maps, wideKeys, modest, calm, conditions, laid).
  DERIVED. THE GIVEN ROWS OF THIS SEAT. 7 by the template 'for every input the law returns true; each argument reads behind the call as it read before'; 0 by the template 'total and deterministic' (their statements: YtmlbmdcmedglaaaTotals.lean).
  GIVEN WITH THE SEED: the statements are not yours to turn. If you find one false, say at which input.
  Laid BY PROGRAM, IN A SANDBOX (cutbox-rows.mjs): the forced cells as the released guide's own fill.sh prints them over the translation 59ad5745390b7e45… (all of the seat's roots in one cut). By AI agents, Wed Nov 11 2026. No macro, syntax, notation, axiom, sorry.
-/
import Derived.Test.YtmlbmdcmedglaaaChecked
import GoSem.Claim
import GoSem.ClaimJoined
import GoSem.ClaimMapViews
import Derived.JoinedTies
import Derived.KernelRfl
namespace Go.Proofs.Ytmlbmdcmedglaaa
/- THE CELL 'sum', in the pinned program and in every row, IS THE sha256 OF THE DUMP (.gsa) THAT YtmlbmdcmedglaaaProg.lean LOADS. Nothing in Lean hashes anything: it is a label: what it is worth is what the hold of that sum in a sandbox is worth. -/
noncomputable def Try.pinned : Pinned := { name := "ytmlbmdcmedglaaa", sum := "59ad5745390b7e451c4c4d83a40e68a91d1c7ad890da50f3d3fffa6a12e3d87a", checked := Try.checked }
namespace Rows
def none {H : Type} : Left H := { results := [], args := [] }

/-- 'drosslaw09.ClosureValid': WHATEVER THE INPUT: true; the input reads as it did. -/
def closureValidSpec : ChangeSpec := { name := "closureValid", fn := fun _ => fun
  | [d1, d2] => { results := [.lit (.bool true)], args := [d1, d2] }
  | _ => none }
def closureValidRow : OpenClaim := { program := "ytmlbmdcmedglaaa", sum := "59ad5745390b7e451c4c4d83a40e68a91d1c7ad890da50f3d3fffa6a12e3d87a", func := "dross/drosslaw09.ClosureValid", spec := "closureValid", unfollowed := true, recurses := true, apart := false }
def ClosureValidSaid : Prop := closureValidRow.holds Try.pinned (OpenSpec.ofChange closureValidSpec)

/-- ITS FALSE NEIGHBOUR: 'it returns false'. Refute it at one input. -/
def closureValidWrong : ChangeSpec := { name := "closureValid", fn := fun _ => fun
  | [d1, d2] => { results := [.lit (.bool false)], args := [d1, d2] }
  | _ => none }
def ClosureValidWrongFalsely : Prop := closureValidRow.holds Try.pinned (OpenSpec.ofChange closureValidWrong)

/-- 'drosslaw09.ClosureClose': WHATEVER THE INPUT: true; the input reads as it did. -/
def closureCloseSpec : ChangeSpec := { name := "closureClose", fn := fun _ => fun
  | [d1, d2, d3] => { results := [.lit (.bool true)], args := [d1, d2, d3] }
  | _ => none }
def closureCloseRow : OpenClaim := { program := "ytmlbmdcmedglaaa", sum := "59ad5745390b7e451c4c4d83a40e68a91d1c7ad890da50f3d3fffa6a12e3d87a", func := "dross/drosslaw09.ClosureClose", spec := "closureClose", unfollowed := true, recurses := true, apart := false }
def ClosureCloseSaid : Prop := closureCloseRow.holds Try.pinned (OpenSpec.ofChange closureCloseSpec)

/-- ITS FALSE NEIGHBOUR: 'it returns false'. Refute it at one input. -/
def closureCloseWrong : ChangeSpec := { name := "closureClose", fn := fun _ => fun
  | [d1, d2, d3] => { results := [.lit (.bool false)], args := [d1, d2, d3] }
  | _ => none }
def ClosureCloseWrongFalsely : Prop := closureCloseRow.holds Try.pinned (OpenSpec.ofChange closureCloseWrong)

/-- 'drosslaw09.ClosureImplies': WHATEVER THE INPUT: true; the input reads as it did. -/
def closureImpliesSpec : ChangeSpec := { name := "closureImplies", fn := fun _ => fun
  | [d1, d2, d3] => { results := [.lit (.bool true)], args := [d1, d2, d3] }
  | _ => none }
def closureImpliesRow : OpenClaim := { program := "ytmlbmdcmedglaaa", sum := "59ad5745390b7e451c4c4d83a40e68a91d1c7ad890da50f3d3fffa6a12e3d87a", func := "dross/drosslaw09.ClosureImplies", spec := "closureImplies", unfollowed := true, recurses := true, apart := false }
def ClosureImpliesSaid : Prop := closureImpliesRow.holds Try.pinned (OpenSpec.ofChange closureImpliesSpec)

/-- ITS FALSE NEIGHBOUR: 'it returns false'. Refute it at one input. -/
def closureImpliesWrong : ChangeSpec := { name := "closureImplies", fn := fun _ => fun
  | [d1, d2, d3] => { results := [.lit (.bool false)], args := [d1, d2, d3] }
  | _ => none }
def ClosureImpliesWrongFalsely : Prop := closureImpliesRow.holds Try.pinned (OpenSpec.ofChange closureImpliesWrong)

/-- 'drosslaw09.ClosureTrace': WHATEVER THE INPUT: true; the input reads as it did. -/
def closureTraceSpec : ChangeSpec := { name := "closureTrace", fn := fun _ => fun
  | [d1, d2] => { results := [.lit (.bool true)], args := [d1, d2] }
  | _ => none }
def closureTraceRow : OpenClaim := { program := "ytmlbmdcmedglaaa", sum := "59ad5745390b7e451c4c4d83a40e68a91d1c7ad890da50f3d3fffa6a12e3d87a", func := "dross/drosslaw09.ClosureTrace", spec := "closureTrace", unfollowed := true, recurses := true, apart := false }
def ClosureTraceSaid : Prop := closureTraceRow.holds Try.pinned (OpenSpec.ofChange closureTraceSpec)

/-- ITS FALSE NEIGHBOUR: 'it returns false'. Refute it at one input. -/
def closureTraceWrong : ChangeSpec := { name := "closureTrace", fn := fun _ => fun
  | [d1, d2] => { results := [.lit (.bool false)], args := [d1, d2] }
  | _ => none }
def ClosureTraceWrongFalsely : Prop := closureTraceRow.holds Try.pinned (OpenSpec.ofChange closureTraceWrong)

/-- 'drosslaw09.ClosureClosed': WHATEVER THE INPUT: true; the input reads as it did. -/
def closureClosedSpec : ChangeSpec := { name := "closureClosed", fn := fun _ => fun
  | [d1, d2] => { results := [.lit (.bool true)], args := [d1, d2] }
  | _ => none }
def closureClosedRow : OpenClaim := { program := "ytmlbmdcmedglaaa", sum := "59ad5745390b7e451c4c4d83a40e68a91d1c7ad890da50f3d3fffa6a12e3d87a", func := "dross/drosslaw09.ClosureClosed", spec := "closureClosed", unfollowed := true, recurses := true, apart := false }
def ClosureClosedSaid : Prop := closureClosedRow.holds Try.pinned (OpenSpec.ofChange closureClosedSpec)

/-- ITS FALSE NEIGHBOUR: 'it returns false'. Refute it at one input. -/
def closureClosedWrong : ChangeSpec := { name := "closureClosed", fn := fun _ => fun
  | [d1, d2] => { results := [.lit (.bool false)], args := [d1, d2] }
  | _ => none }
def ClosureClosedWrongFalsely : Prop := closureClosedRow.holds Try.pinned (OpenSpec.ofChange closureClosedWrong)

/-- 'drosslaw09.ClosureLattice': WHATEVER THE INPUT: true; the input reads as it did. -/
def closureLatticeSpec : ChangeSpec := { name := "closureLattice", fn := fun _ => fun
  | [d1, d2, d3] => { results := [.lit (.bool true)], args := [d1, d2, d3] }
  | _ => none }
def closureLatticeRow : OpenClaim := { program := "ytmlbmdcmedglaaa", sum := "59ad5745390b7e451c4c4d83a40e68a91d1c7ad890da50f3d3fffa6a12e3d87a", func := "dross/drosslaw09.ClosureLattice", spec := "closureLattice", unfollowed := true, recurses := true, apart := false }
def ClosureLatticeSaid : Prop := closureLatticeRow.holds Try.pinned (OpenSpec.ofChange closureLatticeSpec)

/-- ITS FALSE NEIGHBOUR: 'it returns false'. Refute it at one input. -/
def closureLatticeWrong : ChangeSpec := { name := "closureLattice", fn := fun _ => fun
  | [d1, d2, d3] => { results := [.lit (.bool false)], args := [d1, d2, d3] }
  | _ => none }
def ClosureLatticeWrongFalsely : Prop := closureLatticeRow.holds Try.pinned (OpenSpec.ofChange closureLatticeWrong)

/-- 'drosslaw09.ClosureEquivalent': WHATEVER THE INPUT: true; the input reads as it did. -/
def closureEquivalentSpec : ChangeSpec := { name := "closureEquivalent", fn := fun _ => fun
  | [d1, d2, d3] => { results := [.lit (.bool true)], args := [d1, d2, d3] }
  | _ => none }
def closureEquivalentRow : OpenClaim := { program := "ytmlbmdcmedglaaa", sum := "59ad5745390b7e451c4c4d83a40e68a91d1c7ad890da50f3d3fffa6a12e3d87a", func := "dross/drosslaw09.ClosureEquivalent", spec := "closureEquivalent", unfollowed := true, recurses := true, apart := false }
def ClosureEquivalentSaid : Prop := closureEquivalentRow.holds Try.pinned (OpenSpec.ofChange closureEquivalentSpec)

/-- ITS FALSE NEIGHBOUR: 'it returns false'. Refute it at one input. -/
def closureEquivalentWrong : ChangeSpec := { name := "closureEquivalent", fn := fun _ => fun
  | [d1, d2, d3] => { results := [.lit (.bool false)], args := [d1, d2, d3] }
  | _ => none }
def ClosureEquivalentWrongFalsely : Prop := closureEquivalentRow.holds Try.pinned (OpenSpec.ofChange closureEquivalentWrong)

/- THE SECOND FORM. 'bulk': how many values and letters a reading holds, each counted each time it is reached (what is shared counts as often as it is met; a slice's spare places count too). A statement '..UptoSaid' is the law's where the arguments, and the package variables that the reading takes, are together of bulk at most 1048576: NARROWER than '..Said'. Prove '..Said' where nothing that the law and all that it calls make is longer than what came in: it says more and counts as full. Else prove '..UptoSaid'. A law counts once. -/
mutual
def uptoBulk {H : Type} : DataW H → Nat
  | .lit (.string bytes) => bytes.length + 1
  | .lit _ => 1
  | .nil => 1
  | .ptr d => uptoBulk d + 1
  | .slice elems spare => uptoBulkAll elems + uptoBulkAll spare + 1
  | .agg parts => uptoBulkAll parts + 1
  | .iface _ d => uptoBulk d + 1
  | .map entries => uptoBulkEntries entries + 1
  | .held _ => 1
def uptoBulkAll {H : Type} : List (DataW H) → Nat
  | [] => 0
  | d :: r => uptoBulk d + uptoBulkAll r
def uptoBulkEntries {H : Type} : List (Lit × DataW H) → Nat
  | [] => 0
  | x :: r => uptoBulkEntry x + uptoBulkEntries r
def uptoBulkEntry {H : Type} : Lit × DataW H → Nat
  | (.string bytes, d) => bytes.length + uptoBulk d + 1
  | (_, d) => uptoBulk d + 1
 end
def uptoSmall : (H : Type) → List (DataW H) → Bool := fun _ ds => decide (uptoBulkAll ds ≤ 1048576)
def OpenSpec.upto (s : _root_.Go.ChangeSpec) : _root_.Go.OpenSpec := { _root_.Go.OpenSpec.ofChange s with cond := some uptoSmall }

/-- 'drosslaw09.ClosureValid', WHERE WHAT IT READS IS OF BULK AT MOST 1048576: true; the input reads as it did. -/
def closureValidUptoRow : OpenClaim := { program := "ytmlbmdcmedglaaa", sum := "59ad5745390b7e451c4c4d83a40e68a91d1c7ad890da50f3d3fffa6a12e3d87a", func := "dross/drosslaw09.ClosureValid", spec := "closureValid", unfollowed := true, recurses := true, apart := false, narrowed := true }
def ClosureValidUptoSaid : Prop := closureValidUptoRow.holds Try.pinned (OpenSpec.upto closureValidSpec)

/-- 'drosslaw09.ClosureClose', WHERE WHAT IT READS IS OF BULK AT MOST 1048576: true; the input reads as it did. -/
def closureCloseUptoRow : OpenClaim := { program := "ytmlbmdcmedglaaa", sum := "59ad5745390b7e451c4c4d83a40e68a91d1c7ad890da50f3d3fffa6a12e3d87a", func := "dross/drosslaw09.ClosureClose", spec := "closureClose", unfollowed := true, recurses := true, apart := false, narrowed := true }
def ClosureCloseUptoSaid : Prop := closureCloseUptoRow.holds Try.pinned (OpenSpec.upto closureCloseSpec)

/-- 'drosslaw09.ClosureImplies', WHERE WHAT IT READS IS OF BULK AT MOST 1048576: true; the input reads as it did. -/
def closureImpliesUptoRow : OpenClaim := { program := "ytmlbmdcmedglaaa", sum := "59ad5745390b7e451c4c4d83a40e68a91d1c7ad890da50f3d3fffa6a12e3d87a", func := "dross/drosslaw09.ClosureImplies", spec := "closureImplies", unfollowed := true, recurses := true, apart := false, narrowed := true }
def ClosureImpliesUptoSaid : Prop := closureImpliesUptoRow.holds Try.pinned (OpenSpec.upto closureImpliesSpec)

/-- 'drosslaw09.ClosureTrace', WHERE WHAT IT READS IS OF BULK AT MOST 1048576: true; the input reads as it did. -/
def closureTraceUptoRow : OpenClaim := { program := "ytmlbmdcmedglaaa", sum := "59ad5745390b7e451c4c4d83a40e68a91d1c7ad890da50f3d3fffa6a12e3d87a", func := "dross/drosslaw09.ClosureTrace", spec := "closureTrace", unfollowed := true, recurses := true, apart := false, narrowed := true }
def ClosureTraceUptoSaid : Prop := closureTraceUptoRow.holds Try.pinned (OpenSpec.upto closureTraceSpec)

/-- 'drosslaw09.ClosureClosed', WHERE WHAT IT READS IS OF BULK AT MOST 1048576: true; the input reads as it did. -/
def closureClosedUptoRow : OpenClaim := { program := "ytmlbmdcmedglaaa", sum := "59ad5745390b7e451c4c4d83a40e68a91d1c7ad890da50f3d3fffa6a12e3d87a", func := "dross/drosslaw09.ClosureClosed", spec := "closureClosed", unfollowed := true, recurses := true, apart := false, narrowed := true }
def ClosureClosedUptoSaid : Prop := closureClosedUptoRow.holds Try.pinned (OpenSpec.upto closureClosedSpec)

/-- 'drosslaw09.ClosureLattice', WHERE WHAT IT READS IS OF BULK AT MOST 1048576: true; the input reads as it did. -/
def closureLatticeUptoRow : OpenClaim := { program := "ytmlbmdcmedglaaa", sum := "59ad5745390b7e451c4c4d83a40e68a91d1c7ad890da50f3d3fffa6a12e3d87a", func := "dross/drosslaw09.ClosureLattice", spec := "closureLattice", unfollowed := true, recurses := true, apart := false, narrowed := true }
def ClosureLatticeUptoSaid : Prop := closureLatticeUptoRow.holds Try.pinned (OpenSpec.upto closureLatticeSpec)

/-- 'drosslaw09.ClosureEquivalent', WHERE WHAT IT READS IS OF BULK AT MOST 1048576: true; the input reads as it did. -/
def closureEquivalentUptoRow : OpenClaim := { program := "ytmlbmdcmedglaaa", sum := "59ad5745390b7e451c4c4d83a40e68a91d1c7ad890da50f3d3fffa6a12e3d87a", func := "dross/drosslaw09.ClosureEquivalent", spec := "closureEquivalent", unfollowed := true, recurses := true, apart := false, narrowed := true }
def ClosureEquivalentUptoSaid : Prop := closureEquivalentUptoRow.holds Try.pinned (OpenSpec.upto closureEquivalentSpec)

end Rows
end Go.Proofs.Ytmlbmdcmedglaaa
