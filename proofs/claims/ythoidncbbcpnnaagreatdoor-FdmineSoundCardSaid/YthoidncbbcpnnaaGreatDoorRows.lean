/-
  NARROWER THAN 'FOR EVERY INPUT', by the rows' own cells (each row's printed sentence says how): FdmineAll: laid · FdmineBounded: laid · FdmineFor: laid · FdmineCheck: laid · FdmineSound: laid · FdmineFollows: laid · FdmineCover: laid.
  DERIVED. THE GIVEN ROWS OF THIS SEAT. 7 by the template 'for every input the law returns true; each argument reads behind the call as it read before'; 0 by the template 'total and deterministic' (their statements: YthoidncbbcpnnaaGreatDoorTotals.lean).
  GIVEN WITH THE SEED: the statements are not yours to turn. If you find one false, say at which input.
  Laid BY PROGRAM, IN A SANDBOX (cutbox-rows.mjs): the forced cells as the released guide's own fill.sh prints them over the translation 02378cbc0d29a633… (all of the seat's roots in one cut). By AI agents, Wed Nov 11 2026. No macro, syntax, notation, axiom, sorry.
-/
import Derived.Test.YthoidncbbcpnnaaGreatDoorChecked
import GoSem.Claim
import GoSem.ClaimJoined
import GoSem.ClaimMapViews
import Derived.JoinedTies
import Derived.KernelRfl
namespace Go.Proofs.YthoidncbbcpnnaaGreatDoor
/- THE CELL 'sum', in the pinned program and in every row, IS THE sha256 OF THE DUMP (.gsa) THAT YthoidncbbcpnnaaGreatDoorProg.lean LOADS. Nothing in Lean hashes anything: it is a label: what it is worth is what the hold of that sum in a sandbox is worth. -/
noncomputable def Tryz.pinned : Pinned := { name := "ythoidncbbcpnnaagreatdoor", sum := "02378cbc0d29a633274de9484420dadafebe38370eaa152c451c39810b9d5bad", checked := Tryz.checked }
namespace Rows
def none {H : Type} : Left H := { results := [], args := [] }

/- WHAT THE LISTED PACKAGE-LEVEL VARIABLES READ AS WHEN THE CALL BEGINS. Each datum BY PROGRAM (the guide's laid-datum.mjs) off the statement by which the dump's own 'gosem.cut.vars' lays the variable. In a bare row this is a premise. The card (YthoidncbbcpnnaaGreatDoorCards.lean) ties it to the program's text. -/
def laid_math_bits_deBruijn32tab {H : Type} : DataW H := .agg [.lit (.int .u8 0), .lit (.int .u8 1), .lit (.int .u8 28), .lit (.int .u8 2), .lit (.int .u8 29), .lit (.int .u8 14), .lit (.int .u8 24), .lit (.int .u8 3), .lit (.int .u8 30), .lit (.int .u8 22), .lit (.int .u8 20), .lit (.int .u8 15), .lit (.int .u8 25), .lit (.int .u8 17), .lit (.int .u8 4), .lit (.int .u8 8), .lit (.int .u8 31), .lit (.int .u8 27), .lit (.int .u8 13), .lit (.int .u8 23), .lit (.int .u8 21), .lit (.int .u8 19), .lit (.int .u8 16), .lit (.int .u8 7), .lit (.int .u8 26), .lit (.int .u8 12), .lit (.int .u8 18), .lit (.int .u8 6), .lit (.int .u8 11), .lit (.int .u8 5), .lit (.int .u8 10), .lit (.int .u8 9)]

/-- 'drosslaw28.FdmineAll': WHATEVER THE INPUT: true; the input reads as it did. -/
def fdmineAllSpec : ChangeSpec := { name := "fdmineAll", fn := fun _ => fun
  | [d] => { results := [.lit (.bool true)], args := [d] }
  | _ => none }
def fdmineAllRow : OpenClaim := { program := "ythoidncbbcpnnaagreatdoor", sum := "02378cbc0d29a633274de9484420dadafebe38370eaa152c451c39810b9d5bad", func := "dross/drosslaw28.FdmineAll", spec := "fdmineAll", inPlace := ["internal/abi.NoEscape"], unfollowed := true, recurses := true, named := ["math/bits.deBruijn32tab"], plainKeys := false, apart := false, laid := [("math/bits.deBruijn32tab", laid_math_bits_deBruijn32tab)] }
def FdmineAllSaid : Prop := fdmineAllRow.holds Tryz.pinned (OpenSpec.ofChange fdmineAllSpec)

/-- ITS FALSE NEIGHBOUR: 'it returns false'. Refute it at one input. -/
def fdmineAllWrong : ChangeSpec := { name := "fdmineAll", fn := fun _ => fun
  | [d] => { results := [.lit (.bool false)], args := [d] }
  | _ => none }
def FdmineAllWrongFalsely : Prop := fdmineAllRow.holds Tryz.pinned (OpenSpec.ofChange fdmineAllWrong)

/-- 'drosslaw28.FdmineBounded': WHATEVER THE INPUT: true; the input reads as it did. -/
def fdmineBoundedSpec : ChangeSpec := { name := "fdmineBounded", fn := fun _ => fun
  | [d1, d2] => { results := [.lit (.bool true)], args := [d1, d2] }
  | _ => none }
def fdmineBoundedRow : OpenClaim := { program := "ythoidncbbcpnnaagreatdoor", sum := "02378cbc0d29a633274de9484420dadafebe38370eaa152c451c39810b9d5bad", func := "dross/drosslaw28.FdmineBounded", spec := "fdmineBounded", inPlace := ["internal/abi.NoEscape"], unfollowed := true, recurses := true, named := ["math/bits.deBruijn32tab"], plainKeys := false, apart := false, laid := [("math/bits.deBruijn32tab", laid_math_bits_deBruijn32tab)] }
def FdmineBoundedSaid : Prop := fdmineBoundedRow.holds Tryz.pinned (OpenSpec.ofChange fdmineBoundedSpec)

/-- ITS FALSE NEIGHBOUR: 'it returns false'. Refute it at one input. -/
def fdmineBoundedWrong : ChangeSpec := { name := "fdmineBounded", fn := fun _ => fun
  | [d1, d2] => { results := [.lit (.bool false)], args := [d1, d2] }
  | _ => none }
def FdmineBoundedWrongFalsely : Prop := fdmineBoundedRow.holds Tryz.pinned (OpenSpec.ofChange fdmineBoundedWrong)

/-- 'drosslaw28.FdmineFor': WHATEVER THE INPUT: true; the input reads as it did. -/
def fdmineForSpec : ChangeSpec := { name := "fdmineFor", fn := fun _ => fun
  | [d1, d2] => { results := [.lit (.bool true)], args := [d1, d2] }
  | _ => none }
def fdmineForRow : OpenClaim := { program := "ythoidncbbcpnnaagreatdoor", sum := "02378cbc0d29a633274de9484420dadafebe38370eaa152c451c39810b9d5bad", func := "dross/drosslaw28.FdmineFor", spec := "fdmineFor", inPlace := ["internal/abi.NoEscape"], unfollowed := true, recurses := true, named := ["math/bits.deBruijn32tab"], plainKeys := false, apart := false, laid := [("math/bits.deBruijn32tab", laid_math_bits_deBruijn32tab)] }
def FdmineForSaid : Prop := fdmineForRow.holds Tryz.pinned (OpenSpec.ofChange fdmineForSpec)

/-- ITS FALSE NEIGHBOUR: 'it returns false'. Refute it at one input. -/
def fdmineForWrong : ChangeSpec := { name := "fdmineFor", fn := fun _ => fun
  | [d1, d2] => { results := [.lit (.bool false)], args := [d1, d2] }
  | _ => none }
def FdmineForWrongFalsely : Prop := fdmineForRow.holds Tryz.pinned (OpenSpec.ofChange fdmineForWrong)

/-- 'drosslaw28.FdmineCheck': WHATEVER THE INPUT: true; the input reads as it did. -/
def fdmineCheckSpec : ChangeSpec := { name := "fdmineCheck", fn := fun _ => fun
  | [d1, d2, d3] => { results := [.lit (.bool true)], args := [d1, d2, d3] }
  | _ => none }
def fdmineCheckRow : OpenClaim := { program := "ythoidncbbcpnnaagreatdoor", sum := "02378cbc0d29a633274de9484420dadafebe38370eaa152c451c39810b9d5bad", func := "dross/drosslaw28.FdmineCheck", spec := "fdmineCheck", inPlace := ["internal/abi.NoEscape"], unfollowed := true, recurses := true, named := ["math/bits.deBruijn32tab"], plainKeys := false, apart := false, laid := [("math/bits.deBruijn32tab", laid_math_bits_deBruijn32tab)] }
def FdmineCheckSaid : Prop := fdmineCheckRow.holds Tryz.pinned (OpenSpec.ofChange fdmineCheckSpec)

/-- ITS FALSE NEIGHBOUR: 'it returns false'. Refute it at one input. -/
def fdmineCheckWrong : ChangeSpec := { name := "fdmineCheck", fn := fun _ => fun
  | [d1, d2, d3] => { results := [.lit (.bool false)], args := [d1, d2, d3] }
  | _ => none }
def FdmineCheckWrongFalsely : Prop := fdmineCheckRow.holds Tryz.pinned (OpenSpec.ofChange fdmineCheckWrong)

/-- 'drosslaw28.FdmineSound': WHATEVER THE INPUT: true; the input reads as it did. -/
def fdmineSoundSpec : ChangeSpec := { name := "fdmineSound", fn := fun _ => fun
  | [d1, d2, d3] => { results := [.lit (.bool true)], args := [d1, d2, d3] }
  | _ => none }
def fdmineSoundRow : OpenClaim := { program := "ythoidncbbcpnnaagreatdoor", sum := "02378cbc0d29a633274de9484420dadafebe38370eaa152c451c39810b9d5bad", func := "dross/drosslaw28.FdmineSound", spec := "fdmineSound", inPlace := ["internal/abi.NoEscape"], unfollowed := true, recurses := true, named := ["math/bits.deBruijn32tab"], plainKeys := false, apart := false, laid := [("math/bits.deBruijn32tab", laid_math_bits_deBruijn32tab)] }
def FdmineSoundSaid : Prop := fdmineSoundRow.holds Tryz.pinned (OpenSpec.ofChange fdmineSoundSpec)

/-- ITS FALSE NEIGHBOUR: 'it returns false'. Refute it at one input. -/
def fdmineSoundWrong : ChangeSpec := { name := "fdmineSound", fn := fun _ => fun
  | [d1, d2, d3] => { results := [.lit (.bool false)], args := [d1, d2, d3] }
  | _ => none }
def FdmineSoundWrongFalsely : Prop := fdmineSoundRow.holds Tryz.pinned (OpenSpec.ofChange fdmineSoundWrong)

/-- 'drosslaw28.FdmineFollows': WHATEVER THE INPUT: true; the input reads as it did. -/
def fdmineFollowsSpec : ChangeSpec := { name := "fdmineFollows", fn := fun _ => fun
  | [d1, d2, d3] => { results := [.lit (.bool true)], args := [d1, d2, d3] }
  | _ => none }
def fdmineFollowsRow : OpenClaim := { program := "ythoidncbbcpnnaagreatdoor", sum := "02378cbc0d29a633274de9484420dadafebe38370eaa152c451c39810b9d5bad", func := "dross/drosslaw28.FdmineFollows", spec := "fdmineFollows", inPlace := ["internal/abi.NoEscape"], unfollowed := true, recurses := true, named := ["math/bits.deBruijn32tab"], plainKeys := false, apart := false, laid := [("math/bits.deBruijn32tab", laid_math_bits_deBruijn32tab)] }
def FdmineFollowsSaid : Prop := fdmineFollowsRow.holds Tryz.pinned (OpenSpec.ofChange fdmineFollowsSpec)

/-- ITS FALSE NEIGHBOUR: 'it returns false'. Refute it at one input. -/
def fdmineFollowsWrong : ChangeSpec := { name := "fdmineFollows", fn := fun _ => fun
  | [d1, d2, d3] => { results := [.lit (.bool false)], args := [d1, d2, d3] }
  | _ => none }
def FdmineFollowsWrongFalsely : Prop := fdmineFollowsRow.holds Tryz.pinned (OpenSpec.ofChange fdmineFollowsWrong)

/-- 'drosslaw28.FdmineCover': WHATEVER THE INPUT: true; the input reads as it did. -/
def fdmineCoverSpec : ChangeSpec := { name := "fdmineCover", fn := fun _ => fun
  | [d] => { results := [.lit (.bool true)], args := [d] }
  | _ => none }
def fdmineCoverRow : OpenClaim := { program := "ythoidncbbcpnnaagreatdoor", sum := "02378cbc0d29a633274de9484420dadafebe38370eaa152c451c39810b9d5bad", func := "dross/drosslaw28.FdmineCover", spec := "fdmineCover", inPlace := ["internal/abi.NoEscape"], unfollowed := true, recurses := true, named := ["math/bits.deBruijn32tab"], plainKeys := false, apart := false, laid := [("math/bits.deBruijn32tab", laid_math_bits_deBruijn32tab)] }
def FdmineCoverSaid : Prop := fdmineCoverRow.holds Tryz.pinned (OpenSpec.ofChange fdmineCoverSpec)

/-- ITS FALSE NEIGHBOUR: 'it returns false'. Refute it at one input. -/
def fdmineCoverWrong : ChangeSpec := { name := "fdmineCover", fn := fun _ => fun
  | [d] => { results := [.lit (.bool false)], args := [d] }
  | _ => none }
def FdmineCoverWrongFalsely : Prop := fdmineCoverRow.holds Tryz.pinned (OpenSpec.ofChange fdmineCoverWrong)

/- THE SECOND FORM. 'bulk': how many values and letters a reading holds, each counted each time it is reached (what is shared counts as often as it is met; a slice's spare places count too). A statement '..UptoSaid' is the law's where the arguments, and the package variables that the reading takes, are together of bulk at most 1048576: NARROWER than '..Said'. Prove '..Said' where nothing that the law and all that it calls make is longer than what came in: it says more and counts as full. Else prove '..UptoSaid'. A law counts once. -/
mutual
def uptoBulk {H : Type} : DataW H → Nat
  | .lit (.string bytes) => bytes.length + 1
  | .lit _ => 1
  | .nil => 1
  | .ptr d => uptoBulk d + 1
  | .slice elems spare => uptoBulkAll elems + uptoBulkAll spare + 1
  | .agg parts => uptoBulkAll parts + 1
  | .iface _ d => uptoBulk d + 1
  | .map entries => uptoBulkEntries entries + 1
  | .held _ => 1
def uptoBulkAll {H : Type} : List (DataW H) → Nat
  | [] => 0
  | d :: r => uptoBulk d + uptoBulkAll r
def uptoBulkEntries {H : Type} : List (Lit × DataW H) → Nat
  | [] => 0
  | x :: r => uptoBulkEntry x + uptoBulkEntries r
def uptoBulkEntry {H : Type} : Lit × DataW H → Nat
  | (.string bytes, d) => bytes.length + uptoBulk d + 1
  | (_, d) => uptoBulk d + 1
 end
def uptoSmall : (H : Type) → List (DataW H) → Bool := fun _ ds => decide (uptoBulkAll ds ≤ 1048576)
def OpenSpec.upto (s : _root_.Go.ChangeSpec) : _root_.Go.OpenSpec := { _root_.Go.OpenSpec.ofChange s with cond := some uptoSmall }

/-- 'drosslaw28.FdmineAll', WHERE WHAT IT READS IS OF BULK AT MOST 1048576: true; the input reads as it did. -/
def fdmineAllUptoRow : OpenClaim := { program := "ythoidncbbcpnnaagreatdoor", sum := "02378cbc0d29a633274de9484420dadafebe38370eaa152c451c39810b9d5bad", func := "dross/drosslaw28.FdmineAll", spec := "fdmineAll", inPlace := ["internal/abi.NoEscape"], unfollowed := true, recurses := true, named := ["math/bits.deBruijn32tab"], plainKeys := false, apart := false, laid := [("math/bits.deBruijn32tab", laid_math_bits_deBruijn32tab)], narrowed := true }
def FdmineAllUptoSaid : Prop := fdmineAllUptoRow.holds Tryz.pinned (OpenSpec.upto fdmineAllSpec)

/-- 'drosslaw28.FdmineBounded', WHERE WHAT IT READS IS OF BULK AT MOST 1048576: true; the input reads as it did. -/
def fdmineBoundedUptoRow : OpenClaim := { program := "ythoidncbbcpnnaagreatdoor", sum := "02378cbc0d29a633274de9484420dadafebe38370eaa152c451c39810b9d5bad", func := "dross/drosslaw28.FdmineBounded", spec := "fdmineBounded", inPlace := ["internal/abi.NoEscape"], unfollowed := true, recurses := true, named := ["math/bits.deBruijn32tab"], plainKeys := false, apart := false, laid := [("math/bits.deBruijn32tab", laid_math_bits_deBruijn32tab)], narrowed := true }
def FdmineBoundedUptoSaid : Prop := fdmineBoundedUptoRow.holds Tryz.pinned (OpenSpec.upto fdmineBoundedSpec)

/-- 'drosslaw28.FdmineFor', WHERE WHAT IT READS IS OF BULK AT MOST 1048576: true; the input reads as it did. -/
def fdmineForUptoRow : OpenClaim := { program := "ythoidncbbcpnnaagreatdoor", sum := "02378cbc0d29a633274de9484420dadafebe38370eaa152c451c39810b9d5bad", func := "dross/drosslaw28.FdmineFor", spec := "fdmineFor", inPlace := ["internal/abi.NoEscape"], unfollowed := true, recurses := true, named := ["math/bits.deBruijn32tab"], plainKeys := false, apart := false, laid := [("math/bits.deBruijn32tab", laid_math_bits_deBruijn32tab)], narrowed := true }
def FdmineForUptoSaid : Prop := fdmineForUptoRow.holds Tryz.pinned (OpenSpec.upto fdmineForSpec)

/-- 'drosslaw28.FdmineCheck', WHERE WHAT IT READS IS OF BULK AT MOST 1048576: true; the input reads as it did. -/
def fdmineCheckUptoRow : OpenClaim := { program := "ythoidncbbcpnnaagreatdoor", sum := "02378cbc0d29a633274de9484420dadafebe38370eaa152c451c39810b9d5bad", func := "dross/drosslaw28.FdmineCheck", spec := "fdmineCheck", inPlace := ["internal/abi.NoEscape"], unfollowed := true, recurses := true, named := ["math/bits.deBruijn32tab"], plainKeys := false, apart := false, laid := [("math/bits.deBruijn32tab", laid_math_bits_deBruijn32tab)], narrowed := true }
def FdmineCheckUptoSaid : Prop := fdmineCheckUptoRow.holds Tryz.pinned (OpenSpec.upto fdmineCheckSpec)

/-- 'drosslaw28.FdmineSound', WHERE WHAT IT READS IS OF BULK AT MOST 1048576: true; the input reads as it did. -/
def fdmineSoundUptoRow : OpenClaim := { program := "ythoidncbbcpnnaagreatdoor", sum := "02378cbc0d29a633274de9484420dadafebe38370eaa152c451c39810b9d5bad", func := "dross/drosslaw28.FdmineSound", spec := "fdmineSound", inPlace := ["internal/abi.NoEscape"], unfollowed := true, recurses := true, named := ["math/bits.deBruijn32tab"], plainKeys := false, apart := false, laid := [("math/bits.deBruijn32tab", laid_math_bits_deBruijn32tab)], narrowed := true }
def FdmineSoundUptoSaid : Prop := fdmineSoundUptoRow.holds Tryz.pinned (OpenSpec.upto fdmineSoundSpec)

/-- 'drosslaw28.FdmineFollows', WHERE WHAT IT READS IS OF BULK AT MOST 1048576: true; the input reads as it did. -/
def fdmineFollowsUptoRow : OpenClaim := { program := "ythoidncbbcpnnaagreatdoor", sum := "02378cbc0d29a633274de9484420dadafebe38370eaa152c451c39810b9d5bad", func := "dross/drosslaw28.FdmineFollows", spec := "fdmineFollows", inPlace := ["internal/abi.NoEscape"], unfollowed := true, recurses := true, named := ["math/bits.deBruijn32tab"], plainKeys := false, apart := false, laid := [("math/bits.deBruijn32tab", laid_math_bits_deBruijn32tab)], narrowed := true }
def FdmineFollowsUptoSaid : Prop := fdmineFollowsUptoRow.holds Tryz.pinned (OpenSpec.upto fdmineFollowsSpec)

/-- 'drosslaw28.FdmineCover', WHERE WHAT IT READS IS OF BULK AT MOST 1048576: true; the input reads as it did. -/
def fdmineCoverUptoRow : OpenClaim := { program := "ythoidncbbcpnnaagreatdoor", sum := "02378cbc0d29a633274de9484420dadafebe38370eaa152c451c39810b9d5bad", func := "dross/drosslaw28.FdmineCover", spec := "fdmineCover", inPlace := ["internal/abi.NoEscape"], unfollowed := true, recurses := true, named := ["math/bits.deBruijn32tab"], plainKeys := false, apart := false, laid := [("math/bits.deBruijn32tab", laid_math_bits_deBruijn32tab)], narrowed := true }
def FdmineCoverUptoSaid : Prop := fdmineCoverUptoRow.holds Tryz.pinned (OpenSpec.upto fdmineCoverSpec)

end Rows
end Go.Proofs.YthoidncbbcpnnaaGreatDoor
