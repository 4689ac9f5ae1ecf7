/-
  NARROWER THAN 'FOR EVERY INPUT', by the rows' own cells (each row's printed sentence says how): KeymineCovers: laid · KeymineLess: laid · KeymineErrors: laid.
  DERIVED. THE GIVEN ROWS OF THIS SEAT. 3 by the template 'for every input the law returns true; each argument reads behind the call as it read before'; 0 by the template 'total and deterministic' (their statements: YtkbegpnchamgkaaDoorTotals.lean).
  GIVEN WITH THE SEED: the statements are not yours to turn. If you find one false, say at which input.
  Laid BY PROGRAM, IN A SANDBOX (cutbox-rows.mjs): the forced cells as the released guide's own fill.sh prints them over the translation 03cfe5db6ad38c8e… (all of the seat's roots in one cut). By AI agents, Wed Nov 11 2026. No macro, syntax, notation, axiom, sorry.
-/
import Derived.Test.YtkbegpnchamgkaaDoorChecked
import GoSem.Claim
import GoSem.ClaimJoined
import GoSem.ClaimMapViews
import Derived.JoinedTies
import Derived.KernelRfl
namespace Go.Proofs.YtkbegpnchamgkaaDoor
/- THE CELL 'sum', in the pinned program and in every row, IS THE sha256 OF THE DUMP (.gsa) THAT YtkbegpnchamgkaaDoorProg.lean LOADS. Nothing in Lean hashes anything: it is a label: what it is worth is what the hold of that sum in a sandbox is worth. -/
noncomputable def Tryd.pinned : Pinned := { name := "ytkbegpnchamgkaadoor", sum := "03cfe5db6ad38c8ede30981973e20348aaaaace289a0b9c83582f736daa4526f", checked := Tryd.checked }
namespace Rows
def none {H : Type} : Left H := { results := [], args := [] }

/- WHAT THE LISTED PACKAGE-LEVEL VARIABLES READ AS WHEN THE CALL BEGINS. Each datum BY PROGRAM (the guide's laid-datum.mjs) off the statement by which the dump's own 'gosem.cut.vars' lays the variable. In a bare row this is a premise. The card (YtkbegpnchamgkaaDoorCards.lean) ties it to the program's text. -/
def laid_math_bits_deBruijn32tab {H : Type} : DataW H := .agg [.lit (.int .u8 0), .lit (.int .u8 1), .lit (.int .u8 28), .lit (.int .u8 2), .lit (.int .u8 29), .lit (.int .u8 14), .lit (.int .u8 24), .lit (.int .u8 3), .lit (.int .u8 30), .lit (.int .u8 22), .lit (.int .u8 20), .lit (.int .u8 15), .lit (.int .u8 25), .lit (.int .u8 17), .lit (.int .u8 4), .lit (.int .u8 8), .lit (.int .u8 31), .lit (.int .u8 27), .lit (.int .u8 13), .lit (.int .u8 23), .lit (.int .u8 21), .lit (.int .u8 19), .lit (.int .u8 16), .lit (.int .u8 7), .lit (.int .u8 26), .lit (.int .u8 12), .lit (.int .u8 18), .lit (.int .u8 6), .lit (.int .u8 11), .lit (.int .u8 5), .lit (.int .u8 10), .lit (.int .u8 9)]

/-- 'drosslaw29.KeymineCovers': WHATEVER THE INPUT: true; the input reads as it did. -/
def keymineCoversSpec : ChangeSpec := { name := "keymineCovers", fn := fun _ => fun
  | [d1, d2] => { results := [.lit (.bool true)], args := [d1, d2] }
  | _ => none }
def keymineCoversRow : OpenClaim := { program := "ytkbegpnchamgkaadoor", sum := "03cfe5db6ad38c8ede30981973e20348aaaaace289a0b9c83582f736daa4526f", func := "dross/drosslaw29.KeymineCovers", spec := "keymineCovers", inPlace := ["internal/bytealg.abigen_runtime_cmpstring"], unfollowed := true, recurses := true, named := ["math/bits.deBruijn32tab"], apart := false, laid := [("math/bits.deBruijn32tab", laid_math_bits_deBruijn32tab)] }
def KeymineCoversSaid : Prop := keymineCoversRow.holds Tryd.pinned (OpenSpec.ofChange keymineCoversSpec)

/-- ITS FALSE NEIGHBOUR: 'it returns false'. Refute it at one input. -/
def keymineCoversWrong : ChangeSpec := { name := "keymineCovers", fn := fun _ => fun
  | [d1, d2] => { results := [.lit (.bool false)], args := [d1, d2] }
  | _ => none }
def KeymineCoversWrongFalsely : Prop := keymineCoversRow.holds Tryd.pinned (OpenSpec.ofChange keymineCoversWrong)

/-- 'drosslaw29.KeymineLess': WHATEVER THE INPUT: true; the input reads as it did. -/
def keymineLessSpec : ChangeSpec := { name := "keymineLess", fn := fun _ => fun
  | [d1, d2, d3] => { results := [.lit (.bool true)], args := [d1, d2, d3] }
  | _ => none }
def keymineLessRow : OpenClaim := { program := "ytkbegpnchamgkaadoor", sum := "03cfe5db6ad38c8ede30981973e20348aaaaace289a0b9c83582f736daa4526f", func := "dross/drosslaw29.KeymineLess", spec := "keymineLess", inPlace := ["internal/bytealg.abigen_runtime_cmpstring"], unfollowed := true, recurses := true, named := ["math/bits.deBruijn32tab"], apart := false, laid := [("math/bits.deBruijn32tab", laid_math_bits_deBruijn32tab)] }
def KeymineLessSaid : Prop := keymineLessRow.holds Tryd.pinned (OpenSpec.ofChange keymineLessSpec)

/-- ITS FALSE NEIGHBOUR: 'it returns false'. Refute it at one input. -/
def keymineLessWrong : ChangeSpec := { name := "keymineLess", fn := fun _ => fun
  | [d1, d2, d3] => { results := [.lit (.bool false)], args := [d1, d2, d3] }
  | _ => none }
def KeymineLessWrongFalsely : Prop := keymineLessRow.holds Tryd.pinned (OpenSpec.ofChange keymineLessWrong)

/-- 'drosslaw29.KeymineErrors': WHATEVER THE INPUT: true; the input reads as it did. -/
def keymineErrorsSpec : ChangeSpec := { name := "keymineErrors", fn := fun _ => fun
  | [d1, d2] => { results := [.lit (.bool true)], args := [d1, d2] }
  | _ => none }
def keymineErrorsRow : OpenClaim := { program := "ytkbegpnchamgkaadoor", sum := "03cfe5db6ad38c8ede30981973e20348aaaaace289a0b9c83582f736daa4526f", func := "dross/drosslaw29.KeymineErrors", spec := "keymineErrors", inPlace := ["internal/bytealg.abigen_runtime_cmpstring"], unfollowed := true, recurses := true, named := ["math/bits.deBruijn32tab"], apart := false, laid := [("math/bits.deBruijn32tab", laid_math_bits_deBruijn32tab)] }
def KeymineErrorsSaid : Prop := keymineErrorsRow.holds Tryd.pinned (OpenSpec.ofChange keymineErrorsSpec)

/-- ITS FALSE NEIGHBOUR: 'it returns false'. Refute it at one input. -/
def keymineErrorsWrong : ChangeSpec := { name := "keymineErrors", fn := fun _ => fun
  | [d1, d2] => { results := [.lit (.bool false)], args := [d1, d2] }
  | _ => none }
def KeymineErrorsWrongFalsely : Prop := keymineErrorsRow.holds Tryd.pinned (OpenSpec.ofChange keymineErrorsWrong)

/- THE SECOND FORM. 'bulk': how many values and letters a reading holds, each counted each time it is reached (what is shared counts as often as it is met; a slice's spare places count too). A statement '..UptoSaid' is the law's where the arguments, and the package variables that the reading takes, are together of bulk at most 1048576: NARROWER than '..Said'. Prove '..Said' where nothing that the law and all that it calls make is longer than what came in: it says more and counts as full. Else prove '..UptoSaid'. A law counts once. -/
mutual
def uptoBulk {H : Type} : DataW H → Nat
  | .lit (.string bytes) => bytes.length + 1
  | .lit _ => 1
  | .nil => 1
  | .ptr d => uptoBulk d + 1
  | .slice elems spare => uptoBulkAll elems + uptoBulkAll spare + 1
  | .agg parts => uptoBulkAll parts + 1
  | .iface _ d => uptoBulk d + 1
  | .map entries => uptoBulkEntries entries + 1
  | .held _ => 1
def uptoBulkAll {H : Type} : List (DataW H) → Nat
  | [] => 0
  | d :: r => uptoBulk d + uptoBulkAll r
def uptoBulkEntries {H : Type} : List (Lit × DataW H) → Nat
  | [] => 0
  | x :: r => uptoBulkEntry x + uptoBulkEntries r
def uptoBulkEntry {H : Type} : Lit × DataW H → Nat
  | (.string bytes, d) => bytes.length + uptoBulk d + 1
  | (_, d) => uptoBulk d + 1
 end
def uptoSmall : (H : Type) → List (DataW H) → Bool := fun _ ds => decide (uptoBulkAll ds ≤ 1048576)
def OpenSpec.upto (s : _root_.Go.ChangeSpec) : _root_.Go.OpenSpec := { _root_.Go.OpenSpec.ofChange s with cond := some uptoSmall }

/-- 'drosslaw29.KeymineCovers', WHERE WHAT IT READS IS OF BULK AT MOST 1048576: true; the input reads as it did. -/
def keymineCoversUptoRow : OpenClaim := { program := "ytkbegpnchamgkaadoor", sum := "03cfe5db6ad38c8ede30981973e20348aaaaace289a0b9c83582f736daa4526f", func := "dross/drosslaw29.KeymineCovers", spec := "keymineCovers", inPlace := ["internal/bytealg.abigen_runtime_cmpstring"], unfollowed := true, recurses := true, named := ["math/bits.deBruijn32tab"], apart := false, laid := [("math/bits.deBruijn32tab", laid_math_bits_deBruijn32tab)], narrowed := true }
def KeymineCoversUptoSaid : Prop := keymineCoversUptoRow.holds Tryd.pinned (OpenSpec.upto keymineCoversSpec)

/-- 'drosslaw29.KeymineLess', WHERE WHAT IT READS IS OF BULK AT MOST 1048576: true; the input reads as it did. -/
def keymineLessUptoRow : OpenClaim := { program := "ytkbegpnchamgkaadoor", sum := "03cfe5db6ad38c8ede30981973e20348aaaaace289a0b9c83582f736daa4526f", func := "dross/drosslaw29.KeymineLess", spec := "keymineLess", inPlace := ["internal/bytealg.abigen_runtime_cmpstring"], unfollowed := true, recurses := true, named := ["math/bits.deBruijn32tab"], apart := false, laid := [("math/bits.deBruijn32tab", laid_math_bits_deBruijn32tab)], narrowed := true }
def KeymineLessUptoSaid : Prop := keymineLessUptoRow.holds Tryd.pinned (OpenSpec.upto keymineLessSpec)

/-- 'drosslaw29.KeymineErrors', WHERE WHAT IT READS IS OF BULK AT MOST 1048576: true; the input reads as it did. -/
def keymineErrorsUptoRow : OpenClaim := { program := "ytkbegpnchamgkaadoor", sum := "03cfe5db6ad38c8ede30981973e20348aaaaace289a0b9c83582f736daa4526f", func := "dross/drosslaw29.KeymineErrors", spec := "keymineErrors", inPlace := ["internal/bytealg.abigen_runtime_cmpstring"], unfollowed := true, recurses := true, named := ["math/bits.deBruijn32tab"], apart := false, laid := [("math/bits.deBruijn32tab", laid_math_bits_deBruijn32tab)], narrowed := true }
def KeymineErrorsUptoSaid : Prop := keymineErrorsUptoRow.holds Tryd.pinned (OpenSpec.upto keymineErrorsSpec)

end Rows
end Go.Proofs.YtkbegpnchamgkaaDoor
