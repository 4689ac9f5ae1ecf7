/-
  NARROWER THAN 'FOR EVERY INPUT', by the rows' own cells (each row's printed sentence says how): PreserveProject: laid · PreserveWithin: laid · PreserveKept: laid · PreserveLost: laid · PreserveUnion: laid · PreserveMore: laid · PreserveTraced: laid.
  DERIVED. THE GIVEN ROWS OF THIS SEAT. 7 by the template 'for every input the law returns true; each argument reads behind the call as it read before'; 0 by the template 'total and deterministic' (their statements: YtciamnkalmihcaaDoorTotals.lean).
  GIVEN WITH THE SEED: the statements are not yours to turn. If you find one false, say at which input.
  Laid BY PROGRAM, IN A SANDBOX (cutbox-rows.mjs): the forced cells as the released guide's own fill.sh prints them over the translation 868a9efbf8056c34… (all of the seat's roots in one cut). By AI agents, Wed Nov 11 2026. No macro, syntax, notation, axiom, sorry.
-/
import Derived.Test.YtciamnkalmihcaaDoorChecked
import GoSem.Claim
import GoSem.ClaimJoined
import GoSem.ClaimMapViews
import Derived.JoinedTies
import Derived.KernelRfl
namespace Go.Proofs.YtciamnkalmihcaaDoor
/- THE CELL 'sum', in the pinned program and in every row, IS THE sha256 OF THE DUMP (.gsa) THAT YtciamnkalmihcaaDoorProg.lean LOADS. Nothing in Lean hashes anything: it is a label: what it is worth is what the hold of that sum in a sandbox is worth. -/
noncomputable def Tryd.pinned : Pinned := { name := "ytciamnkalmihcaadoor", sum := "868a9efbf8056c349169bc43c69132c0186b8004a0d57984758209edbfba3249", checked := Tryd.checked }
namespace Rows
def none {H : Type} : Left H := { results := [], args := [] }

/- WHAT THE LISTED PACKAGE-LEVEL VARIABLES READ AS WHEN THE CALL BEGINS. Each datum BY PROGRAM (the guide's laid-datum.mjs) off the statement by which the dump's own 'gosem.cut.vars' lays the variable. In a bare row this is a premise. The card (YtciamnkalmihcaaDoorCards.lean) ties it to the program's text. -/
def laid_math_bits_deBruijn32tab {H : Type} : DataW H := .agg [.lit (.int .u8 0), .lit (.int .u8 1), .lit (.int .u8 28), .lit (.int .u8 2), .lit (.int .u8 29), .lit (.int .u8 14), .lit (.int .u8 24), .lit (.int .u8 3), .lit (.int .u8 30), .lit (.int .u8 22), .lit (.int .u8 20), .lit (.int .u8 15), .lit (.int .u8 25), .lit (.int .u8 17), .lit (.int .u8 4), .lit (.int .u8 8), .lit (.int .u8 31), .lit (.int .u8 27), .lit (.int .u8 13), .lit (.int .u8 23), .lit (.int .u8 21), .lit (.int .u8 19), .lit (.int .u8 16), .lit (.int .u8 7), .lit (.int .u8 26), .lit (.int .u8 12), .lit (.int .u8 18), .lit (.int .u8 6), .lit (.int .u8 11), .lit (.int .u8 5), .lit (.int .u8 10), .lit (.int .u8 9)]

/-- 'drosslaw22.PreserveProject': WHATEVER THE INPUT: true; the input reads as it did. -/
def preserveProjectSpec : ChangeSpec := { name := "preserveProject", fn := fun _ => fun
  | [d1, d2] => { results := [.lit (.bool true)], args := [d1, d2] }
  | _ => none }
def preserveProjectRow : OpenClaim := { program := "ytciamnkalmihcaadoor", sum := "868a9efbf8056c349169bc43c69132c0186b8004a0d57984758209edbfba3249", func := "dross/drosslaw22.PreserveProject", spec := "preserveProject", unfollowed := true, recurses := true, named := ["math/bits.deBruijn32tab"], apart := false, laid := [("math/bits.deBruijn32tab", laid_math_bits_deBruijn32tab)] }
def PreserveProjectSaid : Prop := preserveProjectRow.holds Tryd.pinned (OpenSpec.ofChange preserveProjectSpec)

/-- ITS FALSE NEIGHBOUR: 'it returns false'. Refute it at one input. -/
def preserveProjectWrong : ChangeSpec := { name := "preserveProject", fn := fun _ => fun
  | [d1, d2] => { results := [.lit (.bool false)], args := [d1, d2] }
  | _ => none }
def PreserveProjectWrongFalsely : Prop := preserveProjectRow.holds Tryd.pinned (OpenSpec.ofChange preserveProjectWrong)

/-- 'drosslaw22.PreserveWithin': WHATEVER THE INPUT: true; the input reads as it did. -/
def preserveWithinSpec : ChangeSpec := { name := "preserveWithin", fn := fun _ => fun
  | [d1, d2, d3] => { results := [.lit (.bool true)], args := [d1, d2, d3] }
  | _ => none }
def preserveWithinRow : OpenClaim := { program := "ytciamnkalmihcaadoor", sum := "868a9efbf8056c349169bc43c69132c0186b8004a0d57984758209edbfba3249", func := "dross/drosslaw22.PreserveWithin", spec := "preserveWithin", unfollowed := true, recurses := true, named := ["math/bits.deBruijn32tab"], apart := false, laid := [("math/bits.deBruijn32tab", laid_math_bits_deBruijn32tab)] }
def PreserveWithinSaid : Prop := preserveWithinRow.holds Tryd.pinned (OpenSpec.ofChange preserveWithinSpec)

/-- ITS FALSE NEIGHBOUR: 'it returns false'. Refute it at one input. -/
def preserveWithinWrong : ChangeSpec := { name := "preserveWithin", fn := fun _ => fun
  | [d1, d2, d3] => { results := [.lit (.bool false)], args := [d1, d2, d3] }
  | _ => none }
def PreserveWithinWrongFalsely : Prop := preserveWithinRow.holds Tryd.pinned (OpenSpec.ofChange preserveWithinWrong)

/-- 'drosslaw22.PreserveKept': WHATEVER THE INPUT: true; the input reads as it did. -/
def preserveKeptSpec : ChangeSpec := { name := "preserveKept", fn := fun _ => fun
  | [d1, d2, d3] => { results := [.lit (.bool true)], args := [d1, d2, d3] }
  | _ => none }
def preserveKeptRow : OpenClaim := { program := "ytciamnkalmihcaadoor", sum := "868a9efbf8056c349169bc43c69132c0186b8004a0d57984758209edbfba3249", func := "dross/drosslaw22.PreserveKept", spec := "preserveKept", unfollowed := true, recurses := true, named := ["math/bits.deBruijn32tab"], apart := false, laid := [("math/bits.deBruijn32tab", laid_math_bits_deBruijn32tab)] }
def PreserveKeptSaid : Prop := preserveKeptRow.holds Tryd.pinned (OpenSpec.ofChange preserveKeptSpec)

/-- ITS FALSE NEIGHBOUR: 'it returns false'. Refute it at one input. -/
def preserveKeptWrong : ChangeSpec := { name := "preserveKept", fn := fun _ => fun
  | [d1, d2, d3] => { results := [.lit (.bool false)], args := [d1, d2, d3] }
  | _ => none }
def PreserveKeptWrongFalsely : Prop := preserveKeptRow.holds Tryd.pinned (OpenSpec.ofChange preserveKeptWrong)

/-- 'drosslaw22.PreserveLost': WHATEVER THE INPUT: true; the input reads as it did. -/
def preserveLostSpec : ChangeSpec := { name := "preserveLost", fn := fun _ => fun
  | [d1, d2] => { results := [.lit (.bool true)], args := [d1, d2] }
  | _ => none }
def preserveLostRow : OpenClaim := { program := "ytciamnkalmihcaadoor", sum := "868a9efbf8056c349169bc43c69132c0186b8004a0d57984758209edbfba3249", func := "dross/drosslaw22.PreserveLost", spec := "preserveLost", unfollowed := true, recurses := true, named := ["math/bits.deBruijn32tab"], apart := false, laid := [("math/bits.deBruijn32tab", laid_math_bits_deBruijn32tab)] }
def PreserveLostSaid : Prop := preserveLostRow.holds Tryd.pinned (OpenSpec.ofChange preserveLostSpec)

/-- ITS FALSE NEIGHBOUR: 'it returns false'. Refute it at one input. -/
def preserveLostWrong : ChangeSpec := { name := "preserveLost", fn := fun _ => fun
  | [d1, d2] => { results := [.lit (.bool false)], args := [d1, d2] }
  | _ => none }
def PreserveLostWrongFalsely : Prop := preserveLostRow.holds Tryd.pinned (OpenSpec.ofChange preserveLostWrong)

/-- 'drosslaw22.PreserveUnion': WHATEVER THE INPUT: true; the input reads as it did. -/
def preserveUnionSpec : ChangeSpec := { name := "preserveUnion", fn := fun _ => fun
  | [d1, d2, d3] => { results := [.lit (.bool true)], args := [d1, d2, d3] }
  | _ => none }
def preserveUnionRow : OpenClaim := { program := "ytciamnkalmihcaadoor", sum := "868a9efbf8056c349169bc43c69132c0186b8004a0d57984758209edbfba3249", func := "dross/drosslaw22.PreserveUnion", spec := "preserveUnion", unfollowed := true, recurses := true, named := ["math/bits.deBruijn32tab"], apart := false, laid := [("math/bits.deBruijn32tab", laid_math_bits_deBruijn32tab)] }
def PreserveUnionSaid : Prop := preserveUnionRow.holds Tryd.pinned (OpenSpec.ofChange preserveUnionSpec)

/-- ITS FALSE NEIGHBOUR: 'it returns false'. Refute it at one input. -/
def preserveUnionWrong : ChangeSpec := { name := "preserveUnion", fn := fun _ => fun
  | [d1, d2, d3] => { results := [.lit (.bool false)], args := [d1, d2, d3] }
  | _ => none }
def PreserveUnionWrongFalsely : Prop := preserveUnionRow.holds Tryd.pinned (OpenSpec.ofChange preserveUnionWrong)

/-- 'drosslaw22.PreserveMore': WHATEVER THE INPUT: true; the input reads as it did. -/
def preserveMoreSpec : ChangeSpec := { name := "preserveMore", fn := fun _ => fun
  | [d1, d2, d3] => { results := [.lit (.bool true)], args := [d1, d2, d3] }
  | _ => none }
def preserveMoreRow : OpenClaim := { program := "ytciamnkalmihcaadoor", sum := "868a9efbf8056c349169bc43c69132c0186b8004a0d57984758209edbfba3249", func := "dross/drosslaw22.PreserveMore", spec := "preserveMore", unfollowed := true, recurses := true, named := ["math/bits.deBruijn32tab"], apart := false, laid := [("math/bits.deBruijn32tab", laid_math_bits_deBruijn32tab)] }
def PreserveMoreSaid : Prop := preserveMoreRow.holds Tryd.pinned (OpenSpec.ofChange preserveMoreSpec)

/-- ITS FALSE NEIGHBOUR: 'it returns false'. Refute it at one input. -/
def preserveMoreWrong : ChangeSpec := { name := "preserveMore", fn := fun _ => fun
  | [d1, d2, d3] => { results := [.lit (.bool false)], args := [d1, d2, d3] }
  | _ => none }
def PreserveMoreWrongFalsely : Prop := preserveMoreRow.holds Tryd.pinned (OpenSpec.ofChange preserveMoreWrong)

/-- 'drosslaw22.PreserveTraced': WHATEVER THE INPUT: true; the input reads as it did. -/
def preserveTracedSpec : ChangeSpec := { name := "preserveTraced", fn := fun _ => fun
  | [d1, d2, d3] => { results := [.lit (.bool true)], args := [d1, d2, d3] }
  | _ => none }
def preserveTracedRow : OpenClaim := { program := "ytciamnkalmihcaadoor", sum := "868a9efbf8056c349169bc43c69132c0186b8004a0d57984758209edbfba3249", func := "dross/drosslaw22.PreserveTraced", spec := "preserveTraced", unfollowed := true, recurses := true, named := ["math/bits.deBruijn32tab"], apart := false, laid := [("math/bits.deBruijn32tab", laid_math_bits_deBruijn32tab)] }
def PreserveTracedSaid : Prop := preserveTracedRow.holds Tryd.pinned (OpenSpec.ofChange preserveTracedSpec)

/-- ITS FALSE NEIGHBOUR: 'it returns false'. Refute it at one input. -/
def preserveTracedWrong : ChangeSpec := { name := "preserveTraced", fn := fun _ => fun
  | [d1, d2, d3] => { results := [.lit (.bool false)], args := [d1, d2, d3] }
  | _ => none }
def PreserveTracedWrongFalsely : Prop := preserveTracedRow.holds Tryd.pinned (OpenSpec.ofChange preserveTracedWrong)

/- THE SECOND FORM. 'bulk': how many values and letters a reading holds, each counted each time it is reached (what is shared counts as often as it is met; a slice's spare places count too). A statement '..UptoSaid' is the law's where the arguments, and the package variables that the reading takes, are together of bulk at most 1048576: NARROWER than '..Said'. Prove '..Said' where nothing that the law and all that it calls make is longer than what came in: it says more and counts as full. Else prove '..UptoSaid'. A law counts once. -/
mutual
def uptoBulk {H : Type} : DataW H → Nat
  | .lit (.string bytes) => bytes.length + 1
  | .lit _ => 1
  | .nil => 1
  | .ptr d => uptoBulk d + 1
  | .slice elems spare => uptoBulkAll elems + uptoBulkAll spare + 1
  | .agg parts => uptoBulkAll parts + 1
  | .iface _ d => uptoBulk d + 1
  | .map entries => uptoBulkEntries entries + 1
  | .held _ => 1
def uptoBulkAll {H : Type} : List (DataW H) → Nat
  | [] => 0
  | d :: r => uptoBulk d + uptoBulkAll r
def uptoBulkEntries {H : Type} : List (Lit × DataW H) → Nat
  | [] => 0
  | x :: r => uptoBulkEntry x + uptoBulkEntries r
def uptoBulkEntry {H : Type} : Lit × DataW H → Nat
  | (.string bytes, d) => bytes.length + uptoBulk d + 1
  | (_, d) => uptoBulk d + 1
 end
def uptoSmall : (H : Type) → List (DataW H) → Bool := fun _ ds => decide (uptoBulkAll ds ≤ 1048576)
def OpenSpec.upto (s : _root_.Go.ChangeSpec) : _root_.Go.OpenSpec := { _root_.Go.OpenSpec.ofChange s with cond := some uptoSmall }

/-- 'drosslaw22.PreserveProject', WHERE WHAT IT READS IS OF BULK AT MOST 1048576: true; the input reads as it did. -/
def preserveProjectUptoRow : OpenClaim := { program := "ytciamnkalmihcaadoor", sum := "868a9efbf8056c349169bc43c69132c0186b8004a0d57984758209edbfba3249", func := "dross/drosslaw22.PreserveProject", spec := "preserveProject", unfollowed := true, recurses := true, named := ["math/bits.deBruijn32tab"], apart := false, laid := [("math/bits.deBruijn32tab", laid_math_bits_deBruijn32tab)], narrowed := true }
def PreserveProjectUptoSaid : Prop := preserveProjectUptoRow.holds Tryd.pinned (OpenSpec.upto preserveProjectSpec)

/-- 'drosslaw22.PreserveWithin', WHERE WHAT IT READS IS OF BULK AT MOST 1048576: true; the input reads as it did. -/
def preserveWithinUptoRow : OpenClaim := { program := "ytciamnkalmihcaadoor", sum := "868a9efbf8056c349169bc43c69132c0186b8004a0d57984758209edbfba3249", func := "dross/drosslaw22.PreserveWithin", spec := "preserveWithin", unfollowed := true, recurses := true, named := ["math/bits.deBruijn32tab"], apart := false, laid := [("math/bits.deBruijn32tab", laid_math_bits_deBruijn32tab)], narrowed := true }
def PreserveWithinUptoSaid : Prop := preserveWithinUptoRow.holds Tryd.pinned (OpenSpec.upto preserveWithinSpec)

/-- 'drosslaw22.PreserveKept', WHERE WHAT IT READS IS OF BULK AT MOST 1048576: true; the input reads as it did. -/
def preserveKeptUptoRow : OpenClaim := { program := "ytciamnkalmihcaadoor", sum := "868a9efbf8056c349169bc43c69132c0186b8004a0d57984758209edbfba3249", func := "dross/drosslaw22.PreserveKept", spec := "preserveKept", unfollowed := true, recurses := true, named := ["math/bits.deBruijn32tab"], apart := false, laid := [("math/bits.deBruijn32tab", laid_math_bits_deBruijn32tab)], narrowed := true }
def PreserveKeptUptoSaid : Prop := preserveKeptUptoRow.holds Tryd.pinned (OpenSpec.upto preserveKeptSpec)

/-- 'drosslaw22.PreserveLost', WHERE WHAT IT READS IS OF BULK AT MOST 1048576: true; the input reads as it did. -/
def preserveLostUptoRow : OpenClaim := { program := "ytciamnkalmihcaadoor", sum := "868a9efbf8056c349169bc43c69132c0186b8004a0d57984758209edbfba3249", func := "dross/drosslaw22.PreserveLost", spec := "preserveLost", unfollowed := true, recurses := true, named := ["math/bits.deBruijn32tab"], apart := false, laid := [("math/bits.deBruijn32tab", laid_math_bits_deBruijn32tab)], narrowed := true }
def PreserveLostUptoSaid : Prop := preserveLostUptoRow.holds Tryd.pinned (OpenSpec.upto preserveLostSpec)

/-- 'drosslaw22.PreserveUnion', WHERE WHAT IT READS IS OF BULK AT MOST 1048576: true; the input reads as it did. -/
def preserveUnionUptoRow : OpenClaim := { program := "ytciamnkalmihcaadoor", sum := "868a9efbf8056c349169bc43c69132c0186b8004a0d57984758209edbfba3249", func := "dross/drosslaw22.PreserveUnion", spec := "preserveUnion", unfollowed := true, recurses := true, named := ["math/bits.deBruijn32tab"], apart := false, laid := [("math/bits.deBruijn32tab", laid_math_bits_deBruijn32tab)], narrowed := true }
def PreserveUnionUptoSaid : Prop := preserveUnionUptoRow.holds Tryd.pinned (OpenSpec.upto preserveUnionSpec)

/-- 'drosslaw22.PreserveMore', WHERE WHAT IT READS IS OF BULK AT MOST 1048576: true; the input reads as it did. -/
def preserveMoreUptoRow : OpenClaim := { program := "ytciamnkalmihcaadoor", sum := "868a9efbf8056c349169bc43c69132c0186b8004a0d57984758209edbfba3249", func := "dross/drosslaw22.PreserveMore", spec := "preserveMore", unfollowed := true, recurses := true, named := ["math/bits.deBruijn32tab"], apart := false, laid := [("math/bits.deBruijn32tab", laid_math_bits_deBruijn32tab)], narrowed := true }
def PreserveMoreUptoSaid : Prop := preserveMoreUptoRow.holds Tryd.pinned (OpenSpec.upto preserveMoreSpec)

/-- 'drosslaw22.PreserveTraced', WHERE WHAT IT READS IS OF BULK AT MOST 1048576: true; the input reads as it did. -/
def preserveTracedUptoRow : OpenClaim := { program := "ytciamnkalmihcaadoor", sum := "868a9efbf8056c349169bc43c69132c0186b8004a0d57984758209edbfba3249", func := "dross/drosslaw22.PreserveTraced", spec := "preserveTraced", unfollowed := true, recurses := true, named := ["math/bits.deBruijn32tab"], apart := false, laid := [("math/bits.deBruijn32tab", laid_math_bits_deBruijn32tab)], narrowed := true }
def PreserveTracedUptoSaid : Prop := preserveTracedUptoRow.holds Tryd.pinned (OpenSpec.upto preserveTracedSpec)

end Rows
end Go.Proofs.YtciamnkalmihcaaDoor
