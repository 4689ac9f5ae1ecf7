/-
  NARROWER THAN 'FOR EVERY INPUT', by the rows' own cells (each row's printed sentence says how): CoverSplit: laid · CoverMinimal: laid · CoverAgain: laid · CoverLess: laid · CoverRedundant: laid · CoverExtraneous: laid · PreserveProject: laid · PreserveWithin: laid · PreserveKept: laid · PreserveLost: laid · PreserveUnion: laid · PreserveMore: laid · PreserveTraced: laid · CoverEquivalent: laid · CoverIsMinimal: laid.
  DERIVED. THE GIVEN ROWS OF THIS SEAT. 15 by the template 'for every input the law returns true; each argument reads behind the call as it read before'; 0 by the template 'total and deterministic' (their statements: YtmlbmdcmedglaaaDoorTotals.lean).
  GIVEN WITH THE SEED: the statements are not yours to turn. If you find one false, say at which input.
  Laid BY PROGRAM, IN A SANDBOX (cutbox-rows.mjs): the forced cells as the released guide's own fill.sh prints them over the translation 2bb64637528e856c… (all of the seat's roots in one cut). By AI agents, Wed Nov 11 2026. No macro, syntax, notation, axiom, sorry.
-/
import Derived.Test.YtmlbmdcmedglaaaDoorChecked
import GoSem.Claim
import GoSem.ClaimJoined
import GoSem.ClaimMapViews
import Derived.JoinedTies
import Derived.KernelRfl
namespace Go.Proofs.YtmlbmdcmedglaaaDoor
/- THE CELL 'sum', in the pinned program and in every row, IS THE sha256 OF THE DUMP (.gsa) THAT YtmlbmdcmedglaaaDoorProg.lean LOADS. Nothing in Lean hashes anything: it is a label: what it is worth is what the hold of that sum in a sandbox is worth. -/
noncomputable def Tryd.pinned : Pinned := { name := "ytmlbmdcmedglaaadoor", sum := "2bb64637528e856ce86e844543215ab32a29ac2c08afa78801fafea1f8685f30", checked := Tryd.checked }
namespace Rows
def none {H : Type} : Left H := { results := [], args := [] }

/- WHAT THE LISTED PACKAGE-LEVEL VARIABLES READ AS WHEN THE CALL BEGINS. Each datum BY PROGRAM (the guide's laid-datum.mjs) off the statement by which the dump's own 'gosem.cut.vars' lays the variable. In a bare row this is a premise. The card (YtmlbmdcmedglaaaDoorCards.lean) ties it to the program's text. -/
def laid_math_bits_deBruijn32tab {H : Type} : DataW H := .agg [.lit (.int .u8 0), .lit (.int .u8 1), .lit (.int .u8 28), .lit (.int .u8 2), .lit (.int .u8 29), .lit (.int .u8 14), .lit (.int .u8 24), .lit (.int .u8 3), .lit (.int .u8 30), .lit (.int .u8 22), .lit (.int .u8 20), .lit (.int .u8 15), .lit (.int .u8 25), .lit (.int .u8 17), .lit (.int .u8 4), .lit (.int .u8 8), .lit (.int .u8 31), .lit (.int .u8 27), .lit (.int .u8 13), .lit (.int .u8 23), .lit (.int .u8 21), .lit (.int .u8 19), .lit (.int .u8 16), .lit (.int .u8 7), .lit (.int .u8 26), .lit (.int .u8 12), .lit (.int .u8 18), .lit (.int .u8 6), .lit (.int .u8 11), .lit (.int .u8 5), .lit (.int .u8 10), .lit (.int .u8 9)]

/-- 'drosslaw10.CoverSplit': WHATEVER THE INPUT: true; the input reads as it did. -/
def coverSplitSpec : ChangeSpec := { name := "coverSplit", fn := fun _ => fun
  | [d] => { results := [.lit (.bool true)], args := [d] }
  | _ => none }
def coverSplitRow : OpenClaim := { program := "ytmlbmdcmedglaaadoor", sum := "2bb64637528e856ce86e844543215ab32a29ac2c08afa78801fafea1f8685f30", func := "dross/drosslaw10.CoverSplit", spec := "coverSplit", unfollowed := true, recurses := true, named := ["math/bits.deBruijn32tab"], apart := false, laid := [("math/bits.deBruijn32tab", laid_math_bits_deBruijn32tab)] }
def CoverSplitSaid : Prop := coverSplitRow.holds Tryd.pinned (OpenSpec.ofChange coverSplitSpec)

/-- ITS FALSE NEIGHBOUR: 'it returns false'. Refute it at one input. -/
def coverSplitWrong : ChangeSpec := { name := "coverSplit", fn := fun _ => fun
  | [d] => { results := [.lit (.bool false)], args := [d] }
  | _ => none }
def CoverSplitWrongFalsely : Prop := coverSplitRow.holds Tryd.pinned (OpenSpec.ofChange coverSplitWrong)

/-- 'drosslaw10.CoverMinimal': WHATEVER THE INPUT: true; the input reads as it did. -/
def coverMinimalSpec : ChangeSpec := { name := "coverMinimal", fn := fun _ => fun
  | [d1, d2] => { results := [.lit (.bool true)], args := [d1, d2] }
  | _ => none }
def coverMinimalRow : OpenClaim := { program := "ytmlbmdcmedglaaadoor", sum := "2bb64637528e856ce86e844543215ab32a29ac2c08afa78801fafea1f8685f30", func := "dross/drosslaw10.CoverMinimal", spec := "coverMinimal", unfollowed := true, recurses := true, named := ["math/bits.deBruijn32tab"], apart := false, laid := [("math/bits.deBruijn32tab", laid_math_bits_deBruijn32tab)] }
def CoverMinimalSaid : Prop := coverMinimalRow.holds Tryd.pinned (OpenSpec.ofChange coverMinimalSpec)

/-- ITS FALSE NEIGHBOUR: 'it returns false'. Refute it at one input. -/
def coverMinimalWrong : ChangeSpec := { name := "coverMinimal", fn := fun _ => fun
  | [d1, d2] => { results := [.lit (.bool false)], args := [d1, d2] }
  | _ => none }
def CoverMinimalWrongFalsely : Prop := coverMinimalRow.holds Tryd.pinned (OpenSpec.ofChange coverMinimalWrong)

/-- 'drosslaw10.CoverAgain': WHATEVER THE INPUT: true; the input reads as it did. -/
def coverAgainSpec : ChangeSpec := { name := "coverAgain", fn := fun _ => fun
  | [d] => { results := [.lit (.bool true)], args := [d] }
  | _ => none }
def coverAgainRow : OpenClaim := { program := "ytmlbmdcmedglaaadoor", sum := "2bb64637528e856ce86e844543215ab32a29ac2c08afa78801fafea1f8685f30", func := "dross/drosslaw10.CoverAgain", spec := "coverAgain", unfollowed := true, recurses := true, named := ["math/bits.deBruijn32tab"], apart := false, laid := [("math/bits.deBruijn32tab", laid_math_bits_deBruijn32tab)] }
def CoverAgainSaid : Prop := coverAgainRow.holds Tryd.pinned (OpenSpec.ofChange coverAgainSpec)

/-- ITS FALSE NEIGHBOUR: 'it returns false'. Refute it at one input. -/
def coverAgainWrong : ChangeSpec := { name := "coverAgain", fn := fun _ => fun
  | [d] => { results := [.lit (.bool false)], args := [d] }
  | _ => none }
def CoverAgainWrongFalsely : Prop := coverAgainRow.holds Tryd.pinned (OpenSpec.ofChange coverAgainWrong)

/-- 'drosslaw10.CoverLess': WHATEVER THE INPUT: true; the input reads as it did. -/
def coverLessSpec : ChangeSpec := { name := "coverLess", fn := fun _ => fun
  | [d1, d2] => { results := [.lit (.bool true)], args := [d1, d2] }
  | _ => none }
def coverLessRow : OpenClaim := { program := "ytmlbmdcmedglaaadoor", sum := "2bb64637528e856ce86e844543215ab32a29ac2c08afa78801fafea1f8685f30", func := "dross/drosslaw10.CoverLess", spec := "coverLess", unfollowed := true, recurses := true, named := ["math/bits.deBruijn32tab"], apart := false, laid := [("math/bits.deBruijn32tab", laid_math_bits_deBruijn32tab)] }
def CoverLessSaid : Prop := coverLessRow.holds Tryd.pinned (OpenSpec.ofChange coverLessSpec)

/-- ITS FALSE NEIGHBOUR: 'it returns false'. Refute it at one input. -/
def coverLessWrong : ChangeSpec := { name := "coverLess", fn := fun _ => fun
  | [d1, d2] => { results := [.lit (.bool false)], args := [d1, d2] }
  | _ => none }
def CoverLessWrongFalsely : Prop := coverLessRow.holds Tryd.pinned (OpenSpec.ofChange coverLessWrong)

/-- 'drosslaw10.CoverRedundant': WHATEVER THE INPUT: true; the input reads as it did. -/
def coverRedundantSpec : ChangeSpec := { name := "coverRedundant", fn := fun _ => fun
  | [d] => { results := [.lit (.bool true)], args := [d] }
  | _ => none }
def coverRedundantRow : OpenClaim := { program := "ytmlbmdcmedglaaadoor", sum := "2bb64637528e856ce86e844543215ab32a29ac2c08afa78801fafea1f8685f30", func := "dross/drosslaw10.CoverRedundant", spec := "coverRedundant", unfollowed := true, recurses := true, named := ["math/bits.deBruijn32tab"], apart := false, laid := [("math/bits.deBruijn32tab", laid_math_bits_deBruijn32tab)] }
def CoverRedundantSaid : Prop := coverRedundantRow.holds Tryd.pinned (OpenSpec.ofChange coverRedundantSpec)

/-- ITS FALSE NEIGHBOUR: 'it returns false'. Refute it at one input. -/
def coverRedundantWrong : ChangeSpec := { name := "coverRedundant", fn := fun _ => fun
  | [d] => { results := [.lit (.bool false)], args := [d] }
  | _ => none }
def CoverRedundantWrongFalsely : Prop := coverRedundantRow.holds Tryd.pinned (OpenSpec.ofChange coverRedundantWrong)

/-- 'drosslaw10.CoverExtraneous': WHATEVER THE INPUT: true; the input reads as it did. -/
def coverExtraneousSpec : ChangeSpec := { name := "coverExtraneous", fn := fun _ => fun
  | [d1, d2] => { results := [.lit (.bool true)], args := [d1, d2] }
  | _ => none }
def coverExtraneousRow : OpenClaim := { program := "ytmlbmdcmedglaaadoor", sum := "2bb64637528e856ce86e844543215ab32a29ac2c08afa78801fafea1f8685f30", func := "dross/drosslaw10.CoverExtraneous", spec := "coverExtraneous", unfollowed := true, recurses := true, named := ["math/bits.deBruijn32tab"], apart := false, laid := [("math/bits.deBruijn32tab", laid_math_bits_deBruijn32tab)] }
def CoverExtraneousSaid : Prop := coverExtraneousRow.holds Tryd.pinned (OpenSpec.ofChange coverExtraneousSpec)

/-- ITS FALSE NEIGHBOUR: 'it returns false'. Refute it at one input. -/
def coverExtraneousWrong : ChangeSpec := { name := "coverExtraneous", fn := fun _ => fun
  | [d1, d2] => { results := [.lit (.bool false)], args := [d1, d2] }
  | _ => none }
def CoverExtraneousWrongFalsely : Prop := coverExtraneousRow.holds Tryd.pinned (OpenSpec.ofChange coverExtraneousWrong)

/-- 'drosslaw22.PreserveProject': WHATEVER THE INPUT: true; the input reads as it did. -/
def preserveProjectSpec : ChangeSpec := { name := "preserveProject", fn := fun _ => fun
  | [d1, d2] => { results := [.lit (.bool true)], args := [d1, d2] }
  | _ => none }
def preserveProjectRow : OpenClaim := { program := "ytmlbmdcmedglaaadoor", sum := "2bb64637528e856ce86e844543215ab32a29ac2c08afa78801fafea1f8685f30", func := "dross/drosslaw22.PreserveProject", spec := "preserveProject", unfollowed := true, recurses := true, named := ["math/bits.deBruijn32tab"], apart := false, laid := [("math/bits.deBruijn32tab", laid_math_bits_deBruijn32tab)] }
def PreserveProjectSaid : Prop := preserveProjectRow.holds Tryd.pinned (OpenSpec.ofChange preserveProjectSpec)

/-- ITS FALSE NEIGHBOUR: 'it returns false'. Refute it at one input. -/
def preserveProjectWrong : ChangeSpec := { name := "preserveProject", fn := fun _ => fun
  | [d1, d2] => { results := [.lit (.bool false)], args := [d1, d2] }
  | _ => none }
def PreserveProjectWrongFalsely : Prop := preserveProjectRow.holds Tryd.pinned (OpenSpec.ofChange preserveProjectWrong)

/-- 'drosslaw22.PreserveWithin': WHATEVER THE INPUT: true; the input reads as it did. -/
def preserveWithinSpec : ChangeSpec := { name := "preserveWithin", fn := fun _ => fun
  | [d1, d2, d3] => { results := [.lit (.bool true)], args := [d1, d2, d3] }
  | _ => none }
def preserveWithinRow : OpenClaim := { program := "ytmlbmdcmedglaaadoor", sum := "2bb64637528e856ce86e844543215ab32a29ac2c08afa78801fafea1f8685f30", func := "dross/drosslaw22.PreserveWithin", spec := "preserveWithin", unfollowed := true, recurses := true, named := ["math/bits.deBruijn32tab"], apart := false, laid := [("math/bits.deBruijn32tab", laid_math_bits_deBruijn32tab)] }
def PreserveWithinSaid : Prop := preserveWithinRow.holds Tryd.pinned (OpenSpec.ofChange preserveWithinSpec)

/-- ITS FALSE NEIGHBOUR: 'it returns false'. Refute it at one input. -/
def preserveWithinWrong : ChangeSpec := { name := "preserveWithin", fn := fun _ => fun
  | [d1, d2, d3] => { results := [.lit (.bool false)], args := [d1, d2, d3] }
  | _ => none }
def PreserveWithinWrongFalsely : Prop := preserveWithinRow.holds Tryd.pinned (OpenSpec.ofChange preserveWithinWrong)

/-- 'drosslaw22.PreserveKept': WHATEVER THE INPUT: true; the input reads as it did. -/
def preserveKeptSpec : ChangeSpec := { name := "preserveKept", fn := fun _ => fun
  | [d1, d2, d3] => { results := [.lit (.bool true)], args := [d1, d2, d3] }
  | _ => none }
def preserveKeptRow : OpenClaim := { program := "ytmlbmdcmedglaaadoor", sum := "2bb64637528e856ce86e844543215ab32a29ac2c08afa78801fafea1f8685f30", func := "dross/drosslaw22.PreserveKept", spec := "preserveKept", unfollowed := true, recurses := true, named := ["math/bits.deBruijn32tab"], apart := false, laid := [("math/bits.deBruijn32tab", laid_math_bits_deBruijn32tab)] }
def PreserveKeptSaid : Prop := preserveKeptRow.holds Tryd.pinned (OpenSpec.ofChange preserveKeptSpec)

/-- ITS FALSE NEIGHBOUR: 'it returns false'. Refute it at one input. -/
def preserveKeptWrong : ChangeSpec := { name := "preserveKept", fn := fun _ => fun
  | [d1, d2, d3] => { results := [.lit (.bool false)], args := [d1, d2, d3] }
  | _ => none }
def PreserveKeptWrongFalsely : Prop := preserveKeptRow.holds Tryd.pinned (OpenSpec.ofChange preserveKeptWrong)

/-- 'drosslaw22.PreserveLost': WHATEVER THE INPUT: true; the input reads as it did. -/
def preserveLostSpec : ChangeSpec := { name := "preserveLost", fn := fun _ => fun
  | [d1, d2] => { results := [.lit (.bool true)], args := [d1, d2] }
  | _ => none }
def preserveLostRow : OpenClaim := { program := "ytmlbmdcmedglaaadoor", sum := "2bb64637528e856ce86e844543215ab32a29ac2c08afa78801fafea1f8685f30", func := "dross/drosslaw22.PreserveLost", spec := "preserveLost", unfollowed := true, recurses := true, named := ["math/bits.deBruijn32tab"], apart := false, laid := [("math/bits.deBruijn32tab", laid_math_bits_deBruijn32tab)] }
def PreserveLostSaid : Prop := preserveLostRow.holds Tryd.pinned (OpenSpec.ofChange preserveLostSpec)

/-- ITS FALSE NEIGHBOUR: 'it returns false'. Refute it at one input. -/
def preserveLostWrong : ChangeSpec := { name := "preserveLost", fn := fun _ => fun
  | [d1, d2] => { results := [.lit (.bool false)], args := [d1, d2] }
  | _ => none }
def PreserveLostWrongFalsely : Prop := preserveLostRow.holds Tryd.pinned (OpenSpec.ofChange preserveLostWrong)

/-- 'drosslaw22.PreserveUnion': WHATEVER THE INPUT: true; the input reads as it did. -/
def preserveUnionSpec : ChangeSpec := { name := "preserveUnion", fn := fun _ => fun
  | [d1, d2, d3] => { results := [.lit (.bool true)], args := [d1, d2, d3] }
  | _ => none }
def preserveUnionRow : OpenClaim := { program := "ytmlbmdcmedglaaadoor", sum := "2bb64637528e856ce86e844543215ab32a29ac2c08afa78801fafea1f8685f30", func := "dross/drosslaw22.PreserveUnion", spec := "preserveUnion", unfollowed := true, recurses := true, named := ["math/bits.deBruijn32tab"], apart := false, laid := [("math/bits.deBruijn32tab", laid_math_bits_deBruijn32tab)] }
def PreserveUnionSaid : Prop := preserveUnionRow.holds Tryd.pinned (OpenSpec.ofChange preserveUnionSpec)

/-- ITS FALSE NEIGHBOUR: 'it returns false'. Refute it at one input. -/
def preserveUnionWrong : ChangeSpec := { name := "preserveUnion", fn := fun _ => fun
  | [d1, d2, d3] => { results := [.lit (.bool false)], args := [d1, d2, d3] }
  | _ => none }
def PreserveUnionWrongFalsely : Prop := preserveUnionRow.holds Tryd.pinned (OpenSpec.ofChange preserveUnionWrong)

/-- 'drosslaw22.PreserveMore': WHATEVER THE INPUT: true; the input reads as it did. -/
def preserveMoreSpec : ChangeSpec := { name := "preserveMore", fn := fun _ => fun
  | [d1, d2, d3] => { results := [.lit (.bool true)], args := [d1, d2, d3] }
  | _ => none }
def preserveMoreRow : OpenClaim := { program := "ytmlbmdcmedglaaadoor", sum := "2bb64637528e856ce86e844543215ab32a29ac2c08afa78801fafea1f8685f30", func := "dross/drosslaw22.PreserveMore", spec := "preserveMore", unfollowed := true, recurses := true, named := ["math/bits.deBruijn32tab"], apart := false, laid := [("math/bits.deBruijn32tab", laid_math_bits_deBruijn32tab)] }
def PreserveMoreSaid : Prop := preserveMoreRow.holds Tryd.pinned (OpenSpec.ofChange preserveMoreSpec)

/-- ITS FALSE NEIGHBOUR: 'it returns false'. Refute it at one input. -/
def preserveMoreWrong : ChangeSpec := { name := "preserveMore", fn := fun _ => fun
  | [d1, d2, d3] => { results := [.lit (.bool false)], args := [d1, d2, d3] }
  | _ => none }
def PreserveMoreWrongFalsely : Prop := preserveMoreRow.holds Tryd.pinned (OpenSpec.ofChange preserveMoreWrong)

/-- 'drosslaw22.PreserveTraced': WHATEVER THE INPUT: true; the input reads as it did. -/
def preserveTracedSpec : ChangeSpec := { name := "preserveTraced", fn := fun _ => fun
  | [d1, d2, d3] => { results := [.lit (.bool true)], args := [d1, d2, d3] }
  | _ => none }
def preserveTracedRow : OpenClaim := { program := "ytmlbmdcmedglaaadoor", sum := "2bb64637528e856ce86e844543215ab32a29ac2c08afa78801fafea1f8685f30", func := "dross/drosslaw22.PreserveTraced", spec := "preserveTraced", unfollowed := true, recurses := true, named := ["math/bits.deBruijn32tab"], apart := false, laid := [("math/bits.deBruijn32tab", laid_math_bits_deBruijn32tab)] }
def PreserveTracedSaid : Prop := preserveTracedRow.holds Tryd.pinned (OpenSpec.ofChange preserveTracedSpec)

/-- ITS FALSE NEIGHBOUR: 'it returns false'. Refute it at one input. -/
def preserveTracedWrong : ChangeSpec := { name := "preserveTraced", fn := fun _ => fun
  | [d1, d2, d3] => { results := [.lit (.bool false)], args := [d1, d2, d3] }
  | _ => none }
def PreserveTracedWrongFalsely : Prop := preserveTracedRow.holds Tryd.pinned (OpenSpec.ofChange preserveTracedWrong)

/-- 'drosslaw10.CoverEquivalent': WHATEVER THE INPUT: true; the input reads as it did. -/
def coverEquivalentSpec : ChangeSpec := { name := "coverEquivalent", fn := fun _ => fun
  | [d] => { results := [.lit (.bool true)], args := [d] }
  | _ => none }
def coverEquivalentRow : OpenClaim := { program := "ytmlbmdcmedglaaadoor", sum := "2bb64637528e856ce86e844543215ab32a29ac2c08afa78801fafea1f8685f30", func := "dross/drosslaw10.CoverEquivalent", spec := "coverEquivalent", unfollowed := true, recurses := true, named := ["math/bits.deBruijn32tab"], apart := false, laid := [("math/bits.deBruijn32tab", laid_math_bits_deBruijn32tab)] }
def CoverEquivalentSaid : Prop := coverEquivalentRow.holds Tryd.pinned (OpenSpec.ofChange coverEquivalentSpec)

/-- ITS FALSE NEIGHBOUR: 'it returns false'. Refute it at one input. -/
def coverEquivalentWrong : ChangeSpec := { name := "coverEquivalent", fn := fun _ => fun
  | [d] => { results := [.lit (.bool false)], args := [d] }
  | _ => none }
def CoverEquivalentWrongFalsely : Prop := coverEquivalentRow.holds Tryd.pinned (OpenSpec.ofChange coverEquivalentWrong)

/-- 'drosslaw10.CoverIsMinimal': WHATEVER THE INPUT: true; the input reads as it did. -/
def coverIsMinimalSpec : ChangeSpec := { name := "coverIsMinimal", fn := fun _ => fun
  | [d] => { results := [.lit (.bool true)], args := [d] }
  | _ => none }
def coverIsMinimalRow : OpenClaim := { program := "ytmlbmdcmedglaaadoor", sum := "2bb64637528e856ce86e844543215ab32a29ac2c08afa78801fafea1f8685f30", func := "dross/drosslaw10.CoverIsMinimal", spec := "coverIsMinimal", unfollowed := true, recurses := true, named := ["math/bits.deBruijn32tab"], apart := false, laid := [("math/bits.deBruijn32tab", laid_math_bits_deBruijn32tab)] }
def CoverIsMinimalSaid : Prop := coverIsMinimalRow.holds Tryd.pinned (OpenSpec.ofChange coverIsMinimalSpec)

/-- ITS FALSE NEIGHBOUR: 'it returns false'. Refute it at one input. -/
def coverIsMinimalWrong : ChangeSpec := { name := "coverIsMinimal", fn := fun _ => fun
  | [d] => { results := [.lit (.bool false)], args := [d] }
  | _ => none }
def CoverIsMinimalWrongFalsely : Prop := coverIsMinimalRow.holds Tryd.pinned (OpenSpec.ofChange coverIsMinimalWrong)

/- THE SECOND FORM. 'bulk': how many values and letters a reading holds, each counted each time it is reached (what is shared counts as often as it is met; a slice's spare places count too). A statement '..UptoSaid' is the law's where the arguments, and the package variables that the reading takes, are together of bulk at most 1048576: NARROWER than '..Said'. Prove '..Said' where nothing that the law and all that it calls make is longer than what came in: it says more and counts as full. Else prove '..UptoSaid'. A law counts once. -/
mutual
def uptoBulk {H : Type} : DataW H → Nat
  | .lit (.string bytes) => bytes.length + 1
  | .lit _ => 1
  | .nil => 1
  | .ptr d => uptoBulk d + 1
  | .slice elems spare => uptoBulkAll elems + uptoBulkAll spare + 1
  | .agg parts => uptoBulkAll parts + 1
  | .iface _ d => uptoBulk d + 1
  | .map entries => uptoBulkEntries entries + 1
  | .held _ => 1
def uptoBulkAll {H : Type} : List (DataW H) → Nat
  | [] => 0
  | d :: r => uptoBulk d + uptoBulkAll r
def uptoBulkEntries {H : Type} : List (Lit × DataW H) → Nat
  | [] => 0
  | x :: r => uptoBulkEntry x + uptoBulkEntries r
def uptoBulkEntry {H : Type} : Lit × DataW H → Nat
  | (.string bytes, d) => bytes.length + uptoBulk d + 1
  | (_, d) => uptoBulk d + 1
 end
def uptoSmall : (H : Type) → List (DataW H) → Bool := fun _ ds => decide (uptoBulkAll ds ≤ 1048576)
def OpenSpec.upto (s : _root_.Go.ChangeSpec) : _root_.Go.OpenSpec := { _root_.Go.OpenSpec.ofChange s with cond := some uptoSmall }

/-- 'drosslaw10.CoverSplit', WHERE WHAT IT READS IS OF BULK AT MOST 1048576: true; the input reads as it did. -/
def coverSplitUptoRow : OpenClaim := { program := "ytmlbmdcmedglaaadoor", sum := "2bb64637528e856ce86e844543215ab32a29ac2c08afa78801fafea1f8685f30", func := "dross/drosslaw10.CoverSplit", spec := "coverSplit", unfollowed := true, recurses := true, named := ["math/bits.deBruijn32tab"], apart := false, laid := [("math/bits.deBruijn32tab", laid_math_bits_deBruijn32tab)], narrowed := true }
def CoverSplitUptoSaid : Prop := coverSplitUptoRow.holds Tryd.pinned (OpenSpec.upto coverSplitSpec)

/-- 'drosslaw10.CoverMinimal', WHERE WHAT IT READS IS OF BULK AT MOST 1048576: true; the input reads as it did. -/
def coverMinimalUptoRow : OpenClaim := { program := "ytmlbmdcmedglaaadoor", sum := "2bb64637528e856ce86e844543215ab32a29ac2c08afa78801fafea1f8685f30", func := "dross/drosslaw10.CoverMinimal", spec := "coverMinimal", unfollowed := true, recurses := true, named := ["math/bits.deBruijn32tab"], apart := false, laid := [("math/bits.deBruijn32tab", laid_math_bits_deBruijn32tab)], narrowed := true }
def CoverMinimalUptoSaid : Prop := coverMinimalUptoRow.holds Tryd.pinned (OpenSpec.upto coverMinimalSpec)

/-- 'drosslaw10.CoverAgain', WHERE WHAT IT READS IS OF BULK AT MOST 1048576: true; the input reads as it did. -/
def coverAgainUptoRow : OpenClaim := { program := "ytmlbmdcmedglaaadoor", sum := "2bb64637528e856ce86e844543215ab32a29ac2c08afa78801fafea1f8685f30", func := "dross/drosslaw10.CoverAgain", spec := "coverAgain", unfollowed := true, recurses := true, named := ["math/bits.deBruijn32tab"], apart := false, laid := [("math/bits.deBruijn32tab", laid_math_bits_deBruijn32tab)], narrowed := true }
def CoverAgainUptoSaid : Prop := coverAgainUptoRow.holds Tryd.pinned (OpenSpec.upto coverAgainSpec)

/-- 'drosslaw10.CoverLess', WHERE WHAT IT READS IS OF BULK AT MOST 1048576: true; the input reads as it did. -/
def coverLessUptoRow : OpenClaim := { program := "ytmlbmdcmedglaaadoor", sum := "2bb64637528e856ce86e844543215ab32a29ac2c08afa78801fafea1f8685f30", func := "dross/drosslaw10.CoverLess", spec := "coverLess", unfollowed := true, recurses := true, named := ["math/bits.deBruijn32tab"], apart := false, laid := [("math/bits.deBruijn32tab", laid_math_bits_deBruijn32tab)], narrowed := true }
def CoverLessUptoSaid : Prop := coverLessUptoRow.holds Tryd.pinned (OpenSpec.upto coverLessSpec)

/-- 'drosslaw10.CoverRedundant', WHERE WHAT IT READS IS OF BULK AT MOST 1048576: true; the input reads as it did. -/
def coverRedundantUptoRow : OpenClaim := { program := "ytmlbmdcmedglaaadoor", sum := "2bb64637528e856ce86e844543215ab32a29ac2c08afa78801fafea1f8685f30", func := "dross/drosslaw10.CoverRedundant", spec := "coverRedundant", unfollowed := true, recurses := true, named := ["math/bits.deBruijn32tab"], apart := false, laid := [("math/bits.deBruijn32tab", laid_math_bits_deBruijn32tab)], narrowed := true }
def CoverRedundantUptoSaid : Prop := coverRedundantUptoRow.holds Tryd.pinned (OpenSpec.upto coverRedundantSpec)

/-- 'drosslaw10.CoverExtraneous', WHERE WHAT IT READS IS OF BULK AT MOST 1048576: true; the input reads as it did. -/
def coverExtraneousUptoRow : OpenClaim := { program := "ytmlbmdcmedglaaadoor", sum := "2bb64637528e856ce86e844543215ab32a29ac2c08afa78801fafea1f8685f30", func := "dross/drosslaw10.CoverExtraneous", spec := "coverExtraneous", unfollowed := true, recurses := true, named := ["math/bits.deBruijn32tab"], apart := false, laid := [("math/bits.deBruijn32tab", laid_math_bits_deBruijn32tab)], narrowed := true }
def CoverExtraneousUptoSaid : Prop := coverExtraneousUptoRow.holds Tryd.pinned (OpenSpec.upto coverExtraneousSpec)

/-- 'drosslaw22.PreserveProject', WHERE WHAT IT READS IS OF BULK AT MOST 1048576: true; the input reads as it did. -/
def preserveProjectUptoRow : OpenClaim := { program := "ytmlbmdcmedglaaadoor", sum := "2bb64637528e856ce86e844543215ab32a29ac2c08afa78801fafea1f8685f30", func := "dross/drosslaw22.PreserveProject", spec := "preserveProject", unfollowed := true, recurses := true, named := ["math/bits.deBruijn32tab"], apart := false, laid := [("math/bits.deBruijn32tab", laid_math_bits_deBruijn32tab)], narrowed := true }
def PreserveProjectUptoSaid : Prop := preserveProjectUptoRow.holds Tryd.pinned (OpenSpec.upto preserveProjectSpec)

/-- 'drosslaw22.PreserveWithin', WHERE WHAT IT READS IS OF BULK AT MOST 1048576: true; the input reads as it did. -/
def preserveWithinUptoRow : OpenClaim := { program := "ytmlbmdcmedglaaadoor", sum := "2bb64637528e856ce86e844543215ab32a29ac2c08afa78801fafea1f8685f30", func := "dross/drosslaw22.PreserveWithin", spec := "preserveWithin", unfollowed := true, recurses := true, named := ["math/bits.deBruijn32tab"], apart := false, laid := [("math/bits.deBruijn32tab", laid_math_bits_deBruijn32tab)], narrowed := true }
def PreserveWithinUptoSaid : Prop := preserveWithinUptoRow.holds Tryd.pinned (OpenSpec.upto preserveWithinSpec)

/-- 'drosslaw22.PreserveKept', WHERE WHAT IT READS IS OF BULK AT MOST 1048576: true; the input reads as it did. -/
def preserveKeptUptoRow : OpenClaim := { program := "ytmlbmdcmedglaaadoor", sum := "2bb64637528e856ce86e844543215ab32a29ac2c08afa78801fafea1f8685f30", func := "dross/drosslaw22.PreserveKept", spec := "preserveKept", unfollowed := true, recurses := true, named := ["math/bits.deBruijn32tab"], apart := false, laid := [("math/bits.deBruijn32tab", laid_math_bits_deBruijn32tab)], narrowed := true }
def PreserveKeptUptoSaid : Prop := preserveKeptUptoRow.holds Tryd.pinned (OpenSpec.upto preserveKeptSpec)

/-- 'drosslaw22.PreserveLost', WHERE WHAT IT READS IS OF BULK AT MOST 1048576: true; the input reads as it did. -/
def preserveLostUptoRow : OpenClaim := { program := "ytmlbmdcmedglaaadoor", sum := "2bb64637528e856ce86e844543215ab32a29ac2c08afa78801fafea1f8685f30", func := "dross/drosslaw22.PreserveLost", spec := "preserveLost", unfollowed := true, recurses := true, named := ["math/bits.deBruijn32tab"], apart := false, laid := [("math/bits.deBruijn32tab", laid_math_bits_deBruijn32tab)], narrowed := true }
def PreserveLostUptoSaid : Prop := preserveLostUptoRow.holds Tryd.pinned (OpenSpec.upto preserveLostSpec)

/-- 'drosslaw22.PreserveUnion', WHERE WHAT IT READS IS OF BULK AT MOST 1048576: true; the input reads as it did. -/
def preserveUnionUptoRow : OpenClaim := { program := "ytmlbmdcmedglaaadoor", sum := "2bb64637528e856ce86e844543215ab32a29ac2c08afa78801fafea1f8685f30", func := "dross/drosslaw22.PreserveUnion", spec := "preserveUnion", unfollowed := true, recurses := true, named := ["math/bits.deBruijn32tab"], apart := false, laid := [("math/bits.deBruijn32tab", laid_math_bits_deBruijn32tab)], narrowed := true }
def PreserveUnionUptoSaid : Prop := preserveUnionUptoRow.holds Tryd.pinned (OpenSpec.upto preserveUnionSpec)

/-- 'drosslaw22.PreserveMore', WHERE WHAT IT READS IS OF BULK AT MOST 1048576: true; the input reads as it did. -/
def preserveMoreUptoRow : OpenClaim := { program := "ytmlbmdcmedglaaadoor", sum := "2bb64637528e856ce86e844543215ab32a29ac2c08afa78801fafea1f8685f30", func := "dross/drosslaw22.PreserveMore", spec := "preserveMore", unfollowed := true, recurses := true, named := ["math/bits.deBruijn32tab"], apart := false, laid := [("math/bits.deBruijn32tab", laid_math_bits_deBruijn32tab)], narrowed := true }
def PreserveMoreUptoSaid : Prop := preserveMoreUptoRow.holds Tryd.pinned (OpenSpec.upto preserveMoreSpec)

/-- 'drosslaw22.PreserveTraced', WHERE WHAT IT READS IS OF BULK AT MOST 1048576: true; the input reads as it did. -/
def preserveTracedUptoRow : OpenClaim := { program := "ytmlbmdcmedglaaadoor", sum := "2bb64637528e856ce86e844543215ab32a29ac2c08afa78801fafea1f8685f30", func := "dross/drosslaw22.PreserveTraced", spec := "preserveTraced", unfollowed := true, recurses := true, named := ["math/bits.deBruijn32tab"], apart := false, laid := [("math/bits.deBruijn32tab", laid_math_bits_deBruijn32tab)], narrowed := true }
def PreserveTracedUptoSaid : Prop := preserveTracedUptoRow.holds Tryd.pinned (OpenSpec.upto preserveTracedSpec)

/-- 'drosslaw10.CoverEquivalent', WHERE WHAT IT READS IS OF BULK AT MOST 1048576: true; the input reads as it did. -/
def coverEquivalentUptoRow : OpenClaim := { program := "ytmlbmdcmedglaaadoor", sum := "2bb64637528e856ce86e844543215ab32a29ac2c08afa78801fafea1f8685f30", func := "dross/drosslaw10.CoverEquivalent", spec := "coverEquivalent", unfollowed := true, recurses := true, named := ["math/bits.deBruijn32tab"], apart := false, laid := [("math/bits.deBruijn32tab", laid_math_bits_deBruijn32tab)], narrowed := true }
def CoverEquivalentUptoSaid : Prop := coverEquivalentUptoRow.holds Tryd.pinned (OpenSpec.upto coverEquivalentSpec)

/-- 'drosslaw10.CoverIsMinimal', WHERE WHAT IT READS IS OF BULK AT MOST 1048576: true; the input reads as it did. -/
def coverIsMinimalUptoRow : OpenClaim := { program := "ytmlbmdcmedglaaadoor", sum := "2bb64637528e856ce86e844543215ab32a29ac2c08afa78801fafea1f8685f30", func := "dross/drosslaw10.CoverIsMinimal", spec := "coverIsMinimal", unfollowed := true, recurses := true, named := ["math/bits.deBruijn32tab"], apart := false, laid := [("math/bits.deBruijn32tab", laid_math_bits_deBruijn32tab)], narrowed := true }
def CoverIsMinimalUptoSaid : Prop := coverIsMinimalUptoRow.holds Tryd.pinned (OpenSpec.upto coverIsMinimalSpec)

end Rows
end Go.Proofs.YtmlbmdcmedglaaaDoor
