/-
  No cell of these rows narrows 'for every input' (looked for: loops, veiled, ifaces, maps, wideKeys, modest, calm, conditions, laid).
  DERIVED. THE GIVEN ROWS OF THIS SEAT. 8 by the template 'for every input the law returns true; each argument reads behind the call as it read before'; 0 by the template 'total and deterministic' (their statements: YtkehelplmipenaaTotals.lean).
  GIVEN WITH THE SEED: the statements are not yours to turn. If you find one false, say at which input.
  Laid BY PROGRAM, IN A SANDBOX (cutbox-rows.mjs): the forced cells as the released guide's own fill.sh prints them over the translation c7c5c801f04e5458… (all of the seat's roots in one cut). By AI agents, Wed Nov 11 2026. No macro, syntax, notation, axiom, sorry.
-/
import Derived.Test.YtkehelplmipenaaChecked
import GoSem.Claim
import GoSem.ClaimJoined
import GoSem.ClaimMapViews
import Derived.JoinedTies
import Derived.KernelRfl
namespace Go.Proofs.Ytkehelplmipenaa
/- THE CELL 'sum', in the pinned program and in every row, IS THE sha256 OF THE DUMP (.gsa) THAT YtkehelplmipenaaProg.lean LOADS. Nothing in Lean hashes anything: it is a label: what it is worth is what the hold of that sum in a sandbox is worth. -/
noncomputable def Try.pinned : Pinned := { name := "ytkehelplmipenaa", sum := "c7c5c801f04e5458f46bbc3420ca5426e7c5d18fffc4d3957bc387f97ecf73a3", checked := Try.checked }
namespace Rows
def none {H : Type} : Left H := { results := [], args := [] }

/-- 'drosslaw27.AgreeSets': WHATEVER THE INPUT: true; the input reads as it did. -/
def agreeSetsSpec : ChangeSpec := { name := "agreeSets", fn := fun _ => fun
  | [d] => { results := [.lit (.bool true)], args := [d] }
  | _ => none }
def agreeSetsRow : OpenClaim := { program := "ytkehelplmipenaa", sum := "c7c5c801f04e5458f46bbc3420ca5426e7c5d18fffc4d3957bc387f97ecf73a3", func := "dross/drosslaw27.AgreeSets", spec := "agreeSets", unfollowed := true, recurses := true, apart := false }
def AgreeSetsSaid : Prop := agreeSetsRow.holds Try.pinned (OpenSpec.ofChange agreeSetsSpec)

/-- ITS FALSE NEIGHBOUR: 'it returns false'. Refute it at one input. -/
def agreeSetsWrong : ChangeSpec := { name := "agreeSets", fn := fun _ => fun
  | [d] => { results := [.lit (.bool false)], args := [d] }
  | _ => none }
def AgreeSetsWrongFalsely : Prop := agreeSetsRow.holds Try.pinned (OpenSpec.ofChange agreeSetsWrong)

/-- 'drosslaw27.AgreeMaximal': WHATEVER THE INPUT: true; the input reads as it did. -/
def agreeMaximalSpec : ChangeSpec := { name := "agreeMaximal", fn := fun _ => fun
  | [d1, d2] => { results := [.lit (.bool true)], args := [d1, d2] }
  | _ => none }
def agreeMaximalRow : OpenClaim := { program := "ytkehelplmipenaa", sum := "c7c5c801f04e5458f46bbc3420ca5426e7c5d18fffc4d3957bc387f97ecf73a3", func := "dross/drosslaw27.AgreeMaximal", spec := "agreeMaximal", unfollowed := true, recurses := true, apart := false }
def AgreeMaximalSaid : Prop := agreeMaximalRow.holds Try.pinned (OpenSpec.ofChange agreeMaximalSpec)

/-- ITS FALSE NEIGHBOUR: 'it returns false'. Refute it at one input. -/
def agreeMaximalWrong : ChangeSpec := { name := "agreeMaximal", fn := fun _ => fun
  | [d1, d2] => { results := [.lit (.bool false)], args := [d1, d2] }
  | _ => none }
def AgreeMaximalWrongFalsely : Prop := agreeMaximalRow.holds Try.pinned (OpenSpec.ofChange agreeMaximalWrong)

/-- 'drosslaw27.AgreeWitness': WHATEVER THE INPUT: true; the input reads as it did. -/
def agreeWitnessSpec : ChangeSpec := { name := "agreeWitness", fn := fun _ => fun
  | [d1, d2] => { results := [.lit (.bool true)], args := [d1, d2] }
  | _ => none }
def agreeWitnessRow : OpenClaim := { program := "ytkehelplmipenaa", sum := "c7c5c801f04e5458f46bbc3420ca5426e7c5d18fffc4d3957bc387f97ecf73a3", func := "dross/drosslaw27.AgreeWitness", spec := "agreeWitness", unfollowed := true, recurses := true, apart := false }
def AgreeWitnessSaid : Prop := agreeWitnessRow.holds Try.pinned (OpenSpec.ofChange agreeWitnessSpec)

/-- ITS FALSE NEIGHBOUR: 'it returns false'. Refute it at one input. -/
def agreeWitnessWrong : ChangeSpec := { name := "agreeWitness", fn := fun _ => fun
  | [d1, d2] => { results := [.lit (.bool false)], args := [d1, d2] }
  | _ => none }
def AgreeWitnessWrongFalsely : Prop := agreeWitnessRow.holds Try.pinned (OpenSpec.ofChange agreeWitnessWrong)

/-- 'drosslaw27.AgreeDifferences': WHATEVER THE INPUT: true; the input reads as it did. -/
def agreeDifferencesSpec : ChangeSpec := { name := "agreeDifferences", fn := fun _ => fun
  | [d1, d2, d3] => { results := [.lit (.bool true)], args := [d1, d2, d3] }
  | _ => none }
def agreeDifferencesRow : OpenClaim := { program := "ytkehelplmipenaa", sum := "c7c5c801f04e5458f46bbc3420ca5426e7c5d18fffc4d3957bc387f97ecf73a3", func := "dross/drosslaw27.AgreeDifferences", spec := "agreeDifferences", unfollowed := true, recurses := true, apart := false }
def AgreeDifferencesSaid : Prop := agreeDifferencesRow.holds Try.pinned (OpenSpec.ofChange agreeDifferencesSpec)

/-- ITS FALSE NEIGHBOUR: 'it returns false'. Refute it at one input. -/
def agreeDifferencesWrong : ChangeSpec := { name := "agreeDifferences", fn := fun _ => fun
  | [d1, d2, d3] => { results := [.lit (.bool false)], args := [d1, d2, d3] }
  | _ => none }
def AgreeDifferencesWrongFalsely : Prop := agreeDifferencesRow.holds Try.pinned (OpenSpec.ofChange agreeDifferencesWrong)

/-- 'drosslaw27.AgreeOf': WHATEVER THE INPUT: true; the input reads as it did. -/
def agreeOfSpec : ChangeSpec := { name := "agreeOf", fn := fun _ => fun
  | [d1, d2, d3] => { results := [.lit (.bool true)], args := [d1, d2, d3] }
  | _ => none }
def agreeOfRow : OpenClaim := { program := "ytkehelplmipenaa", sum := "c7c5c801f04e5458f46bbc3420ca5426e7c5d18fffc4d3957bc387f97ecf73a3", func := "dross/drosslaw27.AgreeOf", spec := "agreeOf", unfollowed := true, recurses := true, apart := false }
def AgreeOfSaid : Prop := agreeOfRow.holds Try.pinned (OpenSpec.ofChange agreeOfSpec)

/-- ITS FALSE NEIGHBOUR: 'it returns false'. Refute it at one input. -/
def agreeOfWrong : ChangeSpec := { name := "agreeOf", fn := fun _ => fun
  | [d1, d2, d3] => { results := [.lit (.bool false)], args := [d1, d2, d3] }
  | _ => none }
def AgreeOfWrongFalsely : Prop := agreeOfRow.holds Try.pinned (OpenSpec.ofChange agreeOfWrong)

/-- 'drosslaw27.AgreeLarge': WHATEVER THE INPUT: true; the input reads as it did. -/
def agreeLargeSpec : ChangeSpec := { name := "agreeLarge", fn := fun _ => fun
  | [d1, d2] => { results := [.lit (.bool true)], args := [d1, d2] }
  | _ => none }
def agreeLargeRow : OpenClaim := { program := "ytkehelplmipenaa", sum := "c7c5c801f04e5458f46bbc3420ca5426e7c5d18fffc4d3957bc387f97ecf73a3", func := "dross/drosslaw27.AgreeLarge", spec := "agreeLarge", unfollowed := true, recurses := true, apart := false }
def AgreeLargeSaid : Prop := agreeLargeRow.holds Try.pinned (OpenSpec.ofChange agreeLargeSpec)

/-- ITS FALSE NEIGHBOUR: 'it returns false'. Refute it at one input. -/
def agreeLargeWrong : ChangeSpec := { name := "agreeLarge", fn := fun _ => fun
  | [d1, d2] => { results := [.lit (.bool false)], args := [d1, d2] }
  | _ => none }
def AgreeLargeWrongFalsely : Prop := agreeLargeRow.holds Try.pinned (OpenSpec.ofChange agreeLargeWrong)

/-- 'drosslaw27.AgreeLists': WHATEVER THE INPUT: true; the input reads as it did. -/
def agreeListsSpec : ChangeSpec := { name := "agreeLists", fn := fun _ => fun
  | [d1, d2, d3] => { results := [.lit (.bool true)], args := [d1, d2, d3] }
  | _ => none }
def agreeListsRow : OpenClaim := { program := "ytkehelplmipenaa", sum := "c7c5c801f04e5458f46bbc3420ca5426e7c5d18fffc4d3957bc387f97ecf73a3", func := "dross/drosslaw27.AgreeLists", spec := "agreeLists", unfollowed := true, recurses := true, apart := false }
def AgreeListsSaid : Prop := agreeListsRow.holds Try.pinned (OpenSpec.ofChange agreeListsSpec)

/-- ITS FALSE NEIGHBOUR: 'it returns false'. Refute it at one input. -/
def agreeListsWrong : ChangeSpec := { name := "agreeLists", fn := fun _ => fun
  | [d1, d2, d3] => { results := [.lit (.bool false)], args := [d1, d2, d3] }
  | _ => none }
def AgreeListsWrongFalsely : Prop := agreeListsRow.holds Try.pinned (OpenSpec.ofChange agreeListsWrong)

/-- 'drosslaw27.AgreeHolds': WHATEVER THE INPUT: true; the input reads as it did. -/
def agreeHoldsSpec : ChangeSpec := { name := "agreeHolds", fn := fun _ => fun
  | [d1, d2] => { results := [.lit (.bool true)], args := [d1, d2] }
  | _ => none }
def agreeHoldsRow : OpenClaim := { program := "ytkehelplmipenaa", sum := "c7c5c801f04e5458f46bbc3420ca5426e7c5d18fffc4d3957bc387f97ecf73a3", func := "dross/drosslaw27.AgreeHolds", spec := "agreeHolds", unfollowed := true, recurses := true, apart := false }
def AgreeHoldsSaid : Prop := agreeHoldsRow.holds Try.pinned (OpenSpec.ofChange agreeHoldsSpec)

/-- ITS FALSE NEIGHBOUR: 'it returns false'. Refute it at one input. -/
def agreeHoldsWrong : ChangeSpec := { name := "agreeHolds", fn := fun _ => fun
  | [d1, d2] => { results := [.lit (.bool false)], args := [d1, d2] }
  | _ => none }
def AgreeHoldsWrongFalsely : Prop := agreeHoldsRow.holds Try.pinned (OpenSpec.ofChange agreeHoldsWrong)

/- THE SECOND FORM. 'bulk': how many values and letters a reading holds, each counted each time it is reached (what is shared counts as often as it is met; a slice's spare places count too). A statement '..UptoSaid' is the law's where the arguments, and the package variables that the reading takes, are together of bulk at most 1048576: NARROWER than '..Said'. Prove '..Said' where nothing that the law and all that it calls make is longer than what came in: it says more and counts as full. Else prove '..UptoSaid'. A law counts once. -/
mutual
def uptoBulk {H : Type} : DataW H → Nat
  | .lit (.string bytes) => bytes.length + 1
  | .lit _ => 1
  | .nil => 1
  | .ptr d => uptoBulk d + 1
  | .slice elems spare => uptoBulkAll elems + uptoBulkAll spare + 1
  | .agg parts => uptoBulkAll parts + 1
  | .iface _ d => uptoBulk d + 1
  | .map entries => uptoBulkEntries entries + 1
  | .held _ => 1
def uptoBulkAll {H : Type} : List (DataW H) → Nat
  | [] => 0
  | d :: r => uptoBulk d + uptoBulkAll r
def uptoBulkEntries {H : Type} : List (Lit × DataW H) → Nat
  | [] => 0
  | x :: r => uptoBulkEntry x + uptoBulkEntries r
def uptoBulkEntry {H : Type} : Lit × DataW H → Nat
  | (.string bytes, d) => bytes.length + uptoBulk d + 1
  | (_, d) => uptoBulk d + 1
 end
def uptoSmall : (H : Type) → List (DataW H) → Bool := fun _ ds => decide (uptoBulkAll ds ≤ 1048576)
def OpenSpec.upto (s : _root_.Go.ChangeSpec) : _root_.Go.OpenSpec := { _root_.Go.OpenSpec.ofChange s with cond := some uptoSmall }

/-- 'drosslaw27.AgreeSets', WHERE WHAT IT READS IS OF BULK AT MOST 1048576: true; the input reads as it did. -/
def agreeSetsUptoRow : OpenClaim := { program := "ytkehelplmipenaa", sum := "c7c5c801f04e5458f46bbc3420ca5426e7c5d18fffc4d3957bc387f97ecf73a3", func := "dross/drosslaw27.AgreeSets", spec := "agreeSets", unfollowed := true, recurses := true, apart := false, narrowed := true }
def AgreeSetsUptoSaid : Prop := agreeSetsUptoRow.holds Try.pinned (OpenSpec.upto agreeSetsSpec)

/-- 'drosslaw27.AgreeMaximal', WHERE WHAT IT READS IS OF BULK AT MOST 1048576: true; the input reads as it did. -/
def agreeMaximalUptoRow : OpenClaim := { program := "ytkehelplmipenaa", sum := "c7c5c801f04e5458f46bbc3420ca5426e7c5d18fffc4d3957bc387f97ecf73a3", func := "dross/drosslaw27.AgreeMaximal", spec := "agreeMaximal", unfollowed := true, recurses := true, apart := false, narrowed := true }
def AgreeMaximalUptoSaid : Prop := agreeMaximalUptoRow.holds Try.pinned (OpenSpec.upto agreeMaximalSpec)

/-- 'drosslaw27.AgreeWitness', WHERE WHAT IT READS IS OF BULK AT MOST 1048576: true; the input reads as it did. -/
def agreeWitnessUptoRow : OpenClaim := { program := "ytkehelplmipenaa", sum := "c7c5c801f04e5458f46bbc3420ca5426e7c5d18fffc4d3957bc387f97ecf73a3", func := "dross/drosslaw27.AgreeWitness", spec := "agreeWitness", unfollowed := true, recurses := true, apart := false, narrowed := true }
def AgreeWitnessUptoSaid : Prop := agreeWitnessUptoRow.holds Try.pinned (OpenSpec.upto agreeWitnessSpec)

/-- 'drosslaw27.AgreeDifferences', WHERE WHAT IT READS IS OF BULK AT MOST 1048576: true; the input reads as it did. -/
def agreeDifferencesUptoRow : OpenClaim := { program := "ytkehelplmipenaa", sum := "c7c5c801f04e5458f46bbc3420ca5426e7c5d18fffc4d3957bc387f97ecf73a3", func := "dross/drosslaw27.AgreeDifferences", spec := "agreeDifferences", unfollowed := true, recurses := true, apart := false, narrowed := true }
def AgreeDifferencesUptoSaid : Prop := agreeDifferencesUptoRow.holds Try.pinned (OpenSpec.upto agreeDifferencesSpec)

/-- 'drosslaw27.AgreeOf', WHERE WHAT IT READS IS OF BULK AT MOST 1048576: true; the input reads as it did. -/
def agreeOfUptoRow : OpenClaim := { program := "ytkehelplmipenaa", sum := "c7c5c801f04e5458f46bbc3420ca5426e7c5d18fffc4d3957bc387f97ecf73a3", func := "dross/drosslaw27.AgreeOf", spec := "agreeOf", unfollowed := true, recurses := true, apart := false, narrowed := true }
def AgreeOfUptoSaid : Prop := agreeOfUptoRow.holds Try.pinned (OpenSpec.upto agreeOfSpec)

/-- 'drosslaw27.AgreeLarge', WHERE WHAT IT READS IS OF BULK AT MOST 1048576: true; the input reads as it did. -/
def agreeLargeUptoRow : OpenClaim := { program := "ytkehelplmipenaa", sum := "c7c5c801f04e5458f46bbc3420ca5426e7c5d18fffc4d3957bc387f97ecf73a3", func := "dross/drosslaw27.AgreeLarge", spec := "agreeLarge", unfollowed := true, recurses := true, apart := false, narrowed := true }
def AgreeLargeUptoSaid : Prop := agreeLargeUptoRow.holds Try.pinned (OpenSpec.upto agreeLargeSpec)

/-- 'drosslaw27.AgreeLists', WHERE WHAT IT READS IS OF BULK AT MOST 1048576: true; the input reads as it did. -/
def agreeListsUptoRow : OpenClaim := { program := "ytkehelplmipenaa", sum := "c7c5c801f04e5458f46bbc3420ca5426e7c5d18fffc4d3957bc387f97ecf73a3", func := "dross/drosslaw27.AgreeLists", spec := "agreeLists", unfollowed := true, recurses := true, apart := false, narrowed := true }
def AgreeListsUptoSaid : Prop := agreeListsUptoRow.holds Try.pinned (OpenSpec.upto agreeListsSpec)

/-- 'drosslaw27.AgreeHolds', WHERE WHAT IT READS IS OF BULK AT MOST 1048576: true; the input reads as it did. -/
def agreeHoldsUptoRow : OpenClaim := { program := "ytkehelplmipenaa", sum := "c7c5c801f04e5458f46bbc3420ca5426e7c5d18fffc4d3957bc387f97ecf73a3", func := "dross/drosslaw27.AgreeHolds", spec := "agreeHolds", unfollowed := true, recurses := true, apart := false, narrowed := true }
def AgreeHoldsUptoSaid : Prop := agreeHoldsUptoRow.holds Try.pinned (OpenSpec.upto agreeHoldsSpec)

end Rows
end Go.Proofs.Ytkehelplmipenaa
