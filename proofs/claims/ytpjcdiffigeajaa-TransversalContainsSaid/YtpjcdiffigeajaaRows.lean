/-
  No cell of these rows narrows 'for every input' (looked for: loops, veiled, ifaces, maps, wideKeys, modest, calm, conditions, laid).
  DERIVED. THE GIVEN ROWS OF THIS SEAT. 8 by the template 'for every input the law returns true; each argument reads behind the call as it read before'; 0 by the template 'total and deterministic' (their statements: YtpjcdiffigeajaaTotals.lean).
  GIVEN WITH THE SEED: the statements are not yours to turn. If you find one false, say at which input.
  Laid BY PROGRAM, IN A SANDBOX (cutbox-rows.mjs): the forced cells as the released guide's own fill.sh prints them over the translation 95d5ce5621e1693f… (all of the seat's roots in one cut). By AI agents, Wed Nov 11 2026. No macro, syntax, notation, axiom, sorry.
-/
import Derived.Test.YtpjcdiffigeajaaChecked
import GoSem.Claim
import GoSem.ClaimJoined
import GoSem.ClaimMapViews
import Derived.JoinedTies
import Derived.KernelRfl
namespace Go.Proofs.Ytpjcdiffigeajaa
/- THE CELL 'sum', in the pinned program and in every row, IS THE sha256 OF THE DUMP (.gsa) THAT YtpjcdiffigeajaaProg.lean LOADS. Nothing in Lean hashes anything: it is a label: what it is worth is what the hold of that sum in a sandbox is worth. -/
noncomputable def Try.pinned : Pinned := { name := "ytpjcdiffigeajaa", sum := "95d5ce5621e1693f5e073c1c5cf2908dbc3837b326c2746601b0d2ef2161fc03", checked := Try.checked }
namespace Rows
def none {H : Type} : Left H := { results := [], args := [] }

/-- 'drosslaw07.TransversalValid': WHATEVER THE INPUT: true; the input reads as it did. -/
def transversalValidSpec : ChangeSpec := { name := "transversalValid", fn := fun _ => fun
  | [d1, d2] => { results := [.lit (.bool true)], args := [d1, d2] }
  | _ => none }
def transversalValidRow : OpenClaim := { program := "ytpjcdiffigeajaa", sum := "95d5ce5621e1693f5e073c1c5cf2908dbc3837b326c2746601b0d2ef2161fc03", func := "dross/drosslaw07.TransversalValid", spec := "transversalValid", unfollowed := true, recurses := true, apart := false }
def TransversalValidSaid : Prop := transversalValidRow.holds Try.pinned (OpenSpec.ofChange transversalValidSpec)

/-- ITS FALSE NEIGHBOUR: 'it returns false'. Refute it at one input. -/
def transversalValidWrong : ChangeSpec := { name := "transversalValid", fn := fun _ => fun
  | [d1, d2] => { results := [.lit (.bool false)], args := [d1, d2] }
  | _ => none }
def TransversalValidWrongFalsely : Prop := transversalValidRow.holds Try.pinned (OpenSpec.ofChange transversalValidWrong)

/-- 'drosslaw07.TransversalAll': WHATEVER THE INPUT: true; the input reads as it did. -/
def transversalAllSpec : ChangeSpec := { name := "transversalAll", fn := fun _ => fun
  | [d1, d2] => { results := [.lit (.bool true)], args := [d1, d2] }
  | _ => none }
def transversalAllRow : OpenClaim := { program := "ytpjcdiffigeajaa", sum := "95d5ce5621e1693f5e073c1c5cf2908dbc3837b326c2746601b0d2ef2161fc03", func := "dross/drosslaw07.TransversalAll", spec := "transversalAll", unfollowed := true, recurses := true, apart := false }
def TransversalAllSaid : Prop := transversalAllRow.holds Try.pinned (OpenSpec.ofChange transversalAllSpec)

/-- ITS FALSE NEIGHBOUR: 'it returns false'. Refute it at one input. -/
def transversalAllWrong : ChangeSpec := { name := "transversalAll", fn := fun _ => fun
  | [d1, d2] => { results := [.lit (.bool false)], args := [d1, d2] }
  | _ => none }
def TransversalAllWrongFalsely : Prop := transversalAllRow.holds Try.pinned (OpenSpec.ofChange transversalAllWrong)

/-- 'drosslaw07.TransversalSmallest': WHATEVER THE INPUT: true; the input reads as it did. -/
def transversalSmallestSpec : ChangeSpec := { name := "transversalSmallest", fn := fun _ => fun
  | [d1, d2] => { results := [.lit (.bool true)], args := [d1, d2] }
  | _ => none }
def transversalSmallestRow : OpenClaim := { program := "ytpjcdiffigeajaa", sum := "95d5ce5621e1693f5e073c1c5cf2908dbc3837b326c2746601b0d2ef2161fc03", func := "dross/drosslaw07.TransversalSmallest", spec := "transversalSmallest", unfollowed := true, recurses := true, apart := false }
def TransversalSmallestSaid : Prop := transversalSmallestRow.holds Try.pinned (OpenSpec.ofChange transversalSmallestSpec)

/-- ITS FALSE NEIGHBOUR: 'it returns false'. Refute it at one input. -/
def transversalSmallestWrong : ChangeSpec := { name := "transversalSmallest", fn := fun _ => fun
  | [d1, d2] => { results := [.lit (.bool false)], args := [d1, d2] }
  | _ => none }
def TransversalSmallestWrongFalsely : Prop := transversalSmallestRow.holds Try.pinned (OpenSpec.ofChange transversalSmallestWrong)

/-- 'drosslaw07.TransversalDual': WHATEVER THE INPUT: true; the input reads as it did. -/
def transversalDualSpec : ChangeSpec := { name := "transversalDual", fn := fun _ => fun
  | [d1, d2, d3] => { results := [.lit (.bool true)], args := [d1, d2, d3] }
  | _ => none }
def transversalDualRow : OpenClaim := { program := "ytpjcdiffigeajaa", sum := "95d5ce5621e1693f5e073c1c5cf2908dbc3837b326c2746601b0d2ef2161fc03", func := "dross/drosslaw07.TransversalDual", spec := "transversalDual", unfollowed := true, recurses := true, apart := false }
def TransversalDualSaid : Prop := transversalDualRow.holds Try.pinned (OpenSpec.ofChange transversalDualSpec)

/-- ITS FALSE NEIGHBOUR: 'it returns false'. Refute it at one input. -/
def transversalDualWrong : ChangeSpec := { name := "transversalDual", fn := fun _ => fun
  | [d1, d2, d3] => { results := [.lit (.bool false)], args := [d1, d2, d3] }
  | _ => none }
def TransversalDualWrongFalsely : Prop := transversalDualRow.holds Try.pinned (OpenSpec.ofChange transversalDualWrong)

/-- 'drosslaw07.TransversalReduce': WHATEVER THE INPUT: true; the input reads as it did. -/
def transversalReduceSpec : ChangeSpec := { name := "transversalReduce", fn := fun _ => fun
  | [d1, d2] => { results := [.lit (.bool true)], args := [d1, d2] }
  | _ => none }
def transversalReduceRow : OpenClaim := { program := "ytpjcdiffigeajaa", sum := "95d5ce5621e1693f5e073c1c5cf2908dbc3837b326c2746601b0d2ef2161fc03", func := "dross/drosslaw07.TransversalReduce", spec := "transversalReduce", unfollowed := true, recurses := true, apart := false }
def TransversalReduceSaid : Prop := transversalReduceRow.holds Try.pinned (OpenSpec.ofChange transversalReduceSpec)

/-- ITS FALSE NEIGHBOUR: 'it returns false'. Refute it at one input. -/
def transversalReduceWrong : ChangeSpec := { name := "transversalReduce", fn := fun _ => fun
  | [d1, d2] => { results := [.lit (.bool false)], args := [d1, d2] }
  | _ => none }
def TransversalReduceWrongFalsely : Prop := transversalReduceRow.holds Try.pinned (OpenSpec.ofChange transversalReduceWrong)

/-- 'drosslaw07.TransversalTwice': WHATEVER THE INPUT: true; the input reads as it did. -/
def transversalTwiceSpec : ChangeSpec := { name := "transversalTwice", fn := fun _ => fun
  | [d1, d2] => { results := [.lit (.bool true)], args := [d1, d2] }
  | _ => none }
def transversalTwiceRow : OpenClaim := { program := "ytpjcdiffigeajaa", sum := "95d5ce5621e1693f5e073c1c5cf2908dbc3837b326c2746601b0d2ef2161fc03", func := "dross/drosslaw07.TransversalTwice", spec := "transversalTwice", unfollowed := true, recurses := true, apart := false }
def TransversalTwiceSaid : Prop := transversalTwiceRow.holds Try.pinned (OpenSpec.ofChange transversalTwiceSpec)

/-- ITS FALSE NEIGHBOUR: 'it returns false'. Refute it at one input. -/
def transversalTwiceWrong : ChangeSpec := { name := "transversalTwice", fn := fun _ => fun
  | [d1, d2] => { results := [.lit (.bool false)], args := [d1, d2] }
  | _ => none }
def TransversalTwiceWrongFalsely : Prop := transversalTwiceRow.holds Try.pinned (OpenSpec.ofChange transversalTwiceWrong)

/-- 'drosslaw07.TransversalContains': WHATEVER THE INPUT: true; the input reads as it did. -/
def transversalContainsSpec : ChangeSpec := { name := "transversalContains", fn := fun _ => fun
  | [d1, d2, d3] => { results := [.lit (.bool true)], args := [d1, d2, d3] }
  | _ => none }
def transversalContainsRow : OpenClaim := { program := "ytpjcdiffigeajaa", sum := "95d5ce5621e1693f5e073c1c5cf2908dbc3837b326c2746601b0d2ef2161fc03", func := "dross/drosslaw07.TransversalContains", spec := "transversalContains", unfollowed := true, recurses := true, apart := false }
def TransversalContainsSaid : Prop := transversalContainsRow.holds Try.pinned (OpenSpec.ofChange transversalContainsSpec)

/-- ITS FALSE NEIGHBOUR: 'it returns false'. Refute it at one input. -/
def transversalContainsWrong : ChangeSpec := { name := "transversalContains", fn := fun _ => fun
  | [d1, d2, d3] => { results := [.lit (.bool false)], args := [d1, d2, d3] }
  | _ => none }
def TransversalContainsWrongFalsely : Prop := transversalContainsRow.holds Try.pinned (OpenSpec.ofChange transversalContainsWrong)

/-- 'drosslaw07.TransversalHits': WHATEVER THE INPUT: true; the input reads as it did. -/
def transversalHitsSpec : ChangeSpec := { name := "transversalHits", fn := fun _ => fun
  | [d1, d2] => { results := [.lit (.bool true)], args := [d1, d2] }
  | _ => none }
def transversalHitsRow : OpenClaim := { program := "ytpjcdiffigeajaa", sum := "95d5ce5621e1693f5e073c1c5cf2908dbc3837b326c2746601b0d2ef2161fc03", func := "dross/drosslaw07.TransversalHits", spec := "transversalHits", unfollowed := true, recurses := true, apart := false }
def TransversalHitsSaid : Prop := transversalHitsRow.holds Try.pinned (OpenSpec.ofChange transversalHitsSpec)

/-- ITS FALSE NEIGHBOUR: 'it returns false'. Refute it at one input. -/
def transversalHitsWrong : ChangeSpec := { name := "transversalHits", fn := fun _ => fun
  | [d1, d2] => { results := [.lit (.bool false)], args := [d1, d2] }
  | _ => none }
def TransversalHitsWrongFalsely : Prop := transversalHitsRow.holds Try.pinned (OpenSpec.ofChange transversalHitsWrong)

/- THE SECOND FORM. 'bulk': how many values and letters a reading holds, each counted each time it is reached (what is shared counts as often as it is met; a slice's spare places count too). A statement '..UptoSaid' is the law's where the arguments, and the package variables that the reading takes, are together of bulk at most 1048576: NARROWER than '..Said'. Prove '..Said' where nothing that the law and all that it calls make is longer than what came in: it says more and counts as full. Else prove '..UptoSaid'. A law counts once. -/
mutual
def uptoBulk {H : Type} : DataW H → Nat
  | .lit (.string bytes) => bytes.length + 1
  | .lit _ => 1
  | .nil => 1
  | .ptr d => uptoBulk d + 1
  | .slice elems spare => uptoBulkAll elems + uptoBulkAll spare + 1
  | .agg parts => uptoBulkAll parts + 1
  | .iface _ d => uptoBulk d + 1
  | .map entries => uptoBulkEntries entries + 1
  | .held _ => 1
def uptoBulkAll {H : Type} : List (DataW H) → Nat
  | [] => 0
  | d :: r => uptoBulk d + uptoBulkAll r
def uptoBulkEntries {H : Type} : List (Lit × DataW H) → Nat
  | [] => 0
  | x :: r => uptoBulkEntry x + uptoBulkEntries r
def uptoBulkEntry {H : Type} : Lit × DataW H → Nat
  | (.string bytes, d) => bytes.length + uptoBulk d + 1
  | (_, d) => uptoBulk d + 1
 end
def uptoSmall : (H : Type) → List (DataW H) → Bool := fun _ ds => decide (uptoBulkAll ds ≤ 1048576)
def OpenSpec.upto (s : _root_.Go.ChangeSpec) : _root_.Go.OpenSpec := { _root_.Go.OpenSpec.ofChange s with cond := some uptoSmall }

/-- 'drosslaw07.TransversalValid', WHERE WHAT IT READS IS OF BULK AT MOST 1048576: true; the input reads as it did. -/
def transversalValidUptoRow : OpenClaim := { program := "ytpjcdiffigeajaa", sum := "95d5ce5621e1693f5e073c1c5cf2908dbc3837b326c2746601b0d2ef2161fc03", func := "dross/drosslaw07.TransversalValid", spec := "transversalValid", unfollowed := true, recurses := true, apart := false, narrowed := true }
def TransversalValidUptoSaid : Prop := transversalValidUptoRow.holds Try.pinned (OpenSpec.upto transversalValidSpec)

/-- 'drosslaw07.TransversalAll', WHERE WHAT IT READS IS OF BULK AT MOST 1048576: true; the input reads as it did. -/
def transversalAllUptoRow : OpenClaim := { program := "ytpjcdiffigeajaa", sum := "95d5ce5621e1693f5e073c1c5cf2908dbc3837b326c2746601b0d2ef2161fc03", func := "dross/drosslaw07.TransversalAll", spec := "transversalAll", unfollowed := true, recurses := true, apart := false, narrowed := true }
def TransversalAllUptoSaid : Prop := transversalAllUptoRow.holds Try.pinned (OpenSpec.upto transversalAllSpec)

/-- 'drosslaw07.TransversalSmallest', WHERE WHAT IT READS IS OF BULK AT MOST 1048576: true; the input reads as it did. -/
def transversalSmallestUptoRow : OpenClaim := { program := "ytpjcdiffigeajaa", sum := "95d5ce5621e1693f5e073c1c5cf2908dbc3837b326c2746601b0d2ef2161fc03", func := "dross/drosslaw07.TransversalSmallest", spec := "transversalSmallest", unfollowed := true, recurses := true, apart := false, narrowed := true }
def TransversalSmallestUptoSaid : Prop := transversalSmallestUptoRow.holds Try.pinned (OpenSpec.upto transversalSmallestSpec)

/-- 'drosslaw07.TransversalDual', WHERE WHAT IT READS IS OF BULK AT MOST 1048576: true; the input reads as it did. -/
def transversalDualUptoRow : OpenClaim := { program := "ytpjcdiffigeajaa", sum := "95d5ce5621e1693f5e073c1c5cf2908dbc3837b326c2746601b0d2ef2161fc03", func := "dross/drosslaw07.TransversalDual", spec := "transversalDual", unfollowed := true, recurses := true, apart := false, narrowed := true }
def TransversalDualUptoSaid : Prop := transversalDualUptoRow.holds Try.pinned (OpenSpec.upto transversalDualSpec)

/-- 'drosslaw07.TransversalReduce', WHERE WHAT IT READS IS OF BULK AT MOST 1048576: true; the input reads as it did. -/
def transversalReduceUptoRow : OpenClaim := { program := "ytpjcdiffigeajaa", sum := "95d5ce5621e1693f5e073c1c5cf2908dbc3837b326c2746601b0d2ef2161fc03", func := "dross/drosslaw07.TransversalReduce", spec := "transversalReduce", unfollowed := true, recurses := true, apart := false, narrowed := true }
def TransversalReduceUptoSaid : Prop := transversalReduceUptoRow.holds Try.pinned (OpenSpec.upto transversalReduceSpec)

/-- 'drosslaw07.TransversalTwice', WHERE WHAT IT READS IS OF BULK AT MOST 1048576: true; the input reads as it did. -/
def transversalTwiceUptoRow : OpenClaim := { program := "ytpjcdiffigeajaa", sum := "95d5ce5621e1693f5e073c1c5cf2908dbc3837b326c2746601b0d2ef2161fc03", func := "dross/drosslaw07.TransversalTwice", spec := "transversalTwice", unfollowed := true, recurses := true, apart := false, narrowed := true }
def TransversalTwiceUptoSaid : Prop := transversalTwiceUptoRow.holds Try.pinned (OpenSpec.upto transversalTwiceSpec)

/-- 'drosslaw07.TransversalContains', WHERE WHAT IT READS IS OF BULK AT MOST 1048576: true; the input reads as it did. -/
def transversalContainsUptoRow : OpenClaim := { program := "ytpjcdiffigeajaa", sum := "95d5ce5621e1693f5e073c1c5cf2908dbc3837b326c2746601b0d2ef2161fc03", func := "dross/drosslaw07.TransversalContains", spec := "transversalContains", unfollowed := true, recurses := true, apart := false, narrowed := true }
def TransversalContainsUptoSaid : Prop := transversalContainsUptoRow.holds Try.pinned (OpenSpec.upto transversalContainsSpec)

/-- 'drosslaw07.TransversalHits', WHERE WHAT IT READS IS OF BULK AT MOST 1048576: true; the input reads as it did. -/
def transversalHitsUptoRow : OpenClaim := { program := "ytpjcdiffigeajaa", sum := "95d5ce5621e1693f5e073c1c5cf2908dbc3837b326c2746601b0d2ef2161fc03", func := "dross/drosslaw07.TransversalHits", spec := "transversalHits", unfollowed := true, recurses := true, apart := false, narrowed := true }
def TransversalHitsUptoSaid : Prop := transversalHitsUptoRow.holds Try.pinned (OpenSpec.upto transversalHitsSpec)

end Rows
end Go.Proofs.Ytpjcdiffigeajaa
