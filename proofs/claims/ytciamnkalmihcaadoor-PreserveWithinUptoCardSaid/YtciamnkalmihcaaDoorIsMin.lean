/- The walk of cover's IsMinimal. -/
import Derived.Test.YtciamnkalmihcaaDoorCov3
namespace Go.Proofs.YtciamnkalmihcaaDoor
open Go.RowKit

/-- What bars the dependency i of a list from being part of a minimal list. -/
noncomputable def badB (fs : List F) (i : Nat) : Bool :=
  (pop (fs.getD i (0#32, 0#32)).2 != 1) || ((fs.getD i (0#32, 0#32)).2 &&& (fs.getD i (0#32, 0#32)).1 != 0#32) || redB fs i || (extSet fs (fs.getD i (0#32, 0#32)) != 0#32)
noncomputable def isMinB (fs : List F) : Bool := !(List.range fs.length).any (badB fs)
theorem badB_at {fs : List F} {i : Nat} {x : F} (h : fs[i]? = some x) : badB fs i = ((pop x.2 != 1) || (x.2 &&& x.1 != 0#32) || redB fs i || (extSet fs x != 0#32)) := by
  unfold badB; simp [List.getD, h]


end Go.Proofs.YtciamnkalmihcaaDoor
