/- The walk of drossref02.Sub. -/
import Derived.Test.YtkehelplmipenaaGWalk
namespace Go.Proofs.Ytkehelplmipenaa
open Go.RowKit

/-- Sub. -/
theorem sub_any (a b : S) (w : World) :
    Calls Try.prog 67 #[enc a, enc b] w fun e w' => e = .returned (.bool (decide (sub a b))) ∧ w = w' := by
  rw [← beq_sub]
  unfold enc
  go_enter Try.func67, Try.ntmps67
  go_wp2
  go_ret
  exact ⟨rfl, rfl⟩

end Go.Proofs.Ytkehelplmipenaa
