/- Texts that belong together, in one file. -/
import Derived.Test.YtdiafhbbmliefaaGreatDoorGKm2
import Derived.Test.YtdiafhbbmliefaaGreatDoorGWalk
import Derived.Deep.QuietTactic
import Derived.BigQuiet
/- The walk of keymine's right. -/
namespace Go.Proofs.YtdiafhbbmliefaaGreatDoor
open Go.RowKit
set_option linter.unusedVariables false

def shrOk (s : S) (n : Nat) : Bool := s >>> n == 0#32

attribute [local irreducible] Go.wpQuiet

end Go.Proofs.YtdiafhbbmliefaaGreatDoor


/- slices.Equal at numbers and at sets, slices.Index and Contains at sets. -/
namespace Go.Proofs.YtdiafhbbmliefaaGreatDoor
open Go.RowKit





end Go.Proofs.YtdiafhbbmliefaaGreatDoor


/- The walk of keymine's Check. -/
namespace Go.Proofs.YtdiafhbbmliefaaGreatDoor
open Go.RowKit
set_option linter.unusedVariables false



end Go.Proofs.YtdiafhbbmliefaaGreatDoor


/- Plain laws of chapter 29: what All and Maximal give is a right certificate. No program. -/
namespace Go.Proofs.YtdiafhbbmliefaaGreatDoor
open Go.RowKit
set_option linter.unusedVariables false

theorem tabE2_tab {t : T3} (h : tabE2 t = 0) : tabE t = 0 := by
  unfold tabE2 at h
  by_cases h1 : tabE t = 0
  · exact h1
  · rw [if_pos h1] at h; exact h
theorem shrOk_sub {s : S} {n : Nat} (hn : n ≤ 32) : shrOk s n = true ↔ sub s (fullN n) := by
  unfold shrOk
  rw [beq_iff_eq]
  constructor
  · intro h
    refine bits_sub (fun i hi => ?_) hn
    have := congrArg (fun x => x.getLsbD (i - n)) h
    simpa [BitVec.getLsbD_ushiftRight, Nat.add_sub_cancel' hi] using this
  · intro h
    apply BitVec.eq_of_getLsbD_eq
    intro i _
    rw [BitVec.getLsbD_ushiftRight]
    simpa using sub_full_bits hn h (n + i) (by omega)

end Go.Proofs.YtdiafhbbmliefaaGreatDoor

