/- Texts that belong together, in one file. -/
import Derived.Test.YtgahpgmagfngfaaGreatDoorGKm2
import Derived.Test.YtgahpgmagfngfaaGreatDoorGWalk
import Derived.Deep.QuietTactic
import Derived.BigQuiet
/- The walk of keymine's right. -/
namespace Go.Proofs.YtgahpgmagfngfaaGreatDoor
open Go.RowKit
set_option linter.unusedVariables false

def shrOk (s : S) (n : Nat) : Bool := s >>> n == 0#32

attribute [local irreducible] Go.wpQuiet

end Go.Proofs.YtgahpgmagfngfaaGreatDoor


/- slices.Equal at numbers and at sets, slices.Index and Contains at sets. -/
namespace Go.Proofs.YtgahpgmagfngfaaGreatDoor
open Go.RowKit





end Go.Proofs.YtgahpgmagfngfaaGreatDoor


/- The walk of keymine's Check. -/
namespace Go.Proofs.YtgahpgmagfngfaaGreatDoor
open Go.RowKit
set_option linter.unusedVariables false



end Go.Proofs.YtgahpgmagfngfaaGreatDoor


/- Plain laws of chapter 29: what All and Maximal give is a right certificate. No program. -/
namespace Go.Proofs.YtgahpgmagfngfaaGreatDoor
open Go.RowKit
set_option linter.unusedVariables false

theorem tabE_rows {t : T3} (h : tabE t = 0) : rowsE 0 t.2.1.length t.2.2 = 0 := by
  unfold tabE at h
  split at h
  · cases h
  · split at h
    · cases h
    · split at h
      · cases h
      · exact h
theorem tabE2_tab {t : T3} (h : tabE2 t = 0) : tabE t = 0 := by
  unfold tabE2 at h
  by_cases h1 : tabE t = 0
  · exact h1
  · rw [if_pos h1] at h; exact h
theorem shrOk_sub {s : S} {n : Nat} (hn : n ≤ 32) : shrOk s n = true ↔ sub s (fullN n) := by
  unfold shrOk
  rw [beq_iff_eq]
  constructor
  · intro h
    refine bits_sub (fun i hi => ?_) hn
    have := congrArg (fun x => x.getLsbD (i - n)) h
    simpa [BitVec.getLsbD_ushiftRight, Nat.add_sub_cancel' hi] using this
  · intro h
    apply BitVec.eq_of_getLsbD_eq
    intro i _
    rw [BitVec.getLsbD_ushiftRight]
    simpa using sub_full_bits hn h (n + i) (by omega)

end Go.Proofs.YtgahpgmagfngfaaGreatDoor

