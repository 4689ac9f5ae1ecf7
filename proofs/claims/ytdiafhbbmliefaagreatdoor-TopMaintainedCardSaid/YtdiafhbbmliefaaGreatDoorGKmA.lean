/- Texts that belong together, in one file. -/
import Derived.Test.YtdiafhbbmliefaaGreatDoorKmE
import Derived.Test.YtdiafhbbmliefaaGreatDoorGKm3
import Derived.Test.YtdiafhbbmliefaaGreatDoorGSmall
import Derived.Test.YtdiafhbbmliefaaGreatDoorGTab20
/- The walk of awake of chapter 29: the chapter's example holds. -/
namespace Go.Proofs.YtdiafhbbmliefaaGreatDoor
open Go.RowKit
set_option linter.unusedVariables false

/-! The example's values. -/
variable (s1 s2 s3 : Value)


theorem RdG.one {w : World} {v : Value} {gs : List Gp} (h : RdG w v gs) {xs : List Int} (he : gs.map (·.2) = [xs]) : ∃ ao cap gv, v = .slice ao 1 cap ∧ (∃ b off, ao = some ⟨b, off, none⟩ ∧ ∀ wr, Below w.heap.size w wr → wr.cell? ⟨b, off, none⟩ = some gv) ∧ RdE encJ w gv xs := by
  match gs, he with
  | [(gv, gl)], he =>
    simp only [List.map_cons, List.map_nil, List.cons.injEq, and_true] at he
    subst he
    obtain ⟨ao, cap, rfl, -, hc⟩ := h.1.split
    obtain ⟨b, off, rfl, hd⟩ := hc 0 (gv, gl) rfl
    exact ⟨_, cap, gv, rfl, ⟨b, off, rfl, fun wr hn => by have := hd wr hn; simpa using this⟩, h.2 (gv, gl) (by simp)⟩


end Go.Proofs.YtdiafhbbmliefaaGreatDoor


/- Plain: what is known of a recipe's table. -/
namespace Go.Proofs.YtdiafhbbmliefaaGreatDoor
open Go.RowKit
set_option linter.unusedVariables false


end Go.Proofs.YtdiafhbbmliefaaGreatDoor

