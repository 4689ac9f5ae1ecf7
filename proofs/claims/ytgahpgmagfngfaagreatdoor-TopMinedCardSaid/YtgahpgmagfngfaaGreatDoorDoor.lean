/- What the rows' list gives: the table of the library; and a world that holds it. -/
import Derived.Test.YtgahpgmagfngfaaGreatDoorRows
import Derived.Test.YtgahpgmagfngfaaGreatDoorGKm2
import Derived.Lib.LaidTab
import Derived.Deep.DeepHandedRow
import Derived.ProofKit
namespace Go.Proofs.YtgahpgmagfngfaaGreatDoor
open Go.ChangeShapes Go.WideShapes Go.ChangeAt Go.RowKit

theorem gTab : Tryz.prog.globalNamed "math/bits.deBruijn32tab" = some 0 := by kernel_rfl
theorem gTabType : (Tryz.prog.globals[0]?).map (·.type) = some 245 := by kernel_rfl
theorem cellsTab : Tryz.prog.cellsOf 245 = 32 := by kernel_rfl
theorem cellsU8 : Tryz.prog.cellsOf 5 = 1 := by kernel_rfl
theorem tab_of {W : World} (h : laidMetH Tryz.prog [("math/bits.deBruijn32tab", Rows.laid_math_bits_deBruijn32tab)] W) : Tab W := by
  have T : Lib.TabIs Tryz.prog W "math/bits.deBruijn32tab" .u8 (tabL.map fun n : Nat => (n : Int)) :=
    Lib.tabIs_of_head (rest := []) gTab gTabType Tryz.underlying245 Tryz.underlying5 cellsU8 cellsTab h
  have hc : ∀ i n : Nat, tabL[i]? = some n → W.cell? ⟨0, i, none⟩ = some (.int .u8 (n : Int)) := by
    intro i n hi
    have hl := (List.getElem?_eq_some_iff.1 hi).1
    have := T.cell gTab i (by simpa using hl)
    rw [this]
    simp [List.getD, hi]
  exact ⟨World.block_lt_of_cell? _ _ (hc 0 0 rfl), hc⟩
noncomputable def laidWorld (os : Os) : World :=
  { World.holding Tryz.prog os ⟨#[], #[], []⟩ with heap := (World.holding Tryz.prog os ⟨#[], #[], []⟩).heap.modify 0 fun
      | .cells _ t frozen => .cells (tabL.map fun n : Nat => Value.int .u8 (n : Int)).toArray t frozen
      | o => o }

end Go.Proofs.YtgahpgmagfngfaaGreatDoor
