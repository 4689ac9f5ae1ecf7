/- Texts that belong together, in one file. -/
import Derived.Test.YtcfcmalaabmceaaGreatDoorGDer
import Derived.Test.YtcfcmalaabmceaaGreatDoorGWalk
import Derived.Test.YtcfcmalaabmceaaGreatDoorGPtA
import Derived.StillTailTactics
/- The walk of derivation.right, where the step is right (gender5.py prints this). -/
namespace Go.Proofs.YtcfcmalaabmceaaGreatDoor
open Go.RowKit
set_option linter.unusedVariables false
set_option linter.unusedSimpArgs false

/-- The cells that right has laid: the boxes of steps and i, the step, its conclusion. -/
structure RgtC (W : World) (b : Nat) (sv : Value) (i : Nat) (s : St3) : Prop where
  pa : W.cell? ⟨b, 0, none⟩ = some sv
  pb : W.cell? ⟨b + 1, 0, none⟩ = some (.int .i64 (i : Int))
  pc : W.cell? ⟨b + 2, 0, none⟩ = some (.int .i64 s.1) ∧ W.cell? ⟨b + 2, 1, none⟩ = some s.2.1 ∧ W.cell? ⟨b + 2, 2, none⟩ = some (.int .u32 (iv s.2.2.2.1)) ∧ W.cell? ⟨b + 2, 3, none⟩ = some (.int .u32 (iv s.2.2.2.2))
  pd : W.cell? ⟨b + 3, 0, none⟩ = some (.int .u32 (iv s.2.2.2.1)) ∧ W.cell? ⟨b + 3, 1, none⟩ = some (.int .u32 (iv s.2.2.2.2))
theorem RgtC.below {W W' : World} {b i : Nat} {sv : Value} {s : St3} (h : RgtC W b sv i s) (hb : Below W.heap.size W W') : RgtC W' b sv i s := by
  have k : ∀ {p q : Nat} {v : Value}, W.cell? ⟨p, q, none⟩ = some v → W'.cell? ⟨p, q, none⟩ = some v := fun h => (hb.cell (p := ⟨_, _, none⟩) (World.block_lt_of_cell? _ _ h)).trans h
  exact ⟨k h.pa, k h.pb, ⟨k h.pc.1, k h.pc.2.1, k h.pc.2.2.1, k h.pc.2.2.2⟩, k h.pd.1, k h.pd.2⟩
attribute [local irreducible] Go.wpQuiet


end Go.Proofs.YtcfcmalaabmceaaGreatDoor


/- The walk of derivation.Prune, where nothing goes. -/
namespace Go.Proofs.YtcfcmalaabmceaaGreatDoor
open Go.RowKit
set_option linter.unusedVariables false
set_option linter.unusedSimpArgs false




end Go.Proofs.YtcfcmalaabmceaaGreatDoor

