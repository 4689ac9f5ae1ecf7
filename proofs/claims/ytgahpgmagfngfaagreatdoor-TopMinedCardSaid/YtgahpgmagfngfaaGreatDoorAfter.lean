/- Regions that draw their order and whose callees leave new memory behind: one walk in the text's order, over the class of all later worlds. No program. -/
import Derived.Test.YtgahpgmagfngfaaGreatDoorBase
import Derived.Deep.QuietTactic
import Derived.BigQuiet
namespace Go.Proofs.YtgahpgmagfngfaaGreatDoor
open Go.RowKit

/-- A world that came of w and holds all that w held. -/
structure After (w : World) where
  world : World
  below : Below w.heap.size w world

instance (w : World) : Nonempty (After w) := ⟨⟨w, Below.refl _ w⟩⟩

theorem wp_region_after {P : Program} {id : Nat} {Q : Exit → Act → World → Prop} {a : Act} {w : World} {l : List Oper} (hm : P.follows .mixedOrders = true) (hB : Region.lexB .any l.toArray = true)
    (h : wpQuiet P l.toArray (fun w' => ∃ i : After w, w' = i.world) (fun a' => ∀ w', Below w.heap.size w w' → Q .normal a' w') l a) : (Code.region id l.toArray true).wp P Q a w :=
  wp_region_quiet (C := fun w' => ∃ i : After w, w' = i.world) hm hB ⟨⟨_, below_drewN _ w 1⟩, rfl⟩ (by
    have e : (fun a' => ∀ w', Below w.heap.size w w' → Q .normal a' w') = fun a' => ∀ w', (∃ i : After w, w' = i.world) → Q .normal a' w' := by
      funext a'
      exact propext ⟨fun h w' ⟨i, hi⟩ => by rw [hi]; exact h _ i.below, fun h w' hb => h w' ⟨⟨w', hb⟩, rfl⟩⟩
    rw [← e]; simpa using h)

/-- A callee's contract, met in one of these worlds. -/
theorem Calls.after {P : Program} {f : FuncId} {args : Array Value} {w : World} {v : Value} (i : After w)
    (h : Calls P f args i.world fun e w' => e = .returned v ∧ Below i.world.heap.size i.world w') : Calls P f args i.world fun e w' => e = .returned v ∧ ∃ j : After w, w' = j.world :=
  h.mono fun _ w' ⟨he, hb⟩ => ⟨he, ⟨w', i.below.trans (hb.mono i.below.size)⟩, rfl⟩
theorem After.cell {w : World} {b o : Nat} {v : Value} (h : w.cell? ⟨b, o, none⟩ = some v) (i : After w) : i.world.cell? ⟨b, o, none⟩ = some v :=
  (i.below.cell (p := ⟨b, o, none⟩) (World.block_lt_of_cell? _ _ h)).trans h

end Go.Proofs.YtgahpgmagfngfaaGreatDoor
