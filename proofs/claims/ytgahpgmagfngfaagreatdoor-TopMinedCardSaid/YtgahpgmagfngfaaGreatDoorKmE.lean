/- The walks of drossref01.List and of the example of chapter 29. -/
import Derived.Test.YtgahpgmagfngfaaGreatDoorGTab30
namespace Go.Proofs.YtgahpgmagfngfaaGreatDoor
open Go.RowKit
set_option linter.unusedVariables false


/-! The example. -/

/-- All that lay in a below M lies in w, but block x. -/
structure KeptX (M x : Nat) (a w : World) : Prop where
  below : Below x a w
  rest : ∀ k, x < k → k < M → w.heap[k]? = a.heap[k]?
theorem KeptX.refl (M x : Nat) (a : World) : KeptX M x a a := ⟨Below.refl _ _, fun _ _ _ => rfl⟩
theorem KeptX.later {M x : Nat} {a w w' : World} (h : KeptX M x a w) (hb : Below w.heap.size w w') (hM : M ≤ w.heap.size) (hx : x ≤ w.heap.size) : KeptX M x a w' :=
  ⟨h.below.trans (hb.mono hx), fun k h1 h2 => (hb.block k (by omega)).trans (h.rest k h1 h2)⟩
theorem KeptX.grown {M x : Nat} {a w w' : World} {row : Option Nat} (h : KeptX M x a w) (hg : w.grownBy w' row) (hM : M ≤ w.heap.size) (hx : x ≤ M) (hr : ∀ j, row = some j → M ≤ j) : KeptX M x a w' :=
  ⟨h.below.grown hg (by omega) (fun j hj => by have := hr j hj; omega), fun k h1 h2 => (hg.block k (by omega) (fun e => by have := hr k e.symm; omega)).trans (h.rest k h1 h2)⟩
theorem KeptX.set {M x o : Nat} {a w : World} (h : KeptX M x a w) (v : Value) : KeptX M x a (w.setCell ⟨x, o, none⟩ v) :=
  ⟨h.below.setCell (p := ⟨x, o, none⟩) (Nat.le_refl _) v, fun k h1 h2 => by
    refine Eq.trans ?_ (h.rest k h1 h2)
    unfold World.setCell
    simp only
    rw [Array.getElem?_modify, if_neg (by omega)]⟩
theorem KeptX.cell {M x : Nat} {a w : World} (h : KeptX M x a w) {b o : Nat} (h1 : x < b) (h2 : b < M) : w.cell? ⟨b, o, none⟩ = a.cell? ⟨b, o, none⟩ := World.cell?_of_block (w := a) (h.rest b h1 h2)
theorem KeptX.rd {M x : Nat} {a w : World} (h : KeptX M x a w) {α : Type} {f : α → Value} {b off n cap : Nat} {xs : List α} (hr : RdE f a (.slice (some ⟨b, off, none⟩) n cap) xs) (h1 : x < b) (h2 : b < M) (hM : M ≤ w.heap.size) : RdE f w (.slice (some ⟨b, off, none⟩) n cap) xs := by
  obtain ⟨ao, cap', e, h3, h4, h5⟩ := hr
  refine ⟨ao, cap', e, h3, h4, fun hp => ?_⟩
  obtain ⟨b', off', e2, hlt, hc⟩ := h5 hp
  subst e2
  cases e
  exact ⟨b, off, rfl, by omega, fun j u hu => (h.cell h1 h2).trans (hc j u hu)⟩


end Go.Proofs.YtgahpgmagfngfaaGreatDoor
