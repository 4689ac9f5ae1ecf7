/- Texts that belong together, in one file. -/
import Derived.Test.YtgahpgmagfngfaaGreatDoorGTab14
import Derived.Test.YtgahpgmagfngfaaGreatDoorGTabB
import Derived.StillTailTactics
import Derived.Laws.StructEq
import Derived.IntWalk
/- The walks of Witness, of agree and of the reference. -/
namespace Go.Proofs.YtgahpgmagfngfaaGreatDoor
open Go.RowKit




theorem set3 {W : World} {b : Nat} {x y z x' y' z' : Value} (h0 : W.cell? ⟨b, 0, none⟩ = some x') (h1 : W.cell? ⟨b, 1, none⟩ = some y') (h2 : W.cell? ⟨b, 2, none⟩ = some z') {W3 : World} (hW : ((W.setCell ⟨b, 0, none⟩ x).setCell ⟨b, 1, none⟩ y).setCell ⟨b, 2, none⟩ z = W3) :
    W3.cell? ⟨b, 0, none⟩ = some x ∧ W3.cell? ⟨b, 1, none⟩ = some y ∧ W3.cell? ⟨b, 2, none⟩ = some z := by
  subst hW
  refine ⟨?_, ?_, ?_⟩
  · rw [World.cell?_setCell_other _ _ _ _ (by simp), World.cell?_setCell_other _ _ _ _ (by simp)]; exact World.cell?_setCell_same _ _ _ h0
  · rw [World.cell?_setCell_other _ _ _ _ (by simp)]; exact World.cell?_setCell_same _ _ _ ((World.cell?_setCell_other _ _ _ _ (by simp)).trans h1)
  · exact World.cell?_setCell_same _ _ _ ((World.cell?_setCell_other _ _ _ _ (by simp)).trans ((World.cell?_setCell_other _ _ _ _ (by simp)).trans h2))



end Go.Proofs.YtgahpgmagfngfaaGreatDoor


/- The walks of Find and Of, of the program and of the reference. -/
namespace Go.Proofs.YtgahpgmagfngfaaGreatDoor
open Go.RowKit









end Go.Proofs.YtgahpgmagfngfaaGreatDoor


/- Chapter 27's contracts in the words of the laws; the comparisons of lists of counts and of pairs; few. -/
namespace Go.Proofs.YtgahpgmagfngfaaGreatDoor
open Go.RowKit Go.Shelf Go.Lib



theorem RdCt.split {w : World} {v : Value} {xs : List C2} (h : RdCt w v xs) : ∃ ao cap, v = .slice ao xs.length cap ∧ xs.length ≤ 35184372088832 ∧
    ∀ (k : Nat) (x : C2), xs[k]? = some x → ∃ b off, ao = some ⟨b, off, none⟩ ∧ ∀ wr, Below w.heap.size w wr → wr.cell? ⟨b, off + k * 2, none⟩ = some (.int .u32 (iv x.1)) ∧ wr.cell? ⟨b, off + k * 2 + 1, none⟩ = some (.int .i64 x.2) := by
  obtain ⟨ao, cap, rfl, -, h2, h3⟩ := h
  refine ⟨ao, cap, rfl, h2, fun k f hf => ?_⟩
  obtain ⟨b, off, rfl, hb, hc⟩ := h3 (by have := (List.getElem?_eq_some_iff.1 hf).1; omega)
  exact ⟨b, off, rfl, fun wr hn => ⟨(hn.cell (p := ⟨b, off + k * 2, none⟩) hb).trans (hc _ _ (flat_at cC_length xs k f 0 _ hf rfl)), (hn.cell (p := ⟨b, off + k * 2 + 1, none⟩) hb).trans (hc _ _ (flat_at cC_length xs k f 1 _ hf rfl))⟩⟩
theorem ssame_any (xs : List S) (v u : Value) (w : World) (hv : RdE enc w v xs) (hu : RdE enc w u xs) :
    Calls Tryz.prog 15 #[v, u] w fun e w' => e = .returned (.bool true) ∧ Below w.heap.size w w' :=
  (same_any xs xs v u w hv hu).mono fun e w' ⟨he, q, hq⟩ => ⟨by rw [he]; simp, by rw [hq]; exact below_drewN _ _ _⟩
theorem ssame_lit (l : List S) (v : Value) (W : World) (o : Obj) (ho : o = .cells (l.map enc).toArray 55) (m : Nat) (hm : m = l.length) (hl : l.length ≤ 1000) (h : RdE enc W v l) :
    Calls Tryz.prog 15 #[v, .slice (some ⟨W.heap.size, 0, none⟩) m m] (W.alloc o) fun e w' => e = .returned (.bool true) ∧ Below W.heap.size W w' := by
  subst ho hm
  refine (ssame_any l v _ _ (h.below (below_alloc _ _)) (RdE.lit W l _ hl)).mono fun e w' ⟨he, hb⟩ => ⟨he, (below_alloc _ _).trans (hb.mono (below_alloc W _).size)⟩


end Go.Proofs.YtgahpgmagfngfaaGreatDoor


/- The example of chapter 27: the walk of its law package's awake. -/
namespace Go.Proofs.YtgahpgmagfngfaaGreatDoor
open Go.RowKit

theorem ord_lit {a b : List S} (h1 : b.Pairwise (fun x y => cmpS x y < 0)) (h2 : b.Perm a) : ordS a = b := (ordS_of (p := (· ∈ b)) ⟨h1, fun _ => Iff.rfl⟩ fun _ => h2.mem_iff).symm



end Go.Proofs.YtgahpgmagfngfaaGreatDoor


/- The laws of chapter 27 over tables: AgreeSets, AgreeMaximal, AgreeWitness, AgreeOf. -/
namespace Go.Proofs.YtgahpgmagfngfaaGreatDoor
open Go.RowKit







end Go.Proofs.YtgahpgmagfngfaaGreatDoor


/- Lists of counted sets: Holds and Closure, of agree and of the reference; slices.Clone. -/
namespace Go.Proofs.YtgahpgmagfngfaaGreatDoor
open Go.RowKit







end Go.Proofs.YtgahpgmagfngfaaGreatDoor

