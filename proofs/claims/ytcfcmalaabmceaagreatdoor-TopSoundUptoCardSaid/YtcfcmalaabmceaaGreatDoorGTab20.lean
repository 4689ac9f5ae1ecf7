/- Texts that belong together, in one file. -/
import Derived.Test.YtcfcmalaabmceaaGreatDoorGTab14
import Derived.Test.YtcfcmalaabmceaaGreatDoorGTabB
import Derived.StillTailTactics
import Derived.Laws.StructEq
import Derived.IntWalk
/- The walks of Witness, of agree and of the reference. -/
namespace Go.Proofs.YtcfcmalaabmceaaGreatDoor
open Go.RowKit




theorem set3 {W : World} {b : Nat} {x y z x' y' z' : Value} (h0 : W.cell? ⟨b, 0, none⟩ = some x') (h1 : W.cell? ⟨b, 1, none⟩ = some y') (h2 : W.cell? ⟨b, 2, none⟩ = some z') {W3 : World} (hW : ((W.setCell ⟨b, 0, none⟩ x).setCell ⟨b, 1, none⟩ y).setCell ⟨b, 2, none⟩ z = W3) :
    W3.cell? ⟨b, 0, none⟩ = some x ∧ W3.cell? ⟨b, 1, none⟩ = some y ∧ W3.cell? ⟨b, 2, none⟩ = some z := by
  subst hW
  refine ⟨?_, ?_, ?_⟩
  · rw [World.cell?_setCell_other _ _ _ _ (by simp), World.cell?_setCell_other _ _ _ _ (by simp)]; exact World.cell?_setCell_same _ _ _ h0
  · rw [World.cell?_setCell_other _ _ _ _ (by simp)]; exact World.cell?_setCell_same _ _ _ ((World.cell?_setCell_other _ _ _ _ (by simp)).trans h1)
  · exact World.cell?_setCell_same _ _ _ ((World.cell?_setCell_other _ _ _ _ (by simp)).trans ((World.cell?_setCell_other _ _ _ _ (by simp)).trans h2))



end Go.Proofs.YtcfcmalaabmceaaGreatDoor


/- The walks of Find and Of, of the program and of the reference. -/
namespace Go.Proofs.YtcfcmalaabmceaaGreatDoor
open Go.RowKit









end Go.Proofs.YtcfcmalaabmceaaGreatDoor


/- Chapter 27's contracts in the words of the laws; the comparisons of lists of counts and of pairs; few. -/
namespace Go.Proofs.YtcfcmalaabmceaaGreatDoor
open Go.RowKit Go.Shelf Go.Lib



theorem RdCt.split {w : World} {v : Value} {xs : List C2} (h : RdCt w v xs) : ∃ ao cap, v = .slice ao xs.length cap ∧ xs.length ≤ 35184372088832 ∧
    ∀ (k : Nat) (x : C2), xs[k]? = some x → ∃ b off, ao = some ⟨b, off, none⟩ ∧ ∀ wr, Below w.heap.size w wr → wr.cell? ⟨b, off + k * 2, none⟩ = some (.int .u32 (iv x.1)) ∧ wr.cell? ⟨b, off + k * 2 + 1, none⟩ = some (.int .i64 x.2) := by
  obtain ⟨ao, cap, rfl, -, h2, h3⟩ := h
  refine ⟨ao, cap, rfl, h2, fun k f hf => ?_⟩
  obtain ⟨b, off, rfl, hb, hc⟩ := h3 (by have := (List.getElem?_eq_some_iff.1 hf).1; omega)
  exact ⟨b, off, rfl, fun wr hn => ⟨(hn.cell (p := ⟨b, off + k * 2, none⟩) hb).trans (hc _ _ (flat_at cC_length xs k f 0 _ hf rfl)), (hn.cell (p := ⟨b, off + k * 2 + 1, none⟩) hb).trans (hc _ _ (flat_at cC_length xs k f 1 _ hf rfl))⟩⟩


end Go.Proofs.YtcfcmalaabmceaaGreatDoor


/- The example of chapter 27: the walk of its law package's awake. -/
namespace Go.Proofs.YtcfcmalaabmceaaGreatDoor
open Go.RowKit




end Go.Proofs.YtcfcmalaabmceaaGreatDoor


/- The laws of chapter 27 over tables: AgreeSets, AgreeMaximal, AgreeWitness, AgreeOf. -/
namespace Go.Proofs.YtcfcmalaabmceaaGreatDoor
open Go.RowKit







end Go.Proofs.YtcfcmalaabmceaaGreatDoor


/- Lists of counted sets: Holds and Closure, of agree and of the reference; slices.Clone. -/
namespace Go.Proofs.YtcfcmalaabmceaaGreatDoor
open Go.RowKit







end Go.Proofs.YtcfcmalaabmceaaGreatDoor

