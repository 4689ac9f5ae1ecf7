/- The walks of drossref09.List and Of: a description of small numbers becomes a list of dependencies. -/
import Derived.Test.YtgahpgmagfngfaaGreatDoorOpen
import Derived.Test.YtgahpgmagfngfaaGreatDoorGWalk
import Derived.Test.YtgahpgmagfngfaaGreatDoorGFd
import Derived.StillTailTactics
import Derived.Deep.RegionHeld3
namespace Go.Proofs.YtgahpgmagfngfaaGreatDoor
open Go.RowKit

/-- A small number as a set. -/
abbrev wd (b : U8) : S := BitVec.setWidth 32 b
@[go_sem] theorem wrap_u8 (b : U8) : IntKind.u32.wrap (b.toNat : Int) = (b.toNat : Int) := by
  rw [IntKind.wrap_u32]; have := b.isLt; omega
theorem flatD_at {xs : List D8} {i : Nat} {d : D8} (h : xs[i]? = some d) : (xs.flatMap cD)[i * 2]? = some (enc8 d.1) ∧ (xs.flatMap cD)[i * 2 + 1]? = some (enc8 d.2) :=
  ⟨flat_at cD_length xs i d 0 _ h rfl, flat_at cD_length xs i d 1 _ h rfl⟩
theorem RdD.split {w : World} {v : Value} {xs : List D8} (h : RdD w v xs) : ∃ ao cap, v = .slice ao xs.length cap ∧ xs.length ≤ 35184372088832 ∧
    ∀ (k : Nat) (d : D8), xs[k]? = some d → ∃ b off, ao = some ⟨b, off, none⟩ ∧ ∀ wr, Below w.heap.size w wr → wr.cell? ⟨b, off + k * 2, none⟩ = some (.int .u8 (d.1.toNat : Int)) ∧ wr.cell? ⟨b, off + k * 2 + 1, none⟩ = some (.int .u8 (d.2.toNat : Int)) := by
  obtain ⟨ao, cap, rfl, -, h2, h3⟩ := h
  refine ⟨ao, cap, rfl, h2, fun k f hf => ?_⟩
  obtain ⟨b, off, rfl, hb, hc⟩ := h3 (by have := (List.getElem?_eq_some_iff.1 hf).1; omega)
  exact ⟨b, off, rfl, fun wr hn => ⟨(hn.cell (p := ⟨b, off + k * 2, none⟩) hb).trans (hc _ _ (flatD_at hf).1), (hn.cell (p := ⟨b, off + k * 2 + 1, none⟩) hb).trans (hc _ _ (flatD_at hf).2)⟩⟩


/-- What a region that holds calls keeps: a later world, with two cells as they were. -/
theorem held2 {w : World} {b o1 o2 : Nat} {x y : Value} (h1 : w.cell? ⟨b, o1, none⟩ = some x) (h2 : w.cell? ⟨b, o2, none⟩ = some y) (W : World) (h : Below w.heap.size w W) :
    Below w.heap.size w W ∧ W.cell? ⟨b, o1, none⟩ = some x ∧ W.cell? ⟨b, o2, none⟩ = some y :=
  ⟨h, (h.cell (p := ⟨b, o1, none⟩) (World.block_lt_of_cell? _ _ h1)).trans h1, (h.cell (p := ⟨b, o2, none⟩) (World.block_lt_of_cell? _ _ h2)).trans h2⟩
theorem later {w a b : World} (h : Below w.heap.size w a) (k : Below a.heap.size a b) : Below w.heap.size w b := h.trans (k.mono h.size)


end Go.Proofs.YtgahpgmagfngfaaGreatDoor
