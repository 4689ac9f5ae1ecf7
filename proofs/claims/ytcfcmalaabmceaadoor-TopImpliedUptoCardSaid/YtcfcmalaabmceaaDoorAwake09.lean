/- The walk of chapter 9's awake: its examples hold. -/
import Derived.Test.YtcfcmalaabmceaaDoorGTopA
import Derived.Test.YtcfcmalaabmceaaDoorFdT
import Derived.Test.YtcfcmalaabmceaaDoorGKm3
import Derived.Test.YtcfcmalaabmceaaDoorGPlain
namespace Go.Proofs.YtcfcmalaabmceaaDoor
open Go.RowKit




theorem equalS_lit (l : List S) (v : Value) (W : World) (o : Obj) (ho : o = .cells (l.map enc).toArray 32) (m : Nat) (hm : m = l.length) (hl : l.length ≤ 1000) (h : RdE enc W v l) :
    Calls Tryd.prog 15 #[v, .slice (some ⟨W.heap.size, 0, none⟩) m m] (W.alloc o) fun e w' => e = .returned (.bool true) ∧ Below W.heap.size W w' := by
  subst ho hm
  refine (equalS_any l l v _ _ (h.below (below_alloc _ _)) (RdE.lit W l _ hl)).mono fun e w' ⟨he, q, hq⟩ => ⟨by rw [he]; simp, ?_⟩
  subst hq
  exact (below_alloc _ _).trans (below_drewN _ _ _)


end Go.Proofs.YtcfcmalaabmceaaDoor
