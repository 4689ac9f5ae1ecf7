/- slices.Equal of a list that is read and one that the text writes out; literals. -/
import Derived.Test.YtciamnkalmihcaaDoorMergeL
import Derived.Test.YtciamnkalmihcaaDoorGen
import Derived.Test.YtciamnkalmihcaaDoorGMid
namespace Go.Proofs.YtciamnkalmihcaaDoor
open Go.RowKit

/-- slices.Equal, of a list that is read and one that the text writes out. -/
theorem equalI_lit (l : List Nat) (v : Value) (W : World) (o : Obj) (ho : o = .cells (l.map encI).toArray 3) (m : Nat) (hm : m = l.length) (hl : l.length ≤ 1000) (h : RdE encI W v l) :
    Calls Tryd.prog 26 #[v, .slice (some ⟨W.heap.size, 0, none⟩) m m] (W.alloc o) fun e w' => e = .returned (.bool true) ∧ Below W.heap.size W w' := by
  subst ho hm
  refine (equalI_any l l v _ _ (h.below (below_alloc _ _)) (RdE.lit W l _ hl)).mono fun e w' ⟨he, q, hq⟩ => ⟨by rw [he]; simp, ?_⟩
  subst hq
  exact (below_alloc _ _).trans (below_drewN _ _ _)
theorem equalF_lit (l : List F) (v : Value) (W : World) (o : Obj) (ho : o = .cells (l.flatMap cF).toArray 34) (m : Nat) (hm : m = l.length) (hl : l.length ≤ 1000) (h : RdF W v l) :
    Calls Tryd.prog 15 #[v, .slice (some ⟨W.heap.size, 0, none⟩) m m] (W.alloc o) fun e w' => e = .returned (.bool true) ∧ Below W.heap.size W w' := by
  subst ho hm
  refine (equalF_any l l v _ _ (h.below (below_alloc _ _)) (RdC.lit cF_length W l _ hl (by decide))).mono fun e w' ⟨he, q, hq⟩ => ⟨by rw [he]; simp, ?_⟩
  subst hq
  exact (below_alloc _ _).trans (below_drewN _ _ _)
theorem lit_call {fs : List F} {m : Nat} {o : Obj} (hm : m = fs.length) (hl : fs.length ≤ 1000) (ho : o = .cells (fs.flatMap cF).toArray 34) (w : World) :
    RdF (w.alloc o) (.slice (some ⟨w.heap.size, 0, none⟩) m m) fs ∧ Below w.heap.size w (w.alloc o) := by
  subst hm ho
  exact ⟨RdC.lit cF_length w fs _ hl (by decide), below_alloc _ _⟩
theorem mergeF_length (l : List F) : (mergeF l).length ≤ l.length := by
  have h1 : (mergeF l).length = (ordS (l.map (·.1))).length := by unfold mergeF; simp
  have h2 : (Go.Lib.compact (sortS (l.map (·.1)))).length ≤ (sortS (l.map (·.1))).length := by
    unfold Go.Lib.compact Go.Lib.compactUpTo
    rw [List.length_map]
    exact Nat.le_trans (List.length_filter_le _ _) (by simp)
  have h3 : (sortS (l.map (·.1))).length = l.length := by rw [(sortS_perm _).length_eq]; simp
  unfold ordS at h1; omega
theorem equalFT (xs : List F) (v u : Value) (w : World) (hv : RdF w v xs) (hu : RdF w u xs) :
    Calls Tryd.prog 15 #[v, u] w fun e w' => e = .returned (.bool true) ∧ Below w.heap.size w w' :=
  (equalF_any xs xs v u w hv hu).mono fun _ _ ⟨he, q, hq⟩ => ⟨by rw [he]; simp, by rw [hq]; exact below_drewN _ _ _⟩
theorem equalIT (xs : List Nat) (v u : Value) (w : World) (hv : RdE encI w v xs) (hu : RdE encI w u xs) :
    Calls Tryd.prog 26 #[v, u] w fun e w' => e = .returned (.bool true) ∧ Below w.heap.size w w' :=
  (equalI_any xs xs v u w hv hu).mono fun _ _ ⟨he, q, hq⟩ => ⟨by rw [he]; simp, by rw [hq]; exact below_drewN _ _ _⟩

end Go.Proofs.YtciamnkalmihcaaDoor
