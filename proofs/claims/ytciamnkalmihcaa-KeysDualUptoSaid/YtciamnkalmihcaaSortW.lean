/- slices.SortFunc over a slice of sets of the call's own, with transversal's order. -/
import Derived.Test.YtciamnkalmihcaaSortG
import Derived.Test.YtciamnkalmihcaaOrd
namespace Go.Proofs.Ytciamnkalmihcaa
open Go.RowKit Go.Shelf Go.Lib Go.Sort

theorem sort_any (xs : List S) (v : Value) (B : Nat) (w : World) (hown : w.ownsRow B 24 1 v xs.length (xs.map enc)) (hl : xs.length < 17592186044416) :
    Calls Try.prog 106 #[v, .func (.func 112) #[] #[]] w fun e w' =>
      e = .returned (.tuple #[]) ∧ w'.ownsRow B 24 1 v xs.length ((sortS xs).map enc) ∧ Below B w w' :=
  sortBy_any _ (enters _ _ _ Try.func112 (by kernel_rfl) rfl)
    (fun x y W => (order_any x y W).mono fun _ _ ⟨he, q, hq⟩ => ⟨he, q, #[], by rw [hq, grow_empty]⟩) xs v B w hown hl

end Go.Proofs.Ytciamnkalmihcaa
