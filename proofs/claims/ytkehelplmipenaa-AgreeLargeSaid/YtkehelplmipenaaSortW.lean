/- slices.SortFunc over a slice of sets of the call's own, with transversal's order. -/
import Derived.Test.YtkehelplmipenaaSortG
import Derived.Test.YtkehelplmipenaaOrd
namespace Go.Proofs.Ytkehelplmipenaa
open Go.RowKit Go.Shelf Go.Lib Go.Sort

theorem sort_any (xs : List S) (v : Value) (B : Nat) (w : World) (hown : w.ownsRow B 33 1 v xs.length (xs.map enc)) (hl : xs.length < 17592186044416) :
    Calls Try.prog 59 #[v, .func (.func 68) #[] #[]] w fun e w' =>
      e = .returned (.tuple #[]) ∧ w'.ownsRow B 33 1 v xs.length ((sortS xs).map enc) ∧ Below B w w' :=
  sortBy_any _ (enters _ _ _ Try.func68 (by kernel_rfl) rfl)
    (fun x y W => (order_any x y W).mono fun _ _ ⟨he, q, hq⟩ => ⟨he, q, #[], by rw [hq, grow_empty]⟩) xs v B w hown hl

end Go.Proofs.Ytkehelplmipenaa
