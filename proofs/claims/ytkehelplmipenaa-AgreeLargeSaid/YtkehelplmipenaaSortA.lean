/- slices.SortFunc over a slice of sets of the call's own, with attrset's order. -/
import Derived.Test.YtkehelplmipenaaSortG
import Derived.Test.YtkehelplmipenaaCompare
namespace Go.Proofs.Ytkehelplmipenaa
open Go.RowKit Go.Shelf Go.Lib Go.Sort

theorem sortA_any (xs : List S) (v : Value) (B : Nat) (w : World) (hown : w.ownsRow B 33 1 v xs.length (xs.map enc)) (hl : xs.length < 17592186044416) :
    Calls Try.prog 59 #[v, .func (.func 60) #[] #[]] w fun e w' =>
      e = .returned (.tuple #[]) ∧ w'.ownsRow B 33 1 v xs.length ((sortS xs).map enc) ∧ Below B w w' :=
  sortBy_any _ (enters _ _ _ Try.func60 (by kernel_rfl) rfl) compare_any xs v B w hown hl

end Go.Proofs.Ytkehelplmipenaa
