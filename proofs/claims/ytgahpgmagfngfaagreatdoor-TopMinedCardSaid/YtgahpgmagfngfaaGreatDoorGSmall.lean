/- Texts that belong together, in one file. -/
import Derived.Test.YtgahpgmagfngfaaGreatDoorGWalk
import Derived.Test.YtgahpgmagfngfaaGreatDoorGSort
import Derived.Test.YtgahpgmagfngfaaGreatDoorGPlain
import Derived.Test.YtgahpgmagfngfaaGreatDoorGOrd
/- The walks of the two Minimal. -/
namespace Go.Proofs.YtgahpgmagfngfaaGreatDoor
open Go.RowKit



end Go.Proofs.YtgahpgmagfngfaaGreatDoor


/- The walk of transversal.All: edge by edge. -/
namespace Go.Proofs.YtgahpgmagfngfaaGreatDoor
open Go.RowKit




end Go.Proofs.YtgahpgmagfngfaaGreatDoor


/- The walks of the reference's layer 7: Valid, All, Reduce, Smallest, Witness. -/
namespace Go.Proofs.YtgahpgmagfngfaaGreatDoor
open Go.RowKit


/-- The edges with no other one in them. -/
def least (xs : List S) (e : S) : Bool := !xs.any (fun f => f != e && (f &&& ~~~ e == 0#32))


end Go.Proofs.YtgahpgmagfngfaaGreatDoor


/- The walks of the reference's All and Smallest, of Witness, and of the program's Smallest. -/
namespace Go.Proofs.YtgahpgmagfngfaaGreatDoor
open Go.RowKit




end Go.Proofs.YtgahpgmagfngfaaGreatDoor


/- The walks of the two Smallest, of Witness, of Dual, of few; All of both in one statement each. -/
namespace Go.Proofs.YtgahpgmagfngfaaGreatDoor
open Go.RowKit






end Go.Proofs.YtgahpgmagfngfaaGreatDoor


/- The walk of transversal.Dual, and of few. -/
namespace Go.Proofs.YtgahpgmagfngfaaGreatDoor
open Go.RowKit

theorem undSet : Tryz.prog.underlying 55 = some (.int .u32) := by kernel_rfl




end Go.Proofs.YtgahpgmagfngfaaGreatDoor


/- The walk of awake: the chapter's examples hold. -/
namespace Go.Proofs.YtgahpgmagfngfaaGreatDoor
open Go.RowKit


/-- What All gives can be checked set by set: n attributes, 2 ^ n sets. -/
theorem allS_check (xs ys : List S) (n N : Nat) (hN : 2 ^ n = N) (hv : ∀ x ∈ xs, ∀ i, i < 32 → n ≤ i → x.getLsbD i = false) (hy : ys.Pairwise bef)
    (hc : ∀ k, k < N → (minS xs (BitVec.ofNat 32 k) = true ↔ BitVec.ofNat 32 k ∈ ys)) (hb : ∀ y ∈ ys, y.toNat < N) : allS xs = ys := by
  subst hN
  refine (allS_ord xs).uniq (ys := ys) (q := fun s => s ∈ ys) ⟨hy, fun _ => Iff.rfl⟩ fun s => ?_
  have hs : BitVec.ofNat 32 s.toNat = s := by apply BitVec.eq_of_toNat_eq; simp
  constructor
  · intro h
    have := lt_of_bits (min_within h hv)
    have h2 := (hc s.toNat this).1 (by rw [hs]; exact h)
    rwa [hs] at h2
  · intro h
    have h2 := (hc s.toNat (hb s h)).2 (by rw [hs]; exact h)
    rwa [hs] at h2




end Go.Proofs.YtgahpgmagfngfaaGreatDoor

