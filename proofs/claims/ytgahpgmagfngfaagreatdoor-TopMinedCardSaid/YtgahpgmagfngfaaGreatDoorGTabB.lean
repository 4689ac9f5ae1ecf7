/- Texts that belong together, in one file. -/
import Derived.Test.YtgahpgmagfngfaaGreatDoorGTabA
import Derived.Test.YtgahpgmagfngfaaGreatDoorGPlain
import Derived.Laws.StructEq
import Derived.Test.YtgahpgmagfngfaaGreatDoorAfter
/- The order of two values: the walks of drossref01's sign, strings and Compare. -/
namespace Go.Proofs.YtgahpgmagfngfaaGreatDoor
open Go.RowKit




def eqV (x y : V3) : Bool := decide (x.1 = y.1) && decide (x.2.1 = y.2.1) && eqT x.2.2 y.2.2

end Go.Proofs.YtgahpgmagfngfaaGreatDoor


/- The walks of drossref01.Compare, agree.set and drossref27.Rows. -/
namespace Go.Proofs.YtgahpgmagfngfaaGreatDoor
open Go.RowKit


end Go.Proofs.YtgahpgmagfngfaaGreatDoor


/- The agree set of two rows: the walks of agree.set and drossref27.Rows. -/
namespace Go.Proofs.YtgahpgmagfngfaaGreatDoor
open Go.RowKit Go.Shelf Go.Lib

def noV : V3 := (0, 0, ByteArray.mk #[])
/-- The first k attributes at which two rows agree. -/
def rowsS (xs ys : List V3) : Nat → S
  | 0 => 0#32
  | k + 1 => if eqV (xs.getD k noV) (ys.getD k noV) = true then rowsS xs ys k ||| 1#32 <<< k else rowsS xs ys k
theorem rowsS_at {xs ys : List V3} {k : Nat} {x y : V3} (hx : xs[k]? = some x) (hy : ys[k]? = some y) : rowsS xs ys (k + 1) = if eqV x y = true then rowsS xs ys k ||| 1#32 <<< k else rowsS xs ys k := by
  show (if eqV (xs.getD k noV) (ys.getD k noV) = true then _ else _) = _
  simp [List.getD, hx, hy]
theorem cells2 {w : World} {a b : Value} {t : TypeId} (W : World) (h : Below (w.alloc (.cells #[a, b] t)).heap.size (w.alloc (.cells #[a, b] t)) W) :
    W.cell? ⟨w.heap.size, 0, none⟩ = some a ∧ W.cell? ⟨w.heap.size, 1, none⟩ = some b :=
  ⟨(h.cell (p := ⟨w.heap.size, 0, none⟩) (by simp)).trans (by simp), (h.cell (p := ⟨w.heap.size, 1, none⟩) (by simp)).trans (by simp)⟩


end Go.Proofs.YtgahpgmagfngfaaGreatDoor


/- The agree set of two rows by the reference: the walk of drossref27.Rows. -/
namespace Go.Proofs.YtgahpgmagfngfaaGreatDoor
open Go.RowKit


end Go.Proofs.YtgahpgmagfngfaaGreatDoor


/- What a valid table of chapter 27 holds; the agree sets of its pairs of rows. No program. -/
namespace Go.Proofs.YtgahpgmagfngfaaGreatDoor

theorem validV_size {x : V3} (h : validV x = true) : x.2.2.size ≤ 200 := by
  unfold validV at h
  simp only [empty_size] at h
  split at h
  · rw [Bool.and_eq_true, beq_iff_eq, beq_iff_eq] at h; omega
  · split at h
    · rw [beq_iff_eq] at h; omega
    · split at h
      · rw [Bool.and_eq_true, decide_eq_true_iff] at h; exact h.2
      · split at h
        · rw [Bool.and_eq_true, beq_iff_eq] at h; omega
        · exact absurd h (by simp)
theorem rowsE_ok : ∀ (rs : List Row3) (last : Int) (m : Nat), rowsE last m rs = 0 → ∀ r ∈ rs, r.2.2.length = m ∧ ∀ x ∈ r.2.2, x.2.2.size ≤ 200 := by
  intro rs
  induction rs with
  | nil => intro _ _ _ r hr; exact absurd hr (by simp)
  | cons q rs ih =>
    intro last m h r hr
    unfold rowsE at h
    split at h
    · exact absurd h (by decide)
    · split at h
      · exact absurd h (by decide)
      · rename_i h2
        split at h
        · exact absurd h (by decide)
        · rename_i h3
          rcases List.mem_cons.1 hr with rfl | hr
          · refine ⟨by omega, fun x hx => ?_⟩
            rw [Bool.not_eq_true, List.any_eq_false] at h3
            have h4 := h3 x hx
            unfold badV at h4
            exact validV_size (by simpa using h4)
          · exact ih _ _ h r hr
theorem tabE2_ok {t : T3} (h : tabE2 t = 0) : t.2.1.length ≤ 16 ∧ t.2.2.length ≤ 200 ∧ ∀ r ∈ t.2.2, r.2.2.length = t.2.1.length ∧ ∀ x ∈ r.2.2, x.2.2.size ≤ 200 := by
  unfold tabE2 at h
  split at h
  · rename_i h1; exact absurd h h1
  · rename_i h1
    split at h
    · exact absurd h (by decide)
    · rename_i h2
      have h3 : tabE t = 0 := by omega
      unfold tabE at h3
      split at h3
      · exact absurd h3 (by decide)
      · split at h3
        · exact absurd h3 (by decide)
        · rename_i h4
          split at h3
          · exact absurd h3 (by decide)
          · exact ⟨by omega, by omega, rowsE_ok _ _ _ h3⟩
/-- The agree sets of the pairs of rows, in the reference's order. -/
def pairsS : List Row3 → List S
  | [] => []
  | r :: rs => rs.map (fun q => rowsS r.2.2 q.2.2 r.2.2.length) ++ pairsS rs

end Go.Proofs.YtgahpgmagfngfaaGreatDoor

