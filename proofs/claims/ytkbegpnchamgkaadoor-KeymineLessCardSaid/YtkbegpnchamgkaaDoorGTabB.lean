/- Texts that belong together, in one file. -/
import Derived.Test.YtkbegpnchamgkaaDoorGTabA
import Derived.Test.YtkbegpnchamgkaaDoorGPlain
import Derived.Laws.StructEq
import Derived.Test.YtkbegpnchamgkaaDoorAfter
/- The order of two values: the walks of drossref01's sign, strings and Compare. -/
namespace Go.Proofs.YtkbegpnchamgkaaDoor
open Go.RowKit

theorem wrap64_byte {c : Nat} (h : c < 256) : wrap64 (c : Int) = (c : Int) := by unfold wrap64; omega
def sgI (a b : Int) : Int := if a < b then -1 else if b < a then 1 else 0
theorem sgI_zero (a b : Int) : sgI a b = 0 ↔ a = b := by
  unfold sgI
  split
  · omega
  · split <;> omega

def strI (a b : ByteArray) (k : Nat) : Nat → Int
  | 0 => sgI a.size b.size
  | n + 1 => if k < b.size then (if byteN a k = byteN b k then strI a b (k + 1) n else sgI (byteN a k) (byteN b k)) else sgI a.size b.size
theorem strI_zero (a b : ByteArray) : ∀ (n k : Nat), k + n = a.size → (strI a b k n = 0 ↔ a.size = b.size ∧ ∀ j, k ≤ j → j < a.size → byteN a j = byteN b j) := by
  intro n
  induction n with
  | zero =>
    intro k hk
    unfold strI
    rw [sgI_zero]
    constructor
    · intro h; exact ⟨by omega, fun j h1 h2 => by omega⟩
    · rintro ⟨h, -⟩; omega
  | succ n ih =>
    intro k hk
    unfold strI
    split
    · split
      · rename_i h1 h2
        rw [ih (k + 1) (by omega)]
        constructor
        · rintro ⟨h3, h4⟩
          refine ⟨h3, fun j h5 h6 => ?_⟩
          by_cases hj : j = k
          · subst hj; exact h2
          · exact h4 j (by omega) h6
        · rintro ⟨h3, h4⟩
          exact ⟨h3, fun j h5 h6 => h4 j (by omega) h6⟩
      · rename_i h1 h2
        rw [sgI_zero]
        constructor
        · intro h; exact absurd (by omega) h2
        · rintro ⟨-, h4⟩; exact absurd (h4 k (by omega) (by omega)) h2
    · rename_i h1
      rw [sgI_zero]
      constructor
      · intro h; omega
      · rintro ⟨h, -⟩; omega
theorem eqT_iff (a b : ByteArray) : eqT a b = true ↔ a.size = b.size ∧ ∀ j, j < a.size → byteN a j = byteN b j := by
  unfold eqT
  rw [beq_iff_eq, ByteArray.toList_eq, ByteArray.toList_eq]
  constructor
  · intro h
    have e : a = b := ByteArray.ext (Array.toList_inj.1 h)
    subst e
    exact ⟨rfl, fun _ _ => rfl⟩
  · rintro ⟨h1, h2⟩
    congr 1
    refine Array.ext h1 fun i hi hi' => ?_
    have h := h2 i hi
    unfold byteN at h
    rw [dif_pos (show i < a.size from hi), dif_pos (show i < b.size from hi')] at h
    exact UInt8.toNat_inj.1 h
theorem strI_eqT (a b : ByteArray) : decide (strI a b 0 a.size = 0) = eqT a b := by
  rw [Bool.eq_iff_iff, decide_eq_true_iff, strI_zero a b a.size 0 (by omega), eqT_iff]
  simp

theorem drewN_ex {w wr : World} (h : ∃ n, wr = w.drewN n) (q : Nat) : ∃ n, wr.drewN q = w.drewN n := by
  obtain ⟨n, rfl⟩ := h
  exact ⟨n + q, by simp [World.drewN, Nat.add_assoc]⟩

/-- The order of two values. -/
def cmpV (x y : V3) : Int := if sgI x.1 y.1 ≠ 0 then sgI x.1 y.1 else if sgI x.2.1 y.2.1 ≠ 0 then sgI x.2.1 y.2.1 else strI x.2.2 y.2.2 0 x.2.2.size
def eqV (x y : V3) : Bool := decide (x.1 = y.1) && decide (x.2.1 = y.2.1) && eqT x.2.2 y.2.2
theorem cmpV_zero (x y : V3) : decide (cmpV x y = 0) = eqV x y := by
  unfold cmpV eqV
  rw [← strI_eqT]
  by_cases h1 : x.1 = y.1
  · have e1 := (sgI_zero x.1 y.1).2 h1
    by_cases h2 : x.2.1 = y.2.1
    · have e2 := (sgI_zero x.2.1 y.2.1).2 h2
      rw [if_neg (fun h => h e1), if_neg (fun h => h e2), decide_eq_true h1, decide_eq_true h2]
      simp
    · have e2 : sgI x.2.1 y.2.1 ≠ 0 := fun e => h2 ((sgI_zero _ _).1 e)
      rw [if_neg (fun h => h e1), if_pos e2, decide_eq_false h2, decide_eq_false e2]
      simp
  · have e1 : sgI x.1 y.1 ≠ 0 := fun e => h1 ((sgI_zero _ _).1 e)
    rw [if_pos e1, decide_eq_false h1, decide_eq_false e1]
    simp

end Go.Proofs.YtkbegpnchamgkaaDoor


/- The walks of drossref01.Compare, agree.set and drossref27.Rows. -/
namespace Go.Proofs.YtkbegpnchamgkaaDoor
open Go.RowKit


end Go.Proofs.YtkbegpnchamgkaaDoor


/- The agree set of two rows: the walks of agree.set and drossref27.Rows. -/
namespace Go.Proofs.YtkbegpnchamgkaaDoor
open Go.RowKit Go.Shelf Go.Lib

theorem run_eqlV (x y : V3) (w : World) : (binOp .eql 87 (.agg #[.int .i64 x.1, .int .i64 x.2.1, .string x.2.2]) (.agg #[.int .i64 y.1, .int .i64 y.2.1, .string y.2.2])).run Tryd.prog w = .ok (.bool (eqV x y)) w := by
  have u1 := Tryd.underlying3
  have a1 := Tryd.isAgg3
  have z1 := Tryd.sizeOf3
  have u2 := Tryd.underlying2
  have a2 := Tryd.isAgg2
  have z2 := Tryd.sizeOf2
  have u3 := Tryd.underlying9
  have a3 := Tryd.isAgg9
  have z3 := Tryd.sizeOf9
  have hS : Tryd.prog.underlying 87 = some (.struct (Tryd.prog.fieldsOf 87)) := by kernel_rfl
  have hp : Tryd.prog.stoodInHeld 87 = false := by kernel_rfl
  rw [run_eql_struct, show (10000 : Nat) = 9999 + 1 from rfl, run_equalIn_agg w 9999 87 _ _ hS hp]
  simp only [Program.fieldsOf, Tryd.underlying87]
  go_simp
  obtain ⟨x1, x2, x3⟩ := x
  obtain ⟨y1, y2, y3⟩ := y
  unfold eqV eqT
  by_cases h1 : x1 = y1 <;> by_cases h2 : x2 = y2 <;> by_cases h3 : x3.toList = y3.toList <;> simp [h1, h2, h3]
def noV : V3 := (0, 0, ByteArray.mk #[])
/-- The first k attributes at which two rows agree. -/
def rowsS (xs ys : List V3) : Nat → S
  | 0 => 0#32
  | k + 1 => if eqV (xs.getD k noV) (ys.getD k noV) = true then rowsS xs ys k ||| 1#32 <<< k else rowsS xs ys k
theorem rowsS_at {xs ys : List V3} {k : Nat} {x y : V3} (hx : xs[k]? = some x) (hy : ys[k]? = some y) : rowsS xs ys (k + 1) = if eqV x y = true then rowsS xs ys k ||| 1#32 <<< k else rowsS xs ys k := by
  show (if eqV (xs.getD k noV) (ys.getD k noV) = true then _ else _) = _
  simp [List.getD, hx, hy]
theorem cells2 {w : World} {a b : Value} {t : TypeId} (W : World) (h : Below (w.alloc (.cells #[a, b] t)).heap.size (w.alloc (.cells #[a, b] t)) W) :
    W.cell? ⟨w.heap.size, 0, none⟩ = some a ∧ W.cell? ⟨w.heap.size, 1, none⟩ = some b :=
  ⟨(h.cell (p := ⟨w.heap.size, 0, none⟩) (by simp)).trans (by simp), (h.cell (p := ⟨w.heap.size, 1, none⟩) (by simp)).trans (by simp)⟩


end Go.Proofs.YtkbegpnchamgkaaDoor


/- The agree set of two rows by the reference: the walk of drossref27.Rows. -/
namespace Go.Proofs.YtkbegpnchamgkaaDoor
open Go.RowKit


end Go.Proofs.YtkbegpnchamgkaaDoor


/- What a valid table of chapter 27 holds; the agree sets of its pairs of rows. No program. -/
namespace Go.Proofs.YtkbegpnchamgkaaDoor

theorem validV_size {x : V3} (h : validV x = true) : x.2.2.size ≤ 200 := by
  unfold validV at h
  simp only [empty_size] at h
  split at h
  · rw [Bool.and_eq_true, beq_iff_eq, beq_iff_eq] at h; omega
  · split at h
    · rw [beq_iff_eq] at h; omega
    · split at h
      · rw [Bool.and_eq_true, decide_eq_true_iff] at h; exact h.2
      · split at h
        · rw [Bool.and_eq_true, beq_iff_eq] at h; omega
        · exact absurd h (by simp)
theorem rowsE_ok : ∀ (rs : List Row3) (last : Int) (m : Nat), rowsE last m rs = 0 → ∀ r ∈ rs, r.2.2.length = m ∧ ∀ x ∈ r.2.2, x.2.2.size ≤ 200 := by
  intro rs
  induction rs with
  | nil => intro _ _ _ r hr; exact absurd hr (by simp)
  | cons q rs ih =>
    intro last m h r hr
    unfold rowsE at h
    split at h
    · exact absurd h (by decide)
    · split at h
      · exact absurd h (by decide)
      · rename_i h2
        split at h
        · exact absurd h (by decide)
        · rename_i h3
          rcases List.mem_cons.1 hr with rfl | hr
          · refine ⟨by omega, fun x hx => ?_⟩
            rw [Bool.not_eq_true, List.any_eq_false] at h3
            have h4 := h3 x hx
            unfold badV at h4
            exact validV_size (by simpa using h4)
          · exact ih _ _ h r hr
theorem tabE2_ok {t : T3} (h : tabE2 t = 0) : t.2.1.length ≤ 16 ∧ t.2.2.length ≤ 200 ∧ ∀ r ∈ t.2.2, r.2.2.length = t.2.1.length ∧ ∀ x ∈ r.2.2, x.2.2.size ≤ 200 := by
  unfold tabE2 at h
  split at h
  · rename_i h1; exact absurd h h1
  · rename_i h1
    split at h
    · exact absurd h (by decide)
    · rename_i h2
      have h3 : tabE t = 0 := by omega
      unfold tabE at h3
      split at h3
      · exact absurd h3 (by decide)
      · split at h3
        · exact absurd h3 (by decide)
        · rename_i h4
          split at h3
          · exact absurd h3 (by decide)
          · exact ⟨by omega, by omega, rowsE_ok _ _ _ h3⟩
/-- The agree sets of the pairs of rows, in the reference's order. -/
def pairsS : List Row3 → List S
  | [] => []
  | r :: rs => rs.map (fun q => rowsS r.2.2 q.2.2 r.2.2.length) ++ pairsS rs

end Go.Proofs.YtkbegpnchamgkaaDoor

