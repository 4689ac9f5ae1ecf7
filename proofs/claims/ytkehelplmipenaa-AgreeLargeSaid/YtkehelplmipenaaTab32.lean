/- The tables of recipes are valid. No program. -/
import Derived.Test.YtkehelplmipenaaTab30
namespace Go.Proofs.Ytkehelplmipenaa
open Go.RowKit
set_option linter.unusedSimpArgs false

theorem nm_ok : nameB (ByteArray.mk #[114]) = true ∧ (∀ s ∈ nameN 8, nameB s = true) := by
  refine ⟨?_, ?_⟩
  · unfold nameB; simp only [ByteArray.toList_eq]; decide +kernel
  · intro s hs
    unfold nameN at hs
    simp only [List.take_succ_cons, List.take_zero, List.mem_cons, List.not_mem_nil, or_false] at hs
    rcases hs with rfl | rfl | rfl | rfl | rfl | rfl | rfl | rfl <;> (unfold nameB; simp only [ByteArray.toList_eq]; decide +kernel)
theorem attrsBad_take {ats : List ByteArray} (h : attrsBad ats = false) (n : Nat) : attrsBad (ats.take n) = false := by
  unfold attrsBad at *
  rw [List.any_eq_false] at *
  intro i hi
  have hi' := List.mem_range.1 hi
  rw [List.length_take] at hi'
  have h1 := h i (List.mem_range.2 (by omega))
  unfold attrBad at *
  rw [List.take_take, show min i n = i by omega]
  have e : (ats.take n).getD i (ByteArray.mk #[]) = ats.getD i (ByteArray.mk #[]) := by
    rw [List.getD_eq_getElem?_getD, List.getD_eq_getElem?_getD, List.getElem?_take_of_lt (by omega)]
  rw [e]; exact h1
theorem nm_attrs (n : Nat) : attrsBad (nameN n) = false := by
  have h8 : attrsBad (nameN 8) = false := by
    have H := nm_ok.2
    have q : ∀ i, i < 8 → nameB ((nameN 8).getD i (ByteArray.mk #[])) = true := fun i hi => by
      apply H
      rw [List.getD_eq_getElem?_getD, List.getElem?_eq_getElem (by rw [nameN_length (by omega)]; exact hi)]
      exact List.getElem_mem _
    unfold attrsBad attrBad
    rw [nameN_length (by omega), List.any_eq_false]
    intro i hi
    have hi' := List.mem_range.1 hi
    rw [q i hi']
    unfold nameN eqT
    rcases (show i = 0 ∨ i = 1 ∨ i = 2 ∨ i = 3 ∨ i = 4 ∨ i = 5 ∨ i = 6 ∨ i = 7 by omega) with rfl | rfl | rfl | rfl | rfl | rfl | rfl | rfl <;> simp [ByteArray.toList_eq]
  have := attrsBad_take h8 n
  unfold nameN at *
  rw [List.take_take] at this
  by_cases h : n ≤ 8
  · rwa [show min n 8 = n by omega] at this
  · rw [show min n 8 = 8 by omega] at this
    rw [List.take_of_length_le (by simp; omega)]
    rw [List.take_of_length_le (by simp)] at this
    exact this
theorem vals_ok (r : RcR) (n : Nat) : (valsR r n).any badV = false := by
  rw [List.any_eq_false]
  intro x hx
  unfold valsR at hx
  obtain ⟨k, _, rfl⟩ := List.mem_map.1 hx
  rw [code_ok]; simp
theorem idR_next (g k : Nat) : idR g k < idR g (k + 1) := by
  unfold idR
  rw [Int.natCast_add, Int.add_mul]
  omega
theorem rowsE_rec (g n : Nat) : ∀ (rs : List Row3) (k : Nat) (last : Int), (∀ (j : Nat) (r : Row3), rs[j]? = some r → r.1 = idR g (k + j) ∧ ∃ q, r.2.2 = valsR q n) → last < idR g k → rowsE last n rs = 0 := by
  intro rs
  induction rs with
  | nil => intro k last _ _; rfl
  | cons r rs ih =>
    intro k last h hl
    obtain ⟨h1, q, h2⟩ := h 0 r rfl
    unfold rowsE
    rw [if_neg (by rw [h1, Nat.add_zero]; omega), if_neg (by rw [h2, valsR_length]; simp), if_neg (by rw [h2, vals_ok]; simp)]
    refine ih (k + 1) r.1 (fun j r' hr' => ?_) (by rw [h1, Nat.add_zero]; exact idR_next g k)
    have := h (j + 1) r' (by simpa using hr')
    rw [show k + 1 + j = k + (j + 1) by omega]; exact this
/-- What is asked of the table of a recipe. -/
def GoodT (t : T3) : Prop := tabE2 t = 0 ∧ t.2.1.length ≤ 5 ∧ t.2.2.length ≤ 8
theorem rec_good {g n : Nat} {rr : List RcR} {rs : List Row3} (hn : n ≤ 8) (h8 : rr.length ≤ 8) (h : rs.map (fun r => (r.1, r.2.2)) = rowsRc g n rr) : tabE2 (ByteArray.mk #[114], nameN n, rs) = 0 ∧ rs.length ≤ 8 := by
  have hl : rs.length = rr.length := by have := congrArg List.length h; simpa [rowsRc] using this
  refine ⟨?_, by omega⟩
  have h3 : rowsE 0 n rs = 0 := by
    refine rowsE_rec g n rs 0 0 (fun j r hr => ?_) (by unfold idR; simp)
    have e := congrArg (fun l => l[j]?) h
    simp only [List.getElem?_map, hr, Option.map_some, rowsRc, List.getElem?_mapIdx] at e
    have hj : j < rr.length := by have := (List.getElem?_eq_some_iff.1 hr).1; omega
    rw [List.getElem?_eq_getElem hj, Option.map_some, Option.some.injEq, Prod.mk.injEq] at e
    exact ⟨by rw [Nat.zero_add]; exact e.1, _, e.2⟩
  have h4 : tabE (ByteArray.mk #[114], nameN n, rs) = 0 := by
    unfold tabE
    simp only
    rw [nm_ok.1, nm_attrs, nameN_length hn, if_neg (by simp), if_neg (by omega), if_neg (by simp)]
    exact h3
  unfold tabE2
  rw [h4, if_neg (by simp), if_neg (by simp only; omega)]

end Go.Proofs.Ytkehelplmipenaa
