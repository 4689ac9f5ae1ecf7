/- The different sets of a list in order, plainly. No program. -/
import Derived.Test.YtkehelplmipenaaGPlain
import Derived.Lib.SlicesCompact
namespace Go.Proofs.Ytkehelplmipenaa
open Go.RowKit Go.Lib

theorem compact_next {xs : List S} {m : Nat} {x : S} (hx : xs[m]? = some x) : compactUpTo xs.toArray (m + 1) = compactUpTo xs.toArray m ++ (if keeps xs.toArray m then [x] else []) := by
  rw [compactUpTo_succ]
  have : xs.toArray[m]! = x := by simp [getElem!_def, hx]
  rw [this]
theorem compact_take {xs : List S} (hs : xs.Pairwise (fun x y => ¬ bef y x)) : ∀ m, m ≤ xs.length → IsOrd (compactUpTo xs.toArray m) (· ∈ xs.take m) := by
  intro m
  induction m with
  | zero => intro _; exact ⟨by simp [compactUpTo], fun s => by simp [compactUpTo]⟩
  | succ m ih =>
    intro hm
    obtain ⟨x, hx⟩ := get_some (show m < xs.length by omega)
    have h := ih (by omega)
    rw [compact_next hx, take_next hx]
    have hle : ∀ y ∈ xs.take m, ¬ bef x y := by
      intro y hy
      have hp : (xs.take m ++ [x]).Pairwise (fun x y => ¬ bef y x) := by
        rw [← take_next hx]; exact hs.sublist (List.take_sublist _ _)
      exact (List.pairwise_append.1 hp).2.2 y hy x (by simp)
    cases hk : keeps xs.toArray m with
    | false =>
      rw [if_neg (by simp), List.append_nil]
      refine h.congr fun s => ?_
      rw [List.mem_append, List.mem_singleton]
      refine ⟨.inl, fun h' => h'.elim id fun e => ?_⟩
      unfold keeps at hk
      simp only [decide_eq_false_iff_not, not_or, ne_eq, Classical.not_not] at hk
      obtain ⟨y, hy⟩ := get_some (show m - 1 < xs.length by omega)
      have e1 : xs.toArray[m]! = x := by simp [getElem!_def, hx]
      have e2 : xs.toArray[m - 1]! = y := by simp [getElem!_def, hy]
      rw [e1, e2] at hk
      rw [e, hk.2]
      apply List.mem_of_getElem? (i := m - 1)
      rw [List.getElem?_take_of_lt (by omega)]; exact hy
    | true =>
      rw [if_pos rfl]
      have hlt : ∀ y ∈ xs.take m, bef y x := by
        intro y hy
        apply Classical.byContradiction
        intro hn
        have e : y = x := bef_total hn (hle y hy)
        subst e
        unfold keeps at hk
        simp only [decide_eq_true_iff] at hk
        rcases hk with h0 | hk
        · subst h0; simp at hy
        · obtain ⟨z, hz⟩ := get_some (show m - 1 < xs.length by omega)
          have e1 : xs.toArray[m]! = y := by simp [getElem!_def, hx]
          have e2 : xs.toArray[m - 1]! = z := by simp [getElem!_def, hz]
          rw [e1, e2] at hk
          apply hk
          have hm0 : 0 < m := by
            apply Nat.pos_of_ne_zero; intro h0; subst h0; simp at hy
          have hzm : z ∈ xs.take m := by
            apply List.mem_of_getElem? (i := m - 1)
            rw [List.getElem?_take_of_lt (by omega)]; exact hz
          -- y lies at some place up to m - 1, so z is not before y, and y is not before z
          obtain ⟨j, hj, hyj⟩ := List.mem_iff_getElem.1 hy
          have hjm : j < m := by simp at hj; omega
          have hyj' : xs[j]? = some y := by
            rw [← List.getElem?_take_of_lt hjm, List.getElem?_eq_getElem hj, hyj]
          have hzy : ¬ bef z y := by
            by_cases e : j = m - 1
            · subst e
              rw [hyj'] at hz
              rw [← Option.some.inj hz]; exact bef_irrefl y
            · obtain ⟨h1, rfl⟩ := List.getElem?_eq_some_iff.1 hyj'
              obtain ⟨h2, rfl⟩ := List.getElem?_eq_some_iff.1 hz
              exact List.pairwise_iff_getElem.1 hs j (m - 1) h1 h2 (by omega)
          exact (bef_total hzy (hle z hzm)).symm
      refine ⟨List.pairwise_append.2 ⟨h.1, by simp, fun a ha b hb => ?_⟩, fun s => ?_⟩
      · rw [List.mem_singleton] at hb; subst hb
        exact hlt a ((h.2 a).1 ha)
      · show s ∈ compactUpTo xs.toArray m ++ [x] ↔ s ∈ xs.take m ++ [x]
        rw [List.mem_append, List.mem_append, h.2 s]
theorem compact_ord {xs : List S} (hs : xs.Pairwise (fun x y => ¬ bef y x)) : IsOrd (compact xs) (· ∈ xs) := by
  have := compact_take hs xs.length (Nat.le_refl _)
  rwa [List.take_length] at this
theorem compact_length (xs : List S) : (compact xs).length ≤ xs.length := by
  unfold compact compactUpTo
  rw [List.length_map]
  exact Nat.le_trans (List.length_filter_le _ _) (by simp)

/-- The different sets of a list in order. -/
def ordS (xs : List S) : List S := Go.Lib.compact (sortS xs)
theorem ordS_ord (xs : List S) : IsOrd (ordS xs) (· ∈ xs) := (compact_ord (sortS_sorted xs)).congr fun s => (sortS_perm xs).mem_iff (a := s)
theorem ordS_of {xs ys : List S} {p : S → Prop} (h : IsOrd ys p) (k : ∀ s, p s ↔ s ∈ xs) : ys = ordS xs := h.uniq (ordS_ord xs) k

end Go.Proofs.Ytkehelplmipenaa
