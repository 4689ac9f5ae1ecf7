/- 'append(out, ys...)' of a whole list onto a row of the call's own. No program. -/
import Derived.Test.YtgahpgmagfngfaaGreatDoorCells
import Derived.RegionTactic
import Derived.Deep.RegionHeld3
namespace Go.Proofs.YtgahpgmagfngfaaGreatDoor
open Go.RowKit

section
variable {α : Type} {c : α → List Value} {n : Nat}
theorem run_append_nilC {P : Program} {w : World} (base : Nat) (t ty e : TypeId) (i : TypeInfo) (size : Nat) (ht : P.underlying t = some (.slice e)) (hi : P.info? e = some i)
    (v : Value) (n : Nat) (xs : List Value) (hown : w.ownsRow base e size v n xs) (cp : Nat) : (Builtin.append_ #[t, t] ty #[v, .slice none 0 cp]).run P w = .ok v w := by
  rcases hown.2 with ⟨rfl, rfl⟩ | ⟨g, cap, cur, rfl, _, _, hnc, _⟩
  · simp [Builtin.append_, run_underlying ht, sizeOf, typeInfo, hi, Builtin.lenOf, Builtin.firstCells]
  · simp [Builtin.append_, run_underlying ht, sizeOf, typeInfo, hi, Builtin.lenOf, Builtin.firstCells, hnc, storeCells]
theorem run_appC {P : Program} {w : World} (B : Nat) (t ty e : TypeId) (z : Value) (bytes : Nat) (ht : P.underlying t = some (.slice e)) (hinfo : (P.info? e).map (fun i => (i.zero, i.size, i.bytes)) = some (some z, n, bytes)) (hz : z.cells.size = n) (hn : 0 < n) (hb8 : bytes ≤ 64)
    (hc : ∀ y, (c y).length = n) (hf : ∀ y, ∀ u ∈ c y, u.oneCell' = true) (v : Value) (xs : List α) (hown : w.ownsRow B e n v xs.length (xs.flatMap c))
    (u : Value) (ys : List α) (hu : RdC c w u ys) (hl : xs.length + ys.length < 2199023255552) (hB : B ≤ w.heap.size) :
    ∃ v' w', (Builtin.append_ #[t, t] ty #[v, u]).run P w = .ok v' w' ∧ w'.ownsRow B e n v' (xs ++ ys).length ((xs ++ ys).flatMap c) ∧ w.grownBy w' v.ownBlock := by
  obtain ⟨i, hi, hz0, hz1, hz2⟩ := info_parts hinfo
  obtain ⟨ao, cap, rfl, h1, h2, h3⟩ := hu
  cases ao with
  | none =>
    have hy : ys = [] := by
      cases ys with
      | nil => rfl
      | cons x l => obtain ⟨b, off, h, _⟩ := h3 (by simp); cases h
    subst hy
    exact ⟨v, w, run_append_nilC B t ty e i n ht hi v _ _ hown cap, by simpa using hown, World.grownBy.refl w _⟩
  | some a =>
    have hlen := flat_length hc ys
    have hcells : ∀ (j : Nat) (u : Value), (ys.flatMap c)[j]? = some u → w.cell? (a.add j) = some u := by
      intro j u hu
      have hj : j < (ys.flatMap c).length := (List.getElem?_eq_some_iff.1 hu).1
      obtain ⟨b, off, e, _, hc'⟩ := h3 (by
        apply Nat.pos_of_ne_zero; intro h0
        rw [hlen, h0] at hj; simp at hj)
      cases e
      rw [Addr.add_lit]
      exact hc' j u hu
    obtain ⟨v', w', hrun, h5, h6, _⟩ := run_append_own (P := P) w B t ty e i z n bytes ht hi hz0 hz1 hz2 hz hn v xs.length (xs.flatMap c) hown a ys.length cap (ys.flatMap c) hlen hcells
      (fun u hu => by obtain ⟨y, _, hy⟩ := List.mem_flatMap.1 hu; exact hf y u hy) (by unfold maxLen; omega) (by refine Nat.le_trans (Nat.mul_le_mul_left _ hb8) ?_; omega) hB
    exact ⟨v', w', hrun, by simpa using h5, h6⟩
theorem wp_appC {P : Program} {w : World} {o : Oper} {a : Act} {K : Act → World → Prop} {Q : Exit → Act → World → Prop} (s x : Operand) (t : TypeId)
    (ho : o.op = .call { callee := .builtin .append, args := #[s, x], argTypes := #[t, t] })
    (B : Nat) (e : TypeId) (z : Value) (bytes : Nat) (ht : P.underlying t = some (.slice e)) (hinfo : (P.info? e).map (fun i => (i.zero, i.size, i.bytes)) = some (some z, n, bytes)) (hz : z.cells.size = n) (hn : 0 < n) (hb8 : bytes ≤ 64)
    (hc : ∀ y, (c y).length = n) (hf : ∀ y, ∀ u ∈ c y, u.oneCell' = true) (v : Value) (xs : List α) (hs : a.eval s = v) (hown : w.ownsRow B e n v xs.length (xs.flatMap c))
    (u : Value) (ys : List α) (hx : a.eval x = u) (hu : RdC c w u ys) (hl : xs.length + ys.length < 2199023255552) (hB : B ≤ w.heap.size)
    (h : ∀ v' w', w'.ownsRow B e n v' (xs ++ ys).length ((xs ++ ys).flatMap c) → w.grownBy w' v.ownBlock → K (a.put o.dst v') w') : o.wp P a w K Q := by
  obtain ⟨v', w', hrun, h2, h3⟩ := run_appC (P := P) B t o.type e z bytes ht hinfo hz hn hb8 hc hf v xs hown u ys hu hl hB
  unfold Oper.wp execOp
  simp only [ho, resolve, invoke, builtin, Sem.run_bind, Sem.run_pure, Result.andThen_ok, List.map_toArray, List.map_cons, List.map_nil, hs, hx, hrun]
  exact h v' w' h2 h3
/-- 'append(out, ys...)', out the call's own. -/
theorem wpList_appC {P : Program} {w : World} {ops : Array Oper} {rest : List Oper} {o : Oper} {a : Act} {Q : Exit → Act → World → Prop} (hgd : o.guard = none) (s x : Operand) (t : TypeId)
    (ho : o.op = .call { callee := .builtin .append, args := #[s, x], argTypes := #[t, t] })
    (B : Nat) (e : TypeId) (z : Value) (bytes : Nat) (ht : P.underlying t = some (.slice e)) (hinfo : (P.info? e).map (fun i => (i.zero, i.size, i.bytes)) = some (some z, n, bytes)) (hz : z.cells.size = n) (hn : 0 < n) (hb8 : bytes ≤ 64)
    (hc : ∀ y, (c y).length = n) (hf : ∀ y, ∀ u ∈ c y, u.oneCell' = true) (v : Value) (xs : List α) (hs : a.eval s = v) (hown : w.ownsRow B e n v xs.length (xs.flatMap c))
    (u : Value) (ys : List α) (hx : a.eval x = u) (hu : RdC c w u ys) (hl : xs.length + ys.length < 2199023255552) (hB : B ≤ w.heap.size)
    (h : ∀ v' w', w'.ownsRow B e n v' (xs ++ ys).length ((xs ++ ys).flatMap c) → w.grownBy w' v.ownBlock → wpList P ops Q rest (a.put o.dst v') w') : wpList P ops Q (o :: rest) a w :=
  wpList_plain hgd fun _ hK => wp_appC s x t ho B e z bytes ht hinfo hz hn hb8 hc hf v xs hs hown u ys hx hu hl hB fun v' w' h2 h3 => hK _ _ (h v' w' h2 h3)
end

end Go.Proofs.YtgahpgmagfngfaaGreatDoor
