/- 'append(out, ys...)' of a whole list onto a row of the call's own; parts of a list; the walks of slices.Grow and slices.Concat at dependencies. -/
import Derived.Test.YtmlbmdcmedglaaaDoorGrowQ
import Derived.Test.YtmlbmdcmedglaaaDoorFdV
import Derived.RegionTactic
import Derived.Deep.RegionHeld3
namespace Go.Proofs.YtmlbmdcmedglaaaDoor
open Go.RowKit

section
variable {α : Type} {c : α → List Value} {n : Nat}
theorem run_append_nilC {P : Program} {w : World} (base : Nat) (t ty e : TypeId) (i : TypeInfo) (size : Nat) (ht : P.underlying t = some (.slice e)) (hi : P.info? e = some i)
    (v : Value) (n : Nat) (xs : List Value) (hown : w.ownsRow base e size v n xs) (cp : Nat) : (Builtin.append_ #[t, t] ty #[v, .slice none 0 cp]).run P w = .ok v w := by
  rcases hown.2 with ⟨rfl, rfl⟩ | ⟨g, cap, cur, rfl, _, _, hnc, _⟩
  · simp [Builtin.append_, run_underlying ht, sizeOf, typeInfo, hi, Builtin.lenOf, Builtin.firstCells]
  · simp [Builtin.append_, run_underlying ht, sizeOf, typeInfo, hi, Builtin.lenOf, Builtin.firstCells, hnc, storeCells]
theorem run_appC {P : Program} {w : World} (B : Nat) (t ty e : TypeId) (z : Value) (bytes : Nat) (ht : P.underlying t = some (.slice e)) (hinfo : (P.info? e).map (fun i => (i.zero, i.size, i.bytes)) = some (some z, n, bytes)) (hz : z.cells.size = n) (hn : 0 < n) (hb8 : bytes ≤ 64)
    (hc : ∀ y, (c y).length = n) (hf : ∀ y, ∀ u ∈ c y, u.oneCell' = true) (v : Value) (xs : List α) (hown : w.ownsRow B e n v xs.length (xs.flatMap c))
    (u : Value) (ys : List α) (hu : RdC c w u ys) (hl : xs.length + ys.length < 2199023255552) (hB : B ≤ w.heap.size) :
    ∃ v' w', (Builtin.append_ #[t, t] ty #[v, u]).run P w = .ok v' w' ∧ w'.ownsRow B e n v' (xs ++ ys).length ((xs ++ ys).flatMap c) ∧ w.grownBy w' v.ownBlock := by
  obtain ⟨i, hi, hz0, hz1, hz2⟩ := info_parts hinfo
  obtain ⟨ao, cap, rfl, h1, h2, h3⟩ := hu
  cases ao with
  | none =>
    have hy : ys = [] := by
      cases ys with
      | nil => rfl
      | cons x l => obtain ⟨b, off, h, _⟩ := h3 (by simp); cases h
    subst hy
    exact ⟨v, w, run_append_nilC B t ty e i n ht hi v _ _ hown cap, by simpa using hown, World.grownBy.refl w _⟩
  | some a =>
    have hlen := flat_length hc ys
    have hcells : ∀ (j : Nat) (u : Value), (ys.flatMap c)[j]? = some u → w.cell? (a.add j) = some u := by
      intro j u hu
      have hj : j < (ys.flatMap c).length := (List.getElem?_eq_some_iff.1 hu).1
      obtain ⟨b, off, e, _, hc'⟩ := h3 (by
        apply Nat.pos_of_ne_zero; intro h0
        rw [hlen, h0] at hj; simp at hj)
      cases e
      rw [Addr.add_lit]
      exact hc' j u hu
    obtain ⟨v', w', hrun, h5, h6, _⟩ := run_append_own (P := P) w B t ty e i z n bytes ht hi hz0 hz1 hz2 hz hn v xs.length (xs.flatMap c) hown a ys.length cap (ys.flatMap c) hlen hcells
      (fun u hu => by obtain ⟨y, _, hy⟩ := List.mem_flatMap.1 hu; exact hf y u hy) (by unfold maxLen; omega) (by refine Nat.le_trans (Nat.mul_le_mul_left _ hb8) ?_; omega) hB
    exact ⟨v', w', hrun, by simpa using h5, h6⟩
theorem wp_appC {P : Program} {w : World} {o : Oper} {a : Act} {K : Act → World → Prop} {Q : Exit → Act → World → Prop} (s x : Operand) (t : TypeId)
    (ho : o.op = .call { callee := .builtin .append, args := #[s, x], argTypes := #[t, t] })
    (B : Nat) (e : TypeId) (z : Value) (bytes : Nat) (ht : P.underlying t = some (.slice e)) (hinfo : (P.info? e).map (fun i => (i.zero, i.size, i.bytes)) = some (some z, n, bytes)) (hz : z.cells.size = n) (hn : 0 < n) (hb8 : bytes ≤ 64)
    (hc : ∀ y, (c y).length = n) (hf : ∀ y, ∀ u ∈ c y, u.oneCell' = true) (v : Value) (xs : List α) (hs : a.eval s = v) (hown : w.ownsRow B e n v xs.length (xs.flatMap c))
    (u : Value) (ys : List α) (hx : a.eval x = u) (hu : RdC c w u ys) (hl : xs.length + ys.length < 2199023255552) (hB : B ≤ w.heap.size)
    (h : ∀ v' w', w'.ownsRow B e n v' (xs ++ ys).length ((xs ++ ys).flatMap c) → w.grownBy w' v.ownBlock → K (a.put o.dst v') w') : o.wp P a w K Q := by
  obtain ⟨v', w', hrun, h2, h3⟩ := run_appC (P := P) B t o.type e z bytes ht hinfo hz hn hb8 hc hf v xs hown u ys hu hl hB
  unfold Oper.wp execOp
  simp only [ho, resolve, invoke, builtin, Sem.run_bind, Sem.run_pure, Result.andThen_ok, List.map_toArray, List.map_cons, List.map_nil, hs, hx, hrun]
  exact h v' w' h2 h3
/-- 'append(out, ys...)', out the call's own. -/
theorem wpList_appC {P : Program} {w : World} {ops : Array Oper} {rest : List Oper} {o : Oper} {a : Act} {Q : Exit → Act → World → Prop} (hgd : o.guard = none) (s x : Operand) (t : TypeId)
    (ho : o.op = .call { callee := .builtin .append, args := #[s, x], argTypes := #[t, t] })
    (B : Nat) (e : TypeId) (z : Value) (bytes : Nat) (ht : P.underlying t = some (.slice e)) (hinfo : (P.info? e).map (fun i => (i.zero, i.size, i.bytes)) = some (some z, n, bytes)) (hz : z.cells.size = n) (hn : 0 < n) (hb8 : bytes ≤ 64)
    (hc : ∀ y, (c y).length = n) (hf : ∀ y, ∀ u ∈ c y, u.oneCell' = true) (v : Value) (xs : List α) (hs : a.eval s = v) (hown : w.ownsRow B e n v xs.length (xs.flatMap c))
    (u : Value) (ys : List α) (hx : a.eval x = u) (hu : RdC c w u ys) (hl : xs.length + ys.length < 2199023255552) (hB : B ≤ w.heap.size)
    (h : ∀ v' w', w'.ownsRow B e n v' (xs ++ ys).length ((xs ++ ys).flatMap c) → w.grownBy w' v.ownBlock → wpList P ops Q rest (a.put o.dst v') w') : wpList P ops Q (o :: rest) a w :=
  wpList_plain hgd fun _ hK => wp_appC s x t ho B e z bytes ht hinfo hz hn hb8 hc hf v xs hs hown u ys hx hu hl hB fun v' w' h2 h3 => hK _ _ (h v' w' h2 h3)
theorem step_appC {P : Program} {w : World} {ops : Array Oper} {o : Oper} {a : Act} {K : Act → World → Prop} {Q : Exit → Act → World → Prop} {E : Prop} (hgd : o.guard = none) (s x : Operand) (t : TypeId)
    (ho : o.op = .call { callee := .builtin .append, args := #[s, x], argTypes := #[t, t] })
    (B : Nat) (e : TypeId) (z : Value) (bytes : Nat) (ht : P.underlying t = some (.slice e)) (hinfo : (P.info? e).map (fun i => (i.zero, i.size, i.bytes)) = some (some z, n, bytes)) (hz : z.cells.size = n) (hn : 0 < n) (hb8 : bytes ≤ 64)
    (hc : ∀ y, (c y).length = n) (hf : ∀ y, ∀ u ∈ c y, u.oneCell' = true) (v : Value) (xs : List α) (hs : a.eval s = v) (hown : w.ownsRow B e n v xs.length (xs.flatMap c))
    (u : Value) (ys : List α) (hx : a.eval x = u) (hu : RdC c w u ys) (hl : xs.length + ys.length < 2199023255552) (hB : B ≤ w.heap.size)
    (h : ∀ v' w', w'.ownsRow B e n v' (xs ++ ys).length ((xs ++ ys).flatMap c) → w.grownBy w' v.ownBlock → K (a.put o.dst v') w') :
    if Region.wanted o (yielded ops a.tmps) = true then Oper.wp P o a w K Q else E := by
  have hw : Region.wanted o (yielded ops a.tmps) = true := by simp [Region.wanted, hgd]
  rw [if_pos hw]
  exact wp_appC s x t ho B e z bytes ht hinfo hz hn hb8 hc hf v xs hs hown u ys hx hu hl hB h

/-- The beginning and the end of a list. -/
theorem RdC.take {w : World} {b off len cap k : Nat} {xs : List α} (h : RdC c w (.slice (some ⟨b, off, none⟩) len cap) xs) (hk : k ≤ xs.length) : RdC c w (.slice (some ⟨b, off, none⟩) k cap) (xs.take k) := by
  obtain ⟨ao, cap', he, h1, h2, h3⟩ := h
  cases he
  refine ⟨_, _, by rw [List.length_take, Nat.min_eq_left hk], by rw [List.length_take]; omega, by rw [List.length_take]; omega, fun hp => ?_⟩
  obtain ⟨b', off', e, hb, hc'⟩ := h3 (by rw [List.length_take] at hp; omega)
  cases e
  refine ⟨b, off, rfl, hb, fun j u hu => hc' j u ?_⟩
  have : xs.flatMap c = (xs.take k).flatMap c ++ (xs.drop k).flatMap c := by rw [← List.flatMap_append, List.take_append_drop]
  rw [this, List.getElem?_append_left (List.getElem?_eq_some_iff.1 hu).1]; exact hu
theorem RdC.drop {w : World} {b off len cap k : Nat} {xs : List α} (hc : ∀ x, (c x).length = n) (h : RdC c w (.slice (some ⟨b, off, none⟩) len cap) xs) (hk : k ≤ xs.length) : RdC c w (.slice (if cap = k then some ⟨b, off, none⟩ else some ⟨b, off + k * n, none⟩) (len - k) (cap - k)) (xs.drop k) := by
  obtain ⟨ao, cap', he, h1, h2, h3⟩ := h
  cases he
  refine ⟨_, _, by rw [List.length_drop], by rw [List.length_drop]; omega, by rw [List.length_drop]; omega, fun hp => ?_⟩
  have hlt : k < xs.length := by rw [List.length_drop] at hp; omega
  obtain ⟨b', off', e, hb, hc'⟩ := h3 (by omega)
  cases e
  refine ⟨b, off + k * n, by rw [if_neg (by omega)], hb, fun j u hu => ?_⟩
  have e2 : xs.flatMap c = (xs.take k).flatMap c ++ (xs.drop k).flatMap c := by rw [← List.flatMap_append, List.take_append_drop]
  have := hc' (k * n + j) u (by
    rw [e2, List.getElem?_append_right (by rw [flat_length hc, List.length_take, Nat.min_eq_left hk]; omega), flat_length hc, List.length_take, Nat.min_eq_left hk, Nat.add_sub_cancel_left]; exact hu)
  rw [← Nat.add_assoc] at this; exact this
end

/-- slices.Grow of the nil slice. -/
theorem grow_any (k : Nat) (hk : k < 1099511627776) (w : World) :
    Calls Tryd.prog 96 #[.slice none 0 0, .int .i64 k] w fun e w' => ∃ v', e = .returned v' ∧ w'.ownsRow w.heap.size 30 2 v' 0 [] ∧ Below w.heap.size w w' := by
  by_cases h0 : k = 0
  · subst h0
    exact (Any8.slices_Grow_room Tryd.growQ none 0 0 0 w (by omega) (by omega) (by omega) (by omega)).mono fun e w' ⟨he, hw⟩ => ⟨_, he, by rw [hw]; exact World.ownsRow_nil _ _ _ _, by rw [hw]; exact Below.refl _ _⟩
  · obtain ⟨i, hi, hz0, hz1, hz2⟩ := info_parts infoFD
    have h := Any8.slices_Grow_grow Tryd.growQ i (.agg #[.int .u32 0, .int .u32 0]) hi hz0 (by omega) none 0 0 k [] w (by omega) (by omega) (by rw [hz2]; omega) (by omega) (by simp) (by simp) (by simp)
    have hcap : grownCap w (0 + k) 0 30 ≤ maxLen := grownCap_le_maxLen w _ _ _ (by unfold maxLen; omega)
    have hge : 0 + k ≤ grownCap w (0 + k) 0 30 := grownCap_ge w _ _ _
    have h' : Calls Tryd.prog 96 #[.slice none 0 0, .int .i64 k] w fun e w' => e = .returned (.slice (some ⟨w.heap.size, 0, none⟩) 0 (grownCap w (0 + k) 0 30)) ∧
      w' = w.drew.alloc (.cells (([] : List Value).toArray ++ Builtin.zeroCells (Value.agg #[.int .u32 0, .int .u32 0]).cells (0 + k - 0) ++ Builtin.zeroCells (Value.agg #[.int .u32 0, .int .u32 0]).cells (grownCap w (0 + k) 0 30 - (0 + k))) 30) := h
    clear h
    generalize grownCap w (0 + k) 0 30 = G at *
    refine h'.mono fun e w' ⟨he, hw⟩ => ?_
    have hsz : (([] : List Value).toArray ++ Builtin.zeroCells (Value.agg #[.int .u32 0, .int .u32 0]).cells (0 + k - 0) ++ Builtin.zeroCells (Value.agg #[.int .u32 0, .int .u32 0]).cells (G - (0 + k))).size = G * 2 := by
      rw [Array.size_append, Array.size_append, size_zeroCells, size_zeroCells, show (Value.agg #[.int .u32 0, .int .u32 0]).cells.size = 2 from rfl]
      simp; omega
    generalize ([] : List Value).toArray ++ Builtin.zeroCells (Value.agg #[.int .u32 0, .int .u32 0]).cells (0 + k - 0) ++ Builtin.zeroCells (Value.agg #[.int .u32 0, .int .u32 0]).cells (G - (0 + k)) = cs at *
    subst hw
    refine ⟨_, he, ⟨by simp, .inr ⟨w.heap.size, G, cs, rfl, Nat.le_refl _, ?_, Nat.zero_le _, hcap, hsz, by simp⟩⟩, (Below.refl _ w).drew.alloc (Nat.le_refl _) _⟩
    show (w.heap.push (.cells cs 30))[w.heap.size]? = _
    simp

end Go.Proofs.YtmlbmdcmedglaaaDoor
