/- Slices whose elements take several cells (structs), told as lists. No program. -/
import Derived.Test.YtgahpgmagfngfaaGreatDoorGPlain
import Derived.Deep.AppendLies
namespace Go.Proofs.YtgahpgmagfngfaaGreatDoor
open Go.RowKit

theorem filter_next {α : Type} {xs : List α} {k : Nat} {x : α} (h : xs[k]? = some x) (p : α → Bool) : (xs.take (k + 1)).filter p = (xs.take k).filter p ++ (if p x then [x] else []) := by
  rw [take_next h, List.filter_append]
  cases hp : p x <;> simp [hp]

section
variable {α : Type} {c : α → List Value} {n : Nat}
theorem flat_length (hc : ∀ x, (c x).length = n) (xs : List α) : (xs.flatMap c).length = xs.length * n := by
  induction xs with
  | nil => simp
  | cons x xs ih => rw [List.flatMap_cons, List.length_append, ih, hc, List.length_cons, Nat.add_mul]; omega
theorem flat_at (hc : ∀ x, (c x).length = n) : ∀ (xs : List α) (i : Nat) (x : α) (j : Nat) (u : Value), xs[i]? = some x → (c x)[j]? = some u → (xs.flatMap c)[i * n + j]? = some u := by
  intro xs
  induction xs with
  | nil => intro i x j u h; simp at h
  | cons y ys ih =>
    intro i x j u h hu
    have hj : j < n := by rw [← hc x]; exact (List.getElem?_eq_some_iff.1 hu).1
    rw [List.flatMap_cons]
    cases i with
    | zero =>
      simp at h; subst h
      rw [Nat.zero_mul, Nat.zero_add, List.getElem?_append_left (by rw [hc]; exact hj)]
      exact hu
    | succ i =>
      rw [List.getElem?_append_right (by rw [hc, Nat.add_mul]; omega), hc]
      rw [show (i + 1) * n + j - n = i * n + j by rw [Nat.add_mul]; omega]
      exact ih i x j u (by simpa using h) hu

/-- The slice value v reads, in the world w, as the list xs; each element is the cells c. -/
def RdC (c : α → List Value) (w : World) (v : Value) (xs : List α) : Prop :=
  ∃ ao cap, v = .slice ao xs.length cap ∧ xs.length ≤ cap ∧ xs.length ≤ 35184372088832 ∧
    (0 < xs.length → ∃ b off, ao = some ⟨b, off, none⟩ ∧ b < w.heap.size ∧ ∀ (j : Nat) (u : Value), (xs.flatMap c)[j]? = some u → w.cell? ⟨b, off + j, none⟩ = some u)

theorem RdC.below {w w' : World} {v : Value} {xs : List α} (h : RdC c w v xs) (hb : Below w.heap.size w w') : RdC c w' v xs := by
  obtain ⟨ao, cap, rfl, h1, h2, h3⟩ := h
  refine ⟨ao, cap, rfl, h1, h2, fun hp => ?_⟩
  obtain ⟨b, off, rfl, hlt, hc⟩ := h3 hp
  exact ⟨b, off, rfl, Nat.lt_of_lt_of_le hlt hb.size, fun j u hu => (hb.cell (p := ⟨b, off + j, none⟩) hlt).trans (hc j u hu)⟩

theorem RdC.of_owns {w : World} {base : Nat} {e : TypeId} {v : Value} {xs : List α} (hc : ∀ x, (c x).length = n) (h : w.ownsRow base e n v xs.length (xs.flatMap c)) (hl : xs.length ≤ 35184372088832) : RdC c w v xs := by
  rcases h.2 with ⟨rfl, hn⟩ | ⟨g, cap, cur, rfl, hb, hg, hnc, hcm, hcs, htake⟩
  · have hx : xs = [] := List.eq_nil_of_length_eq_zero hn
    subst hx
    exact ⟨none, 0, rfl, Nat.le_refl _, hl, fun hp => absurd hp (by simp)⟩
  · refine ⟨_, cap, rfl, hnc, hl, fun _ => ⟨g, 0, rfl, (Array.getElem?_eq_some_iff.1 hg).1, fun j u hu => ?_⟩⟩
    have hlt : j < (xs.flatMap c).length := (List.getElem?_eq_some_iff.1 hu).1
    rw [flat_length hc] at hlt
    rw [Nat.zero_add, h.cellAt j hlt, hu]

/-- A list of one-cell elements as a slice: its cells, in each later world. -/
theorem RdE.split {f : α → Value} {w : World} {v : Value} {xs : List α} (h : RdE f w v xs) : ∃ ao cap, v = .slice ao xs.length cap ∧ xs.length ≤ 35184372088832 ∧
    ∀ (k : Nat) (x : α), xs[k]? = some x → ∃ b off, ao = some ⟨b, off, none⟩ ∧ ∀ wr, Below w.heap.size w wr → wr.cell? ⟨b, off + k, none⟩ = some (f x) := by
  obtain ⟨ao, cap, rfl, -, h2, h3⟩ := h
  refine ⟨ao, cap, rfl, h2, fun k x hx => ?_⟩
  obtain ⟨b, off, rfl, hb, hc⟩ := h3 (by have := (List.getElem?_eq_some_iff.1 hx).1; omega)
  exact ⟨b, off, rfl, fun wr hn => (hn.cell (p := ⟨b, off + k, none⟩) hb).trans (hc k x hx)⟩
/-- A list that the text writes out. -/
theorem RdC.lit (hc : ∀ x, (c x).length = n) (w : World) (xs : List α) (t : TypeId) (hl : xs.length ≤ 1000) (hn : n ≤ 100) : RdC c (w.alloc (.cells (xs.flatMap c).toArray t)) (.slice (some ⟨w.heap.size, 0, none⟩) xs.length xs.length) xs := by
  have h2 : xs.length * n ≤ 1000 * 100 := Nat.mul_le_mul hl hn
  have := World.ownsRow_lit (size := n) (e := t) (base := w.heap.size) w (xs.flatMap c).toArray xs.length (Nat.le_refl _) (by unfold maxLen; omega) (by simp [flat_length hc])
  refine RdC.of_owns (base := w.heap.size) (e := t) hc ?_ (by omega)
  simpa [flat_length hc, List.take_of_length_le] using this
theorem RdE.lit {f : α → Value} (w : World) (xs : List α) (t : TypeId) (hl : xs.length ≤ 1000) : RdE f (w.alloc (.cells (xs.map f).toArray t)) (.slice (some ⟨w.heap.size, 0, none⟩) xs.length xs.length) xs := by
  have := World.ownsRow_lit (size := 1) (e := t) (base := w.heap.size) w (xs.map f).toArray xs.length (Nat.le_refl _) (by unfold maxLen; omega) (by simp)
  exact RdE.of_owns (base := w.heap.size) (e := t) (by simpa using this) (by omega)
theorem RdC.nil (w : World) (cap : Nat) : RdC c w (.slice none 0 cap) [] := ⟨none, cap, rfl, Nat.zero_le _, by simp, fun h => absurd h (by simp)⟩
theorem RdE.nil {f : α → Value} (w : World) (cap : Nat) : RdE f w (.slice none 0 cap) [] := ⟨none, cap, rfl, Nat.zero_le _, by simp, fun h => absurd h (by simp)⟩

/-- 'append(out, y)' of one element of several cells, out the call's own. -/
theorem wpList_pushC {P : Program} {w : World} {ops : Array Oper} {rest : List Oper} {o : Oper} {a : Act} {Q : Exit → Act → World → Prop} (hgd : o.guard = none) (s x : Operand) (t : TypeId)
    (ho : o.op = .call { callee := .builtin .append, args := #[s, x], argTypes := #[t, t] })
    (B : Nat) (e : TypeId) (z : Value) (n bytes : Nat) (ht : P.underlying t = some (.slice e)) (hinfo : (P.info? e).map (fun i => (i.zero, i.size, i.bytes)) = some (some z, n, bytes)) (hz : z.cells.size = n) (hn : 0 < n) (hb8 : bytes ≤ 64)
    (c : α → List Value) (hc : ∀ y, (c y).length = n) (hf : ∀ y, ∀ u ∈ c y, u.oneCell' = true) (v : Value) (xs : List α) (hs : a.eval s = v) (hown : w.ownsRow B e n v xs.length (xs.flatMap c))
    (ad : Addr) (y : α) (hx : a.eval x = .slice (some ad) 1 1) (hy : ∀ j u, (c y)[j]? = some u → w.cell? (ad.add j) = some u) (hl : xs.length < 2199023255552) (hB : B ≤ w.heap.size)
    (h : ∀ v' w', w'.ownsRow B e n v' (xs ++ [y]).length ((xs ++ [y]).flatMap c) → w.grownBy w' v.ownBlock → wpList P ops Q rest (a.put o.dst v') w') : wpList P ops Q (o :: rest) a w := by
  obtain ⟨i, hi, hz0, hz1, hz2⟩ := info_parts hinfo
  refine wpList_append_own w hgd s x t ho B e i z n bytes ht hi hz0 hz1 hz2 hz hn v xs.length (xs.flatMap c) hs hown ad 1 1 (c y) hx (by rw [hc, Nat.one_mul]) hy (hf y) ?_ ?_ hB ?_
  · unfold maxLen; omega
  · refine Nat.le_trans (Nat.mul_le_mul_left _ hb8) ?_; omega
  · intro v' w' h1 h2 _
    refine h v' w' ?_ h2
    simpa using h1
/-- The same at a step of a region that draws its order. -/
theorem step_pushC {P : Program} {w : World} {ops : Array Oper} {o : Oper} {a : Act} {K : Act → World → Prop} {Q : Exit → Act → World → Prop} {E : Prop} (hgd : o.guard = none) (s x : Operand) (t : TypeId)
    (ho : o.op = .call { callee := .builtin .append, args := #[s, x], argTypes := #[t, t] })
    (B : Nat) (e : TypeId) (z : Value) (n bytes : Nat) (ht : P.underlying t = some (.slice e)) (hinfo : (P.info? e).map (fun i => (i.zero, i.size, i.bytes)) = some (some z, n, bytes)) (hz : z.cells.size = n) (hn : 0 < n) (hb8 : bytes ≤ 64)
    (c : α → List Value) (hc : ∀ y, (c y).length = n) (hf : ∀ y, ∀ u ∈ c y, u.oneCell' = true) (v : Value) (xs : List α) (hs : a.eval s = v) (hown : w.ownsRow B e n v xs.length (xs.flatMap c))
    (ad : Addr) (y : α) (hx : a.eval x = .slice (some ad) 1 1) (hy : ∀ j u, (c y)[j]? = some u → w.cell? (ad.add j) = some u) (hl : xs.length < 2199023255552) (hB : B ≤ w.heap.size)
    (h : ∀ v' w', w'.ownsRow B e n v' (xs ++ [y]).length ((xs ++ [y]).flatMap c) → w.grownBy w' v.ownBlock → K (a.put o.dst v') w') :
    if Region.wanted o (yielded ops a.tmps) = true then Oper.wp P o a w K Q else E := by
  obtain ⟨i, hi, hz0, hz1, hz2⟩ := info_parts hinfo
  refine step_append_lies w hgd s x t ho B e i z n bytes ht hi hz0 hz1 hz2 hz hn v xs.length (xs.flatMap c) hs hown ad 1 1 (c y) hx (by rw [hc, Nat.one_mul]) hy (hf y) (by omega) ?_ ?_ hB _ rfl ?_
  · unfold maxLen; omega
  · refine Nat.le_trans (Nat.mul_le_mul_left _ hb8) ?_; omega
  · intro g cap w' h1 h2 _ _
    refine h _ w' ?_ h2
    simpa using h1

end

/-- The cells of a dependency. -/
def cF (f : F) : List Value := [enc f.1, enc f.2]
theorem cF_length (f : F) : (cF f).length = 2 := rfl
theorem cF_one (f : F) : ∀ u ∈ cF f, u.oneCell' = true := by
  intro u hu; simp [cF] at hu; rcases hu with rfl | rfl <;> rfl
theorem cells_newF (w : World) (f : F) {t : TypeId} : ∀ j u, (cF f)[j]? = some u → (w.alloc (.cells #[.int .u32 (iv f.1), .int .u32 (iv f.2)] t)).cell? (Addr.add ⟨w.heap.size, 0, none⟩ j) = some u := by
  intro j u hj
  have hj2 : j < 2 := (List.getElem?_eq_some_iff.1 hj).1
  rcases (show j = 0 ∨ j = 1 by omega) with rfl | rfl
  · simp [cF, enc] at hj; subst hj; simp [Addr.add]
  · simp [cF, enc] at hj; subst hj; simp [Addr.add]
theorem cells_newFd (w : World) (f : F) {t : TypeId} : ∀ j u, (cF f)[j]? = some u → (w.alloc (.cells #[.int .u32 (iv f.1), .int .u32 (iv f.2)] t)).drew.cell? (Addr.add ⟨w.heap.size, 0, none⟩ j) = some u := by
  intro j u hj
  rw [World.cell?_drew]; exact cells_newF w f j u hj
abbrev RdF (w : World) (v : Value) (xs : List F) : Prop := RdC cF w v xs
theorem flatF_at {xs : List F} {i : Nat} {f : F} (h : xs[i]? = some f) : (xs.flatMap cF)[i * 2]? = some (enc f.1) ∧ (xs.flatMap cF)[i * 2 + 1]? = some (enc f.2) :=
  ⟨flat_at cF_length xs i f 0 _ h rfl, flat_at cF_length xs i f 1 _ h rfl⟩
/-- A list of dependencies as a slice: its elements' cells, in each later world. -/
theorem RdF.split {w : World} {v : Value} {xs : List F} (h : RdF w v xs) : ∃ ao cap, v = .slice ao xs.length cap ∧ xs.length ≤ 35184372088832 ∧
    ∀ (k : Nat) (f : F), xs[k]? = some f → ∃ b off, ao = some ⟨b, off, none⟩ ∧ ∀ wr, Below w.heap.size w wr → wr.cell? ⟨b, off + k * 2, none⟩ = some (.int .u32 (iv f.1)) ∧ wr.cell? ⟨b, off + k * 2 + 1, none⟩ = some (.int .u32 (iv f.2)) := by
  obtain ⟨ao, cap, rfl, -, h2, h3⟩ := h
  refine ⟨ao, cap, rfl, h2, fun k f hf => ?_⟩
  obtain ⟨b, off, rfl, hb, hc⟩ := h3 (by have := (List.getElem?_eq_some_iff.1 hf).1; omega)
  exact ⟨b, off, rfl, fun wr hn => ⟨(hn.cell (p := ⟨b, off + k * 2, none⟩) hb).trans (hc _ _ (flatF_at hf).1), (hn.cell (p := ⟨b, off + k * 2 + 1, none⟩) hb).trans (hc _ _ (flatF_at hf).2)⟩⟩

end Go.Proofs.YtgahpgmagfngfaaGreatDoor
