/- Slices of structs as arguments, to any depth: opened to the words that the laws are stated in. No program. -/
import Derived.Test.YtcfcmalaabmceaaGreatDoorOpen
import Derived.Test.YtcfcmalaabmceaaGreatDoorGTabA
import Derived.SizedLaws
namespace Go.Proofs.YtcfcmalaabmceaaGreatDoor
open Go.ChangeShapes Go.WideShapes Go.ChangeAt Go.RowKit Go.Deep Go.Joins

section
variable {H : Type} {en : TypeId × Value → H} {P : Program} {W : World} {fuel : Nat} {t e : TypeId} {v : Value} {x : DataW H × List MemPlace}

/-- All sizes in a datum are within the reach. -/
def SizedD (P : Program) (t : TypeId) (d : DataW H) : Prop := ∀ n ∈ d.weights P t, n ≤ reachBytes
theorem mem_weightsAll {l : List (DataW H)} {d : DataW H} (h : d ∈ l) {n : Nat} (hn : n ∈ d.weights P e) : n ∈ DataW.weightsAll P e l := by
  induction l with
  | nil => cases h
  | cons y r ih =>
    simp only [DataW.weightsAll, List.mem_append]
    rcases List.mem_cons.1 h with rfl | h
    · exact .inl hn
    · exact .inr (ih h)
theorem SizedD.elem (ht : P.underlying t = some (.slice e)) {es sp : List (DataW H)} (h : SizedD P t (.slice es sp)) {d : DataW H} (hd : d ∈ es) : SizedD P e d := fun n hn => by
  refine h n ?_
  simp only [DataW.weights, ht, List.mem_cons, List.mem_append]
  exact .inr (.inl (mem_weightsAll hd hn))
theorem SizedD.length (ht : P.underlying t = some (.slice e)) {es sp : List (DataW H)} (h : SizedD P t (.slice es sp)) : es.length * P.bytesOf e ≤ reachBytes := by
  refine Nat.le_trans (Nat.mul_le_mul_right _ (Nat.le_add_right _ sp.length)) (h _ ?_)
  simp only [DataW.weights, ht, List.mem_cons, true_or]
theorem SizedD.field {fs : Array Field} (ht : P.underlying t = some (.struct fs)) {ds : List (DataW H)} (h : SizedD P t (.agg ds)) {j : Nat} {tj : TypeId} {d : DataW H} (hj : (fs.toList.map (·.type))[j]? = some tj) (hd : ds[j]? = some d) : SizedD P tj d := fun n hn => by
  refine h n ?_
  simp only [DataW.weights, ht]
  exact DataW.weights_mem_each hj hd n hn
theorem SizedD.arg {ts : List TypeId} {ds : List (DataW H)} (h : (DataW.weightsEach P ts ds).all (· ≤ reachBytes) = true) {j : Nat} {d : DataW H} (hj : ts[j]? = some t) (hd : ds[j]? = some d) : SizedD P t d := fun n hn =>
  of_decide_eq_true (List.all_eq_true.1 h n (DataW.weights_mem_each hj hd n hn))
theorem reach_4 {n b : Nat} (h : n * b ≤ reachBytes) (hb : 4 ≤ b) : n ≤ 35184372088832 := by
  have h1 := Nat.mul_le_mul_left n hb
  have h2 := reachBytes_lt
  omega

/-- A slice whose elements take several cells, each read by itself. -/
theorem argC_list {α : Type} [Inhabited α] (c : α → List Value) (n : Nat) (hcn : ∀ y, (c y).length = n) (R : α → Prop) (ht : P.underlying t = some (.slice e)) (ce : P.cellsOf e = n) (hn : 0 < n) (h4 : 4 ≤ P.bytesOf e)
    (hel : ∀ (k : Nat) (cs : List Value) (d : DataW H) (ps : List MemPlace), cs.length = n → DataW.trod en P W 0 (fun _ => true) true k e cs = some (d, ps) → SizedD P e d → ∃ y : α, c y = cs ∧ R y)
    (h : DataW.trod en P W 0 (fun _ => true) true fuel t [v] = some x) (hz : SizedD P t x.1) : ∃ xs : List α, RdC c W v xs ∧ ∀ y ∈ xs, R y := by
  rcases open_slice ht h with ⟨hcs, _⟩ | ⟨a, len, cap, m, k, D, Pl, hcs, _, hl, hm, hmm, rfl, hx⟩
  · simp at hcs; subst hcs
    exact ⟨[], RdC.nil _ _, fun _ h => absurd h (by simp)⟩
  · simp at hcs; subst hcs
    simp at hmm; obtain rfl : cap = m := hmm.symm
    have hL : len * P.bytesOf e ≤ reachBytes := by have := SizedD.length ht hz; simpa using this
    have hL4 := reach_4 hL h4
    have each : ∀ i, i < len → ∃ y : α, (∃ cs', W.cells? 0 (a.add (i * n)) n = some cs' ∧ c y = cs') ∧ R y := by
      intro i hi
      obtain ⟨cs', h1, h2⟩ := hx i (by omega)
      rw [ce] at h1
      obtain ⟨_, hl', _⟩ := World.cells?_some h1
      obtain ⟨y, hy, hR⟩ := hel k cs' (D i) (Pl i) hl' h2 (hz.elem ht (List.mem_map.2 ⟨i, List.mem_range.2 hi, rfl⟩))
      exact ⟨y, ⟨cs', h1, hy⟩, hR⟩
    obtain ⟨f, hf⟩ := choose_lt each
    obtain ⟨b, off, spot⟩ := a
    refine ⟨(List.range len).map f, ⟨some ⟨b, off, spot⟩, cap, by simp, by simp; omega, by simp; omega, fun hp => ?_⟩, ?_⟩
    · have hp0 : 0 < len := by simpa using hp
      obtain ⟨⟨cs', h1, h2⟩, _⟩ := hf 0 hp0
      obtain ⟨_, hl', hc0⟩ := World.cells?_some h1
      have hcell0 := hc0 0 hn
      obtain ⟨u0, hu0⟩ : ∃ u, cs'[0]? = some u := ⟨cs'[0]'(by omega), List.getElem?_eq_getElem _⟩
      rw [hu0] at hcell0
      have hspot : spot = none := by simpa [Addr.add] using World.cell?_spot hcell0
      subst hspot
      refine ⟨b, off, rfl, by have := World.block_lt_of_cell? W _ hcell0; simpa [Addr.add] using this, fun j u hu => ?_⟩
      have hj : j < len * n := by
        have := (List.getElem?_eq_some_iff.1 hu).1
        rw [flat_length hcn] at this; simpa using this
      obtain ⟨i, r, hi, hr, rfl⟩ : ∃ i r, i < len ∧ r < n ∧ j = i * n + r := ⟨j / n, j % n, (Nat.div_lt_iff_lt_mul hn).2 hj, Nat.mod_lt _ hn, by rw [Nat.mul_comm, Nat.div_add_mod]⟩
      have hxi : ((List.range len).map f)[i]? = some (f i) := by rw [List.getElem?_map, List.getElem?_range hi]; rfl
      obtain ⟨⟨cs2, h3, h4'⟩, _⟩ := hf i hi
      obtain ⟨_, hl2, hc2⟩ := World.cells?_some h3
      have hg := hc2 r hr
      rw [← h4'] at hg
      obtain ⟨u', hu'⟩ : ∃ u', (c (f i))[r]? = some u' := ⟨_, List.getElem?_eq_getElem (by rw [hcn]; exact hr)⟩
      rw [flat_at hcn _ i _ r u' hxi hu'] at hu
      rw [hu', add_add, Addr.add_lit] at hg
      rw [hg, hu]
    · intro y hy
      obtain ⟨i, hi, rfl⟩ := List.mem_map.1 hy
      exact (hf i (List.mem_range.1 hi)).2
theorem RdE.of_cells {α : Type} {f : α → Value} {w : World} {v : Value} {xs : List α} (h : RdC (fun y => [f y]) w v xs) : RdE f w v xs := by
  obtain ⟨ao, cap, rfl, h1, h2, h3⟩ := h
  refine ⟨ao, cap, rfl, h1, h2, fun hp => ?_⟩
  obtain ⟨b, off, rfl, hb, hc⟩ := h3 hp
  refine ⟨b, off, rfl, hb, fun i x hi => hc i (f x) ?_⟩
  rw [← List.map_eq_flatMap, List.getElem?_map, hi]; rfl
end

section
variable {H : Type} {en : TypeId × Value → H} {P : Program} {W : World} {fuel : Nat} {t e : TypeId} {v : Value} {x : DataW H × List MemPlace}
/-- A slice of strings. -/
theorem arg_texts (ht : P.underlying t = some (.slice e)) (he : P.underlying e = some .string) (ce : P.cellsOf e = 1) (h4 : 4 ≤ P.bytesOf e)
    (h : DataW.trod en P W 0 (fun _ => true) true fuel t [v] = some x) (hz : SizedD P t x.1) : ∃ xs : List ByteArray, RdE encT W v xs := by
  obtain ⟨xs, hx, _⟩ := argC_list (fun s : ByteArray => [encT s]) 1 (fun _ => rfl) (fun _ => True) ht ce (by decide) h4 (fun k cs d ps _ hd _ => by
    obtain ⟨s, hs, _⟩ := DataW.trod_string he hd
    exact ⟨s, hs.symm, trivial⟩) h hz
  exact ⟨xs, RdE.of_cells hx⟩
/-- A slice of values. -/
theorem arg_values {f0 f1 f2 : Field} (ht : P.underlying t = some (.slice e)) (he : P.underlying e = some (.struct #[f0, f1, f2])) (ce : P.cellsOf e = 3) (h4 : 4 ≤ P.bytesOf e) (o0 : f0.offset = 0) (o1 : f1.offset = 1) (o2 : f2.offset = 2)
    (c0 : P.cellsOf f0.type = 1) (c1 : P.cellsOf f1.type = 1) (c2 : P.cellsOf f2.type = 1) (u0 : P.underlying f0.type = some (.int .i64)) (u1 : P.underlying f1.type = some (.int .i64)) (u2 : P.underlying f2.type = some .string)
    (h : DataW.trod en P W 0 (fun _ => true) true fuel t [v] = some x) (hz : SizedD P t x.1) : ∃ xs : List V3, RdV W v xs ∧ ∀ y ∈ xs, -9223372036854775808 ≤ y.2.1 ∧ y.2.1 < 9223372036854775808 := by
  obtain ⟨xs, hx, hn⟩ := argC_list cV 3 cV_length (fun y => -9223372036854775808 ≤ y.2.1 ∧ y.2.1 < 9223372036854775808) ht ce (by decide) h4 (fun k cs d ps hl hd _ => by
    obtain ⟨y0, y1, y2, m, _, _, h0, h1, h2⟩ := trod_struct3 he hd
    rw [o0, c0] at h0; rw [o1, c1] at h1; rw [o2, c2] at h2
    match cs, hl with
    | [a0, a1, a2], _ =>
      obtain ⟨n0, e0, _⟩ := DataW.trod_int u0 h0
      obtain ⟨n1, e1, _, w1⟩ := DataW.trod_int u1 h1
      obtain ⟨s, e2, _⟩ := DataW.trod_string u2 h2
      simp at e0 e1 e2
      have hb := i64_of w1
      exact ⟨(n0, n1, s), by rw [e0, e1, e2]; rfl, hb.1, by show n1 < _; omega⟩) h hz
  exact ⟨xs, hx, hn⟩
/-- A slice of rows. -/
theorem arg_rows {g0 g1 f0 f1 f2 : Field} {e' : TypeId} (ht : P.underlying t = some (.slice e)) (he : P.underlying e = some (.struct #[g0, g1])) (ce : P.cellsOf e = 2) (h4 : 4 ≤ P.bytesOf e) (p0 : g0.offset = 0) (p1 : g1.offset = 1)
    (k0 : P.cellsOf g0.type = 1) (k1 : P.cellsOf g1.type = 1) (w0 : P.underlying g0.type = some (.int .i64))
    (ht' : P.underlying g1.type = some (.slice e')) (he' : P.underlying e' = some (.struct #[f0, f1, f2])) (ce' : P.cellsOf e' = 3) (h4' : 4 ≤ P.bytesOf e') (o0 : f0.offset = 0) (o1 : f1.offset = 1) (o2 : f2.offset = 2)
    (c0 : P.cellsOf f0.type = 1) (c1 : P.cellsOf f1.type = 1) (c2 : P.cellsOf f2.type = 1) (u0 : P.underlying f0.type = some (.int .i64)) (u1 : P.underlying f1.type = some (.int .i64)) (u2 : P.underlying f2.type = some .string)
    (h : DataW.trod en P W 0 (fun _ => true) true fuel t [v] = some x) (hz : SizedD P t x.1) : ∃ rs : List Row3, RdR W v rs ∧ ∀ r ∈ rs, ∀ y ∈ r.2.2, -9223372036854775808 ≤ y.2.1 ∧ y.2.1 < 9223372036854775808 := by
  obtain ⟨xs, hx, hR⟩ := argC_list cR 2 cR_length (fun r => RdV W r.2.1 r.2.2 ∧ ∀ y ∈ r.2.2, -9223372036854775808 ≤ y.2.1 ∧ y.2.1 < 9223372036854775808) ht ce (by decide) h4 (fun k cs d ps hl hd hs => by
    obtain ⟨y0, y1, m, hxy, _, h0, h1⟩ := trod_struct2 he hd
    rw [p0, k0] at h0; rw [p1, k1] at h1
    match cs, hl with
    | [a0, a1], _ =>
      obtain ⟨n0, e0, _⟩ := DataW.trod_int w0 h0
      simp at e0
      simp only [Prod.mk.injEq] at hxy
      obtain ⟨rfl, _⟩ := hxy
      obtain ⟨vs, hvs⟩ := arg_values ht' he' ce' h4' o0 o1 o2 c0 c1 c2 u0 u1 u2 (v := a1) (by simpa using h1) (hs.field he (j := 1) rfl rfl)
      exact ⟨(n0, a1, vs), by rw [e0]; rfl, hvs⟩) h hz
  exact ⟨xs, ⟨hx, fun r hr => (hR r hr).1⟩, fun r hr => (hR r hr).2⟩
end

end Go.Proofs.YtcfcmalaabmceaaGreatDoor
