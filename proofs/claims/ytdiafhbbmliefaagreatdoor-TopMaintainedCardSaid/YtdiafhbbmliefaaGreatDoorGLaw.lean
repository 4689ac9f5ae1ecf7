/- Texts that belong together, in one file. -/
import Derived.Test.YtdiafhbbmliefaaGreatDoorOpen
import Derived.Test.YtdiafhbbmliefaaGreatDoorGTabA
import Derived.SizedLaws
import Derived.Test.YtdiafhbbmliefaaGreatDoorArgs
import Derived.Test.YtdiafhbbmliefaaGreatDoorGTab14
import Derived.Test.YtdiafhbbmliefaaGreatDoorGTab30
import Derived.Test.YtdiafhbbmliefaaGreatDoorGMtJ
import Derived.Test.YtdiafhbbmliefaaGreatDoorGTopA
import Derived.Test.YtdiafhbbmliefaaGreatDoorGTab20
import Derived.Test.YtdiafhbbmliefaaGreatDoorGFdmB
import Derived.Test.YtdiafhbbmliefaaGreatDoorGKm2
import Derived.Lib.SmallJoins
/- Slices of structs as arguments, to any depth: opened to the words that the laws are stated in. No program. -/
namespace Go.Proofs.YtdiafhbbmliefaaGreatDoor
open Go.ChangeShapes Go.WideShapes Go.ChangeAt Go.RowKit Go.Deep Go.Joins

section
variable {H : Type} {en : TypeId × Value → H} {P : Program} {W : World} {fuel : Nat} {t e : TypeId} {v : Value} {x : DataW H × List MemPlace}

/-- All sizes in a datum are within the reach. -/
def SizedD (P : Program) (t : TypeId) (d : DataW H) : Prop := ∀ n ∈ d.weights P t, n ≤ reachBytes
theorem mem_weightsAll {l : List (DataW H)} {d : DataW H} (h : d ∈ l) {n : Nat} (hn : n ∈ d.weights P e) : n ∈ DataW.weightsAll P e l := by
  induction l with
  | nil => cases h
  | cons y r ih =>
    simp only [DataW.weightsAll, List.mem_append]
    rcases List.mem_cons.1 h with rfl | h
    · exact .inl hn
    · exact .inr (ih h)
theorem SizedD.elem (ht : P.underlying t = some (.slice e)) {es sp : List (DataW H)} (h : SizedD P t (.slice es sp)) {d : DataW H} (hd : d ∈ es) : SizedD P e d := fun n hn => by
  refine h n ?_
  simp only [DataW.weights, ht, List.mem_cons, List.mem_append]
  exact .inr (.inl (mem_weightsAll hd hn))
theorem SizedD.length (ht : P.underlying t = some (.slice e)) {es sp : List (DataW H)} (h : SizedD P t (.slice es sp)) : es.length * P.bytesOf e ≤ reachBytes := by
  refine Nat.le_trans (Nat.mul_le_mul_right _ (Nat.le_add_right _ sp.length)) (h _ ?_)
  simp only [DataW.weights, ht, List.mem_cons, true_or]
theorem SizedD.field {fs : Array Field} (ht : P.underlying t = some (.struct fs)) {ds : List (DataW H)} (h : SizedD P t (.agg ds)) {j : Nat} {tj : TypeId} {d : DataW H} (hj : (fs.toList.map (·.type))[j]? = some tj) (hd : ds[j]? = some d) : SizedD P tj d := fun n hn => by
  refine h n ?_
  simp only [DataW.weights, ht]
  exact DataW.weights_mem_each hj hd n hn
theorem SizedD.arg {ts : List TypeId} {ds : List (DataW H)} (h : (DataW.weightsEach P ts ds).all (· ≤ reachBytes) = true) {j : Nat} {d : DataW H} (hj : ts[j]? = some t) (hd : ds[j]? = some d) : SizedD P t d := fun n hn =>
  of_decide_eq_true (List.all_eq_true.1 h n (DataW.weights_mem_each hj hd n hn))
theorem reach_4 {n b : Nat} (h : n * b ≤ reachBytes) (hb : 4 ≤ b) : n ≤ 35184372088832 := by
  have h1 := Nat.mul_le_mul_left n hb
  have h2 := reachBytes_lt
  omega

/-- A slice whose elements take several cells, each read by itself. -/
theorem argC_list {α : Type} [Inhabited α] (c : α → List Value) (n : Nat) (hcn : ∀ y, (c y).length = n) (R : α → Prop) (ht : P.underlying t = some (.slice e)) (ce : P.cellsOf e = n) (hn : 0 < n) (h4 : 4 ≤ P.bytesOf e)
    (hel : ∀ (k : Nat) (cs : List Value) (d : DataW H) (ps : List MemPlace), cs.length = n → DataW.trod en P W 0 (fun _ => true) true k e cs = some (d, ps) → SizedD P e d → ∃ y : α, c y = cs ∧ R y)
    (h : DataW.trod en P W 0 (fun _ => true) true fuel t [v] = some x) (hz : SizedD P t x.1) : ∃ xs : List α, RdC c W v xs ∧ ∀ y ∈ xs, R y := by
  rcases open_slice ht h with ⟨hcs, _⟩ | ⟨a, len, cap, m, k, D, Pl, hcs, _, hl, hm, hmm, rfl, hx⟩
  · simp at hcs; subst hcs
    exact ⟨[], RdC.nil _ _, fun _ h => absurd h (by simp)⟩
  · simp at hcs; subst hcs
    simp at hmm; obtain rfl : cap = m := hmm.symm
    have hL : len * P.bytesOf e ≤ reachBytes := by have := SizedD.length ht hz; simpa using this
    have hL4 := reach_4 hL h4
    have each : ∀ i, i < len → ∃ y : α, (∃ cs', W.cells? 0 (a.add (i * n)) n = some cs' ∧ c y = cs') ∧ R y := by
      intro i hi
      obtain ⟨cs', h1, h2⟩ := hx i (by omega)
      rw [ce] at h1
      obtain ⟨_, hl', _⟩ := World.cells?_some h1
      obtain ⟨y, hy, hR⟩ := hel k cs' (D i) (Pl i) hl' h2 (hz.elem ht (List.mem_map.2 ⟨i, List.mem_range.2 hi, rfl⟩))
      exact ⟨y, ⟨cs', h1, hy⟩, hR⟩
    obtain ⟨f, hf⟩ := choose_lt each
    obtain ⟨b, off, spot⟩ := a
    refine ⟨(List.range len).map f, ⟨some ⟨b, off, spot⟩, cap, by simp, by simp; omega, by simp; omega, fun hp => ?_⟩, ?_⟩
    · have hp0 : 0 < len := by simpa using hp
      obtain ⟨⟨cs', h1, h2⟩, _⟩ := hf 0 hp0
      obtain ⟨_, hl', hc0⟩ := World.cells?_some h1
      have hcell0 := hc0 0 hn
      obtain ⟨u0, hu0⟩ : ∃ u, cs'[0]? = some u := ⟨cs'[0]'(by omega), List.getElem?_eq_getElem _⟩
      rw [hu0] at hcell0
      have hspot : spot = none := by simpa [Addr.add] using World.cell?_spot hcell0
      subst hspot
      refine ⟨b, off, rfl, by have := World.block_lt_of_cell? W _ hcell0; simpa [Addr.add] using this, fun j u hu => ?_⟩
      have hj : j < len * n := by
        have := (List.getElem?_eq_some_iff.1 hu).1
        rw [flat_length hcn] at this; simpa using this
      obtain ⟨i, r, hi, hr, rfl⟩ : ∃ i r, i < len ∧ r < n ∧ j = i * n + r := ⟨j / n, j % n, (Nat.div_lt_iff_lt_mul hn).2 hj, Nat.mod_lt _ hn, by rw [Nat.mul_comm, Nat.div_add_mod]⟩
      have hxi : ((List.range len).map f)[i]? = some (f i) := by rw [List.getElem?_map, List.getElem?_range hi]; rfl
      obtain ⟨⟨cs2, h3, h4'⟩, _⟩ := hf i hi
      obtain ⟨_, hl2, hc2⟩ := World.cells?_some h3
      have hg := hc2 r hr
      rw [← h4'] at hg
      obtain ⟨u', hu'⟩ : ∃ u', (c (f i))[r]? = some u' := ⟨_, List.getElem?_eq_getElem (by rw [hcn]; exact hr)⟩
      rw [flat_at hcn _ i _ r u' hxi hu'] at hu
      rw [hu', add_add, Addr.add_lit] at hg
      rw [hg, hu]
    · intro y hy
      obtain ⟨i, hi, rfl⟩ := List.mem_map.1 hy
      exact (hf i (List.mem_range.1 hi)).2
theorem RdE.of_cells {α : Type} {f : α → Value} {w : World} {v : Value} {xs : List α} (h : RdC (fun y => [f y]) w v xs) : RdE f w v xs := by
  obtain ⟨ao, cap, rfl, h1, h2, h3⟩ := h
  refine ⟨ao, cap, rfl, h1, h2, fun hp => ?_⟩
  obtain ⟨b, off, rfl, hb, hc⟩ := h3 hp
  refine ⟨b, off, rfl, hb, fun i x hi => hc i (f x) ?_⟩
  rw [← List.map_eq_flatMap, List.getElem?_map, hi]; rfl
end

section
variable {H : Type} {en : TypeId × Value → H} {P : Program} {W : World} {fuel : Nat} {t e : TypeId} {v : Value} {x : DataW H × List MemPlace}
/-- A slice of strings. -/
theorem arg_texts (ht : P.underlying t = some (.slice e)) (he : P.underlying e = some .string) (ce : P.cellsOf e = 1) (h4 : 4 ≤ P.bytesOf e)
    (h : DataW.trod en P W 0 (fun _ => true) true fuel t [v] = some x) (hz : SizedD P t x.1) : ∃ xs : List ByteArray, RdE encT W v xs := by
  obtain ⟨xs, hx, _⟩ := argC_list (fun s : ByteArray => [encT s]) 1 (fun _ => rfl) (fun _ => True) ht ce (by decide) h4 (fun k cs d ps _ hd _ => by
    obtain ⟨s, hs, _⟩ := DataW.trod_string he hd
    exact ⟨s, hs.symm, trivial⟩) h hz
  exact ⟨xs, RdE.of_cells hx⟩
/-- A slice of values. -/
theorem arg_values {f0 f1 f2 : Field} (ht : P.underlying t = some (.slice e)) (he : P.underlying e = some (.struct #[f0, f1, f2])) (ce : P.cellsOf e = 3) (h4 : 4 ≤ P.bytesOf e) (o0 : f0.offset = 0) (o1 : f1.offset = 1) (o2 : f2.offset = 2)
    (c0 : P.cellsOf f0.type = 1) (c1 : P.cellsOf f1.type = 1) (c2 : P.cellsOf f2.type = 1) (u0 : P.underlying f0.type = some (.int .i64)) (u1 : P.underlying f1.type = some (.int .i64)) (u2 : P.underlying f2.type = some .string)
    (h : DataW.trod en P W 0 (fun _ => true) true fuel t [v] = some x) (hz : SizedD P t x.1) : ∃ xs : List V3, RdV W v xs ∧ ∀ y ∈ xs, -9223372036854775808 ≤ y.2.1 ∧ y.2.1 < 9223372036854775808 := by
  obtain ⟨xs, hx, hn⟩ := argC_list cV 3 cV_length (fun y => -9223372036854775808 ≤ y.2.1 ∧ y.2.1 < 9223372036854775808) ht ce (by decide) h4 (fun k cs d ps hl hd _ => by
    obtain ⟨y0, y1, y2, m, _, _, h0, h1, h2⟩ := trod_struct3 he hd
    rw [o0, c0] at h0; rw [o1, c1] at h1; rw [o2, c2] at h2
    match cs, hl with
    | [a0, a1, a2], _ =>
      obtain ⟨n0, e0, _⟩ := DataW.trod_int u0 h0
      obtain ⟨n1, e1, _, w1⟩ := DataW.trod_int u1 h1
      obtain ⟨s, e2, _⟩ := DataW.trod_string u2 h2
      simp at e0 e1 e2
      have hb := i64_of w1
      exact ⟨(n0, n1, s), by rw [e0, e1, e2]; rfl, hb.1, by show n1 < _; omega⟩) h hz
  exact ⟨xs, hx, hn⟩
/-- A slice of rows. -/
theorem arg_rows {g0 g1 f0 f1 f2 : Field} {e' : TypeId} (ht : P.underlying t = some (.slice e)) (he : P.underlying e = some (.struct #[g0, g1])) (ce : P.cellsOf e = 2) (h4 : 4 ≤ P.bytesOf e) (p0 : g0.offset = 0) (p1 : g1.offset = 1)
    (k0 : P.cellsOf g0.type = 1) (k1 : P.cellsOf g1.type = 1) (w0 : P.underlying g0.type = some (.int .i64))
    (ht' : P.underlying g1.type = some (.slice e')) (he' : P.underlying e' = some (.struct #[f0, f1, f2])) (ce' : P.cellsOf e' = 3) (h4' : 4 ≤ P.bytesOf e') (o0 : f0.offset = 0) (o1 : f1.offset = 1) (o2 : f2.offset = 2)
    (c0 : P.cellsOf f0.type = 1) (c1 : P.cellsOf f1.type = 1) (c2 : P.cellsOf f2.type = 1) (u0 : P.underlying f0.type = some (.int .i64)) (u1 : P.underlying f1.type = some (.int .i64)) (u2 : P.underlying f2.type = some .string)
    (h : DataW.trod en P W 0 (fun _ => true) true fuel t [v] = some x) (hz : SizedD P t x.1) : ∃ rs : List Row3, RdR W v rs ∧ ∀ r ∈ rs, ∀ y ∈ r.2.2, -9223372036854775808 ≤ y.2.1 ∧ y.2.1 < 9223372036854775808 := by
  obtain ⟨xs, hx, hR⟩ := argC_list cR 2 cR_length (fun r => RdV W r.2.1 r.2.2 ∧ ∀ y ∈ r.2.2, -9223372036854775808 ≤ y.2.1 ∧ y.2.1 < 9223372036854775808) ht ce (by decide) h4 (fun k cs d ps hl hd hs => by
    obtain ⟨y0, y1, m, hxy, _, h0, h1⟩ := trod_struct2 he hd
    rw [p0, k0] at h0; rw [p1, k1] at h1
    match cs, hl with
    | [a0, a1], _ =>
      obtain ⟨n0, e0, _⟩ := DataW.trod_int w0 h0
      simp at e0
      simp only [Prod.mk.injEq] at hxy
      obtain ⟨rfl, _⟩ := hxy
      obtain ⟨vs, hvs⟩ := arg_values ht' he' ce' h4' o0 o1 o2 c0 c1 c2 u0 u1 u2 (v := a1) (by simpa using h1) (hs.field he (j := 1) rfl rfl)
      exact ⟨(n0, a1, vs), by rw [e0]; rfl, hvs⟩) h hz
  exact ⟨xs, ⟨hx, fun r hr => (hR r hr).1⟩, fun r hr => (hR r hr).2⟩
end

end Go.Proofs.YtdiafhbbmliefaaGreatDoor


/- Tables as arguments, opened to the words that the laws are stated in. -/
namespace Go.Proofs.YtdiafhbbmliefaaGreatDoor
open Go.ChangeShapes Go.WideShapes Go.ChangeAt Go.RowKit Go.Deep Go.Joins

set_option maxRecDepth 100000
section
variable {H : Type} {en : TypeId × Value → H} {W : World} {b : Nat} {v : Value} {d : DataW H} {p : List MemPlace}
theorem arg_table (hv : Value.okWide Tryz.prog W .any b 48 v) (h : DataW.Trod en Tryz.prog W 0 (fun _ => true) true 48 v d p) (hz : SizedD Tryz.prog 48 d) : ∃ (t : T3) (av rv : Value), v = .agg #[.string t.1, av, rv] ∧ RdT W av rv t ∧ ∀ r ∈ t.2.2, ∀ y ∈ r.2.2, -9223372036854775808 ≤ y.2.1 ∧ y.2.1 < 9223372036854775808 := by
  obtain ⟨v0, v1, v2, y0, y1, y2, n, rfl, rfl, _, h0, h1, h2⟩ := open_agg3 Tryz.underlying48 (by kernel_rfl) (by kernel_rfl) hv h
  obtain ⟨s, e0, _⟩ := DataW.trod_string Tryz.underlying9 h0
  simp at e0
  obtain ⟨ats, ha⟩ := arg_texts Tryz.underlying28 Tryz.underlying9 (by kernel_rfl) (of_decide_eq_true (by kernel_rfl)) h1 (hz.field Tryz.underlying48 (j := 1) rfl rfl)
  obtain ⟨rs, hr, hn⟩ := arg_rows Tryz.underlying46 Tryz.underlying44 (by kernel_rfl) (of_decide_eq_true (by kernel_rfl)) rfl rfl (by kernel_rfl) (by kernel_rfl) Tryz.underlying2
    Tryz.underlying42 Tryz.underlying37 (by kernel_rfl) (of_decide_eq_true (by kernel_rfl)) rfl rfl rfl (by kernel_rfl) (by kernel_rfl) (by kernel_rfl) Tryz.underlying3 Tryz.underlying2 Tryz.underlying9 h2 (hz.field Tryz.underlying48 (j := 2) rfl rfl)
  exact ⟨(s, ats, rs), v1, v2, by rw [e0], ⟨ha, hr⟩, hn⟩
theorem arg_counted (hv : Value.okWide Tryz.prog W .any b 56 v) (h : DataW.Trod en Tryz.prog W 0 (fun _ => true) true 56 v d p) (hz : SizedD Tryz.prog 56 d) : ∃ l : List C2, RdCt W v l := by
  obtain ⟨a, l, c, rfl⟩ := okWide_slice Tryz.underlying56 hv
  obtain ⟨fuel, hf⟩ := h
  obtain ⟨xs, hx, _⟩ := argC_list cC 2 cC_length (fun _ => True) Tryz.underlying56 (by kernel_rfl) (by decide) (of_decide_eq_true (by kernel_rfl)) (fun k cs d ps hl hd _ => by
    obtain ⟨y0, y1, m, hxy, _, h0, h1⟩ := trod_struct2 Tryz.underlying95 hd
    match cs, hl with
    | [a0, a1], _ =>
      obtain ⟨n0, e0, _, w0⟩ := DataW.trod_int Tryz.underlying67 h0
      obtain ⟨n1, e1, _⟩ := DataW.trod_int Tryz.underlying2 h1
      obtain ⟨s, hs⟩ := u32_of w0
      have c0 : Tryz.prog.cellsOf 67 = 1 := by kernel_rfl
      have c1 : Tryz.prog.cellsOf 2 = 1 := by kernel_rfl
      simp [c0, c1] at e0 e1
      exact ⟨(s, n1), by rw [e0, e1, ← hs]; rfl, trivial⟩) hf hz
  exact ⟨xs, hx⟩
end

end Go.Proofs.YtdiafhbbmliefaaGreatDoor


/- Recipes as arguments, opened to the words that the laws are stated in. -/
namespace Go.Proofs.YtdiafhbbmliefaaGreatDoor
open Go.ChangeShapes Go.WideShapes Go.ChangeAt Go.RowKit Go.Deep Go.Joins

theorem enc8_ofInt {n : Int} (hw : (Lit.int .u8 n).wf = true) : enc8 (BitVec.ofInt 8 n) = .int .u8 n := by
  simp [Lit.wf, IntKind.min, IntKind.max, IntKind.signed, IntKind.bits] at hw
  unfold enc8
  have : ((BitVec.ofInt 8 n).toNat : Int) = n := by simp [BitVec.toNat_ofInt]; omega
  rw [this]
section
variable {H : Type} {en : TypeId × Value → H} {P : Program} {W : World} {fuel : Nat} {t e : TypeId} {v : Value} {x : DataW H × List MemPlace}
theorem arg_u8row (ht : P.underlying t = some (.slice e)) (he : P.underlying e = some (.int .u8)) (hc : P.cellsOf e = 1) (hb : 1 ≤ P.bytesOf e)
    (h : DataW.trod en P W 0 (fun _ => true) true fuel t [v] = some x) (hz : SizedD P t x.1) : ∃ y : RcR, cRc y = [v] ∧ RdU W y := by
  rcases open_ints ht he hc h with ⟨hcs, _⟩ | ⟨a, len, cap, zs, hcs, _, hl, hm, hzl, _, hcell, hwz⟩
  · simp at hcs; subst hcs
    exact ⟨(.slice none 0 0, 0, fun _ => 0#8), rfl, none, 0, rfl, by simp, fun i hi => absurd hi (by simp)⟩
  · simp at hcs; subst hcs
    have hlen : len ≤ 140737488355328 := by
      have h1 := slice_len ht h
      have h2 := reachBytes_lt
      rcases h1 with ⟨_, h0⟩ | ⟨es, sp, e1, e2⟩
      · omega
      · rw [e1] at hz
        have h3 := SizedD.length ht hz
        have h4 := Nat.mul_le_mul_left es.length hb
        omega
    simp at hzl
    obtain ⟨b, off, spot⟩ := a
    refine ⟨(.slice (some ⟨b, off, spot⟩) len cap, len, fun i => BitVec.ofInt 8 (zs.getD i 0)), rfl, some ⟨b, off, spot⟩, cap, rfl, hlen, fun i hi => ?_⟩
    replace hi : i < len := hi
    have hi2 : i < zs.length := by omega
    have hci := hcell i hi2
    have hspot : spot = none := by simpa [Addr.add] using World.cell?_spot (hcell 0 (by omega))
    subst hspot
    rw [Addr.add_lit] at hci
    refine ⟨b, off, rfl, by have := World.block_lt_of_cell? W _ hci; simpa using this, ?_⟩
    show W.cell? ⟨b, off + i, none⟩ = some (enc8 (BitVec.ofInt 8 (zs.getD i 0)))
    rw [enc8_ofInt (hwz _ (by rw [List.getD_eq_getElem?_getD, List.getElem?_eq_getElem hi2]; exact List.getElem_mem hi2))]
    exact hci
end

set_option maxRecDepth 100000
section
variable {H : Type} {en : TypeId × Value → H} {W : World} {b : Nat} {v : Value} {d : DataW H} {p : List MemPlace}
end

end Go.Proofs.YtdiafhbbmliefaaGreatDoor


/- The law TopMaintained. -/
namespace Go.Proofs.YtdiafhbbmliefaaGreatDoor
open Go.RowKit
set_option linter.unusedVariables false

/-- The operations of an argument. -/
def RdOps (w : World) (v : Value) (ops : List OpR) : Prop := RdC cOp w v ops ∧ ∀ o ∈ ops, RdU w o.2.2.2
theorem RdOps.below {w w' : World} {v : Value} {ops : List OpR} (h : RdOps w v ops) (hb : Below w.heap.size w w') : RdOps w' v ops := ⟨RdC.below h.1 hb, fun o ho => (h.2 o ho).below hb⟩
theorem RdOps.split {w : World} {v : Value} {ops : List OpR} (h : RdOps w v ops) : ∃ ao cap, v = .slice ao ops.length cap ∧ ops.length ≤ 35184372088832 ∧
    ∀ (k : Nat) (o : OpR), ops[k]? = some o → ∀ wr, Below w.heap.size w wr → (∃ b off, ao = some ⟨b, off, none⟩ ∧ b < w.heap.size ∧ wr.cell? ⟨b, off + k * 4, none⟩ = some (enc8 o.1) ∧ wr.cell? ⟨b, off + k * 4 + 1, none⟩ = some (enc8 o.2.1) ∧ wr.cell? ⟨b, off + k * 4 + 2, none⟩ = some (enc8 o.2.2.1) ∧ wr.cell? ⟨b, off + k * 4 + 3, none⟩ = some o.2.2.2.1) ∧ RdU wr o.2.2.2 := by
  obtain ⟨⟨ao, cap, rfl, -, h2, h3⟩, h4⟩ := h
  refine ⟨ao, cap, rfl, h2, fun k o ho wr hb => ⟨?_, (h4 o (List.mem_of_getElem? ho)).below hb⟩⟩
  obtain ⟨b, off, rfl, hlt, hc⟩ := h3 (by have := (List.getElem?_eq_some_iff.1 ho).1; omega)
  refine ⟨b, off, rfl, hlt, ?_, ?_, ?_, ?_⟩
  · exact (hb.cell (p := ⟨b, off + k * 4, none⟩) hlt).trans (by have := hc _ _ (flat_at cOp_length ops k o 0 _ ho rfl); simpa using this)
  · exact (hb.cell (p := ⟨b, off + k * 4 + 1, none⟩) hlt).trans (by have := hc _ _ (flat_at cOp_length ops k o 1 _ ho rfl); simpa [Nat.add_assoc] using this)
  · exact (hb.cell (p := ⟨b, off + k * 4 + 2, none⟩) hlt).trans (by have := hc _ _ (flat_at cOp_length ops k o 2 _ ho rfl); simpa [Nat.add_assoc] using this)
  · exact (hb.cell (p := ⟨b, off + k * 4 + 3, none⟩) hlt).trans (by have := hc _ _ (flat_at cOp_length ops k o 3 _ ho rfl); simpa [Nat.add_assoc] using this)
theorem tabE_names {k : Nat} (hk : k < 6) : tabE (ByteArray.mk #[114], nameN k, []) = 0 := by
  have : ∀ k : Fin 6, tabE (ByteArray.mk #[114], nameN k.val, []) = 0 := by decide +kernel
  exact this ⟨k, hk⟩

theorem unq_perm {a b l : List S} (h : a.Perm b) : unqL a l = unqL b l := by
  have e : unqStep a = unqStep b := by
    funext out s
    unfold unqStep
    have : (a.any fun x => s &&& ~~~ x == 0#32) = b.any fun x => s &&& ~~~ x == 0#32 := by
      rw [Bool.eq_iff_iff, List.any_eq_true, List.any_eq_true]
      constructor
      · rintro ⟨x, hx, h1⟩; exact ⟨x, h.mem_iff.1 hx, h1⟩
      · rintro ⟨x, hx, h1⟩; exact ⟨x, h.mem_iff.2 hx, h1⟩
    rw [this]
  unfold unqL
  rw [e]
theorem cnt_perm {a b : List S} (h : a.Perm b) : cntL a = cntL b := by
  unfold cntL
  rw [ordS_congr (fun s => h.mem_iff)]
  exact List.map_congr_left fun s _ => by rw [h.count_eq]
theorem top_facts {nm : ByteArray} {ats : List ByteArray} {rs : List Row3} (hE : tabE (nm, ats, rs) = 0) (hN : NumR rs) (hk : ats.length ≤ 6) (hl : rs.length ≤ 16) : fE (nm, ats, rs) = 0 ∧ kE (nm, ats, rs) 0#32 true = 0 ∧ tabE2 (nm, ats, rs) = 0 ∧ okT (nm, ats, rs) := by
  refine ⟨?_, ?_, ?_, ?_⟩
  · unfold fE
    rw [if_neg (by rw [hE]; simp), if_neg (by show ¬ (10 < ats.length ∨ 200 < rs.length); omega)]
  · unfold kE
    rw [if_neg (by rw [hE]; simp), if_neg (by show ¬ (200 < rs.length ∨ (true = true ∧ 12 < ats.length)); rintro (h | ⟨_, h⟩) <;> omega), if_neg (by simp)]
  · unfold tabE2
    rw [if_neg (by rw [hE]; simp), if_neg (by show ¬ 200 < rs.length; omega)]
  · intro r hr x hx
    obtain ⟨-, -, -, -, hrow⟩ := tabE_iff.1 hE
    have h1 := ((rowsE_iff.1 hrow).2 r hr).2
    have h2 := hN r hr x hx
    rw [List.any_eq_false] at h1
    have h3 := h1 x hx
    unfold badV at h3
    exact ⟨by simpa using h3, h2.1, h2.2⟩
theorem St.lt {b mb N : Nat} {nm : ByteArray} {ats : List ByteArray} {w : World} (h : St b mb N nm ats w) : b < w.heap.size ∧ mb < w.heap.size := by
  obtain ⟨av, rv, fv, dv, ev, rs, ps, xs, n, hS, hne, hT, hF, hE, hN, hl, hO, -⟩ := h
  exact ⟨hS.lt, hO.lt⟩
theorem code_numM (c : Nat) : -9223372036854775808 ≤ (codeV c).2.1 ∧ (codeV c).2.1 < 9223372036854775808 := by
  unfold codeV
  split <;> exact ⟨by decide, by decide⟩
theorem rowV_num (r : RcR) (n : Nat) : ∀ x ∈ rowV r n, -9223372036854775808 ≤ x.2.1 ∧ x.2.1 < 9223372036854775808 := by
  intro x hx
  unfold rowV at hx
  rcases List.mem_append.1 hx with h | h
  · unfold valsR at h
    obtain ⟨k, -, rfl⟩ := List.mem_map.1 h
    exact code_numM _
  · split at h
    · rw [List.mem_singleton] at h; subst h; exact ⟨by decide, by decide⟩
    · cases h
theorem rowV_len (r : RcR) (n : Nat) : (rowV r n).length ≤ n + 1 := by
  unfold rowV
  rw [List.length_append, valsR_length]
  split <;> simp
theorem cellV_num (r : RcR) : -9223372036854775808 ≤ (cellV r).2.1 ∧ (cellV r).2.1 < 9223372036854775808 := by
  unfold cellV
  split
  · exact code_numM _
  · exact ⟨by decide, by decide⟩

set_option maxHeartbeats 12800000 in
set_option maxRecDepth 100000 in
theorem topMaint (n : U8) (ops : List OpR) (v : Value) (w : World) (hT : Tab w) (ho : RdOps w v ops) :
    Calls Tryz.prog 3 #[.int .u8 (n.toNat : Int), v] w fun e w' => e = .returned (.bool true) ∧ Below w.heap.size w w' := by
  have n0 : (0 : Int) ≤ (n.toNat : Int) := by omega
  obtain ⟨k, hK⟩ : ∃ k, n.toNat % 6 = k := ⟨_, rfl⟩
  have k6 : k < 6 := by omega
  have r1 : ((n.toNat : Nat) : Int).tmod 6 = (k : Int) := by rw [← hK]; exact Int.ofNat_tmod n.toNat 6
  have r2 : IntKind.i64.wrap (k : Int) = k := by rw [IntKind.wrap_i64]; omega
  clear hK
  have HK6 := hid k6
  obtain ⟨oo, ocap, rfl, hol, hoc⟩ := ho.split
  have HO := hid ho
  have OC := hid hoc
  have HT := hid hT
  have AW := hid (fun (W : World) (h : Below w.heap.size w W) => awake34_any W (hT.below h))
  clear hT ho hoc
  go_enter Tryz.func3, Tryz.ntmps3
  go_wp2_with fail
  refine (AW.out w (Below.refl _ _)).mono ?_
  rintro e w1 ⟨rfl, hb1⟩
  have B1 := hid hb1
  clear hb1
  by_cases h16 : 16 < ops.length
  · have h16I : (16 : Int) < (ops.length : Int) := by omega
    go_wp2_with fail
    refine (AW.out w1 B1.out).mono ?_
    rintro e w2 ⟨rfl, hb2⟩
    have B2 := hid (B1.out.trans (hb2.mono B1.out.size))
    clear hb2
    go_wp2_with fail
    go_ret
    exact ⟨rfl, B2.out⟩
  · have h16I : ¬ (16 : Int) < (ops.length : Int) := by omega
    have NA := hid (fun (W : World) => mnames_any k W (by have := HK6.out; omega))
    go_wp2_with fail
    refine (NA.out w1).mono ?_
    rintro e w2 ⟨nv, rfl, hrn, hb2⟩
    have B2 := hid (B1.out.trans (hb2.mono B1.out.size))
    have HNL := hid (nameN_length (show k ≤ 8 by have := HK6.out; omega))
    obtain ⟨ats, hats⟩ : ∃ ats, nameN k = ats := ⟨_, rfl⟩
    have HTE := hid (tabE_names HK6.out)
    rw [hats] at hrn HNL HTE
    have NW := hid (mnew_any (ByteArray.mk #[114]) ats nv w2 hrn (by rw [HNL.out]; have := HK6.out; omega) HTE.out)
    obtain ⟨no, ncap, rfl, -⟩ := hrn.split
    clear hrn hb2 hats
    go_wp2_with fail
    refine NW.out.mono ?_
    rintro e w3 ⟨b, mb, rfl, hst, hb, hmb, hb3⟩
    have ST := hid hst
    have HB := hid hb
    have HMB := hid hmb
    have B3 := hid (B2.out.trans (hb3.mono B2.out.size))
    have B23 := hid hb3
    have LO := hid (show w.heap.size ≤ w2.heap.size from B2.out.size)
    clear hst hb hmb hb3
    go_wp2_with fail
    go_loopw [39] (fun idx wr => ∃ j : Nat, j ≤ ops.length ∧ idx = .int .i64 j ∧ Hid (St b mb j (ByteArray.mk #[114]) ats wr) ∧ Below w2.heap.size w2 wr) (fun idx _ => ops.length - (intOf idx).toNat)
    case atStart => exact ⟨0, Nat.zero_le _, rfl, ST, B23.out⟩
    case round =>
      obtain ⟨wo, rfl⟩ : ∃ wo : World, wo = wr := ⟨_, rfl⟩
      obtain ⟨j, hj, rfl, HST, hnx⟩ := hrel
      have j0 : (0 : Int) ≤ (j : Int) := by omega
      have j16 : (j : Int) ≤ 16 := by omega
      have HNX := hid hnx
      by_cases hlt : j < ops.length
      · obtain ⟨⟨kd, id, at', u, m, cs⟩, hx⟩ := get_some hlt
        have BWO := hid (B2.out.trans (hnx.mono LO.out))
        obtain ⟨⟨ob, off, rfl, hobl, e0, e1, e2, e3⟩, hru⟩ := OC.out j _ hx wo BWO.out
        simp only at e0 e1 e2 e3 hru
        have hru2 := hru
        obtain ⟨co, ccap, hu, -⟩ := hru2
        simp only at hu
        subst hu
        obtain ⟨rc, hrc⟩ : ∃ rc : RcR, ((.slice co m ccap, m, cs) : RcR) = rc := ⟨_, rfl⟩
        have HR1 := hid (show rc.1 = .slice co m ccap by rw [← hrc])
        rw [hrc] at hru
        have HRU := hid hru
        have HLT := hid hlt
        have K4 : kd.toNat % 4 < 4 := Nat.mod_lt _ (by decide)
        obtain ⟨K, hKd⟩ : ∃ K, kd.toNat % 4 = K := ⟨_, rfl⟩
        obtain ⟨I, hI⟩ : ∃ I, id.toNat % 10 = I := ⟨_, rfl⟩
        have q1 : ((kd.toNat : Nat) : Int).tmod 4 = (K : Int) := by rw [← hKd]; exact Int.ofNat_tmod kd.toNat 4
        have q2 : ((id.toNat : Nat) : Int).tmod 10 = (I : Int) := by rw [← hI]; exact Int.ofNat_tmod id.toNat 10
        have q3 : IntKind.i64.wrap (I : Int) = I := by rw [IntKind.wrap_i64]; omega
        rw [hKd] at K4
        have J16 := hid (show j ≤ 16 by omega)
        have AK := hid (show ats.length ≤ 6 by rw [HNL.out]; have := HK6.out; omega)
        have HBQ := hid (below_alloc wo (.cells #[enc8 kd, enc8 id, enc8 at', .slice co m ccap] 32))
        have CB := cells4 (w := wo) (a := enc8 kd) (b := enc8 id) (c := enc8 at') (d := .slice co m ccap) (t := 32) _ (Below.refl _ _)
        obtain ⟨wr, hwr⟩ : ∃ wr : World, wo.alloc (.cells #[enc8 kd, enc8 id, enc8 at', .slice co m ccap] 32) = wr := ⟨_, rfl⟩
        obtain ⟨ox, hox⟩ : ∃ ox, wo.heap.size = ox := ⟨_, rfl⟩
        rw [hwr] at HBQ CB
        rw [hox] at CB
        have WQ := hid hwr
        have OX := hid hox
        have BWR := hid (BWO.out.trans (HBQ.out.mono BWO.out.size))
        have NXR := hid (hnx.trans (HBQ.out.mono hnx.size))
        have STR := hid (HST.out.below HBQ.out)
        have RUR := hid (HRU.out.below HBQ.out)
        have BQ := hid (show w2.heap.size ≤ b ∧ w2.heap.size ≤ mb from ⟨HB.out, HMB.out⟩)
        have KC := hid CB
        clear hx hnx hru hwr hox hKd hI hrc hlt CB
        unfold enc8 at e0 e1 e2 WQ KC
        go_upto_region 10 with fail
        rw [WQ.out, OX.out]
        clear e0 e1 e2 e3
        obtain ⟨c0, c1, c2, c3⟩ := KC.out
        have NXT := hid (fun (W : World) (h1 : St b mb (j + 1) (ByteArray.mk #[114]) ats W) (h2 : ∀ B, B ≤ b → B ≤ mb → B ≤ wr.heap.size → Below B wr W) => show St b mb (j + 1) (ByteArray.mk #[114]) ats W ∧ Below w2.heap.size w2 W from ⟨h1, NXR.out.trans (h2 _ BQ.out.1 BQ.out.2 NXR.out.size)⟩)
        rcases (show K = 2 ∨ K = 3 ∨ (K = 0 ∨ K = 1) by omega) with rfl | rfl | hK01
        · have DE := hid (mdelete_any b mb j (ByteArray.mk #[114]) ats (I : Int) wr STR.out AK.out J16.out)
          go_wp2_with fail
          refine DE.out.mono ?_
          rintro e w5 ⟨⟨x, rfl⟩, hst5, hb5⟩
          have ST5 := hid (NXT.out w5 hst5 hb5)
          clear hst5 hb5
          go_wp2_with fail
          go_roundw
          case rel => exact ⟨j + 1, by have := HLT.out; omega, by go_num, hid ST5.out.1, ST5.out.2⟩
          case measure => have := HLT.out; simp [intOf]; omega
        · have CE := hid (mcell_any k kd id at' rc wr (by have := HK6.out; omega) RUR.out)
          rw [HR1.out] at CE
          unfold enc8 at CE
          have QL := hid (show ((at'.toNat % (k + 1) : Nat) : Int) < 9223372036854775808 by have := at'.isLt; have := Nat.mod_le at'.toNat (k + 1); omega)
          have XN := hid (cellV_num rc)
          obtain ⟨pp, hpp⟩ : ∃ pp : Int, ((id.toNat % 10 : Nat) : Int) = pp := ⟨_, rfl⟩
          obtain ⟨qq, hqq⟩ : ∃ qq : Int, ((at'.toNat % (k + 1) : Nat) : Int) = qq := ⟨_, rfl⟩
          obtain ⟨xx, hxx⟩ : ∃ xx : V3, cellV rc = xx := ⟨_, rfl⟩
          rw [hpp, hqq, hxx] at CE
          rw [hqq] at QL
          rw [hxx] at XN
          clear hpp hqq hxx
          go_wp2_with fail
          refine CE.out.mono ?_
          rintro e w5 ⟨rfl, hb5⟩
          have B5 := hid hb5
          clear hb5
          have b6 := below_alloc w5 (.cells #[.int .i64 pp, .int .i64 qq] 35)
          obtain ⟨z0, z1⟩ := cells2 (w := w5) (a := .int .i64 pp) (b := .int .i64 qq) (t := 35) _ (Below.refl _ _)
          have s6 : (w5.alloc (.cells #[.int .i64 pp, .int .i64 qq] 35)).heap.size = w5.heap.size + 1 := by simp
          obtain ⟨w6, hw6⟩ : ∃ w6 : World, w5.alloc (.cells #[.int .i64 pp, .int .i64 qq] 35) = w6 := ⟨_, rfl⟩
          rw [hw6] at b6 z0 z1 s6
          have b7 := below_alloc w6 (.cells #[.int .i64 xx.1, .int .i64 xx.2.1, .string xx.2.2] 37)
          obtain ⟨y0, y1, y2⟩ := cells3 (w := w6) (a := .int .i64 xx.1) (b := .int .i64 xx.2.1) (c := .string xx.2.2) (t := 37) _ (Below.refl _ _)
          obtain ⟨w7, hw7⟩ : ∃ w7 : World, w6.alloc (.cells #[.int .i64 xx.1, .int .i64 xx.2.1, .string xx.2.2] 37) = w7 := ⟨_, rfl⟩
          rw [hw7] at b7 y0 y1 y2
          rw [s6] at y0 y1 y2
          replace z0 := (b7.cell (p := ⟨w5.heap.size, 0, none⟩) (by show w5.heap.size < _; omega)).trans z0
          replace z1 := (b7.cell (p := ⟨w5.heap.size, 1, none⟩) (by show w5.heap.size < _; omega)).trans z1
          have W7 := hid (show (w5.alloc (.cells #[.int .i64 pp, .int .i64 qq] 35)).alloc (.cells #[.int .i64 xx.1, .int .i64 xx.2.1, .string xx.2.2] 37) = w7 by rw [hw6, hw7])
          have B7 := hid (B5.out.trans ((b6.trans (b7.mono b6.size)).mono B5.out.size))
          have CH := hid (mchange_any b mb j (ByteArray.mk #[114]) ats pp qq xx w7 (STR.out.below B7.out) AK.out J16.out QL.out XN.out)
          have ZZ := hid (And.intro z0 (And.intro z1 (And.intro y0 (And.intro y1 y2))))
          clear b6 b7 s6 hw6 hw7 z0 z1 y0 y1 y2
          go_upto_region 16 with fail
          rw [W7.out]
          obtain ⟨z0, z1, y0, y1, y2⟩ := ZZ.out
          go_wp2_with fail
          refine CH.out.mono ?_
          rintro e w8 ⟨⟨x, rfl⟩, hst8, hb8⟩
          have ST8 := hid (NXT.out w8 hst8 (fun B h1 h2 h3 => (B7.out.mono h3).trans (hb8 B h1 h2 (Nat.le_trans h3 B7.out.size))))
          clear hst8 hb8 z0 z1 y0 y1 y2
          go_wp2_with fail
          go_roundw
          case rel => exact ⟨j + 1, by have := HLT.out; omega, by go_num, hid ST8.out.1, ST8.out.2⟩
          case measure => have := HLT.out; simp [intOf]; omega
        · have RO := hid (mrow_any k kd id at' rc wr (by have := HK6.out; omega) RUR.out)
          rw [HR1.out] at RO
          unfold enc8 at RO
          have hk2 : ((K : Int) == 2) = false := by rcases hK01 with rfl | rfl <;> rfl
          have hk3 : ((K : Int) == 3) = false := by rcases hK01 with rfl | rfl <;> rfl
          go_wp2_with fail
          refine RO.out.mono ?_
          rintro e w5 ⟨v5, rfl, hrv, hfar, hb5⟩
          have ST5 := hid (STR.out.below hb5)
          have IN := hid (minsert_any b mb j (ByteArray.mk #[114]) ats ((id.toNat % 10 : Nat) : Int) v5 (rowV rc k) w5 ST5.out hrv (fun jj hjj => hfar jj (by have := STR.out.lt; rcases hjj with rfl | rfl; exact this.1; exact this.2)) (by have := rowV_len rc k; have := HK6.out; omega) (rowV_num rc k) AK.out J16.out)
          have B5 := hid hb5
          obtain ⟨vo, vcap, rfl, -⟩ := RdV.split hrv
          clear hrv hfar hb5
          go_wp2_with fail
          refine IN.out.mono ?_
          rintro e w6 ⟨⟨x, rfl⟩, hst6, hb6⟩
          have ST6 := hid (NXT.out w6 hst6 (fun B h1 h2 h3 => (B5.out.mono h3).trans (hb6 B h1 h2 (Nat.le_trans h3 B5.out.size))))
          clear hst6 hb6
          go_wp2_with fail
          go_roundw
          case rel => exact ⟨j + 1, by have := HLT.out; omega, by go_num, hid ST6.out.1, ST6.out.2⟩
          case measure => have := HLT.out; simp [intOf]; omega
      · have hje : j = ops.length := by omega
        obtain ⟨av, rv, fv, dv, ev, rs, ps, xs, nn, hS, hne, hTT, hF, hE, hN, hl, hO, hnn, hp, hx, hxl, hf⟩ := HST.out
        obtain ⟨ao0, acap0, hav0, -⟩ := hTT.1.split
        simp only at hav0
        subst hav0
        have AK0 : ats.length ≤ 6 := by rw [HNL.out]; have := HK6.out; omega
        have SK := hid (fun (W : World) (h : Below wo.heap.size wo W) => hS.below h)
        have FDK := hid (fun (W : World) (h : Below wo.heap.size wo W) => mfds_any b fv _ W (hS.below h).c4 (RdC.below hf h) (fds_len AK0 hxl))
        have KYK := hid (fun (W : World) (h : Below wo.heap.size wo W) => mkeys_any b mb nn ats.length ps ao0 acap0 W (hS.below h).c1 (hS.below h).c3 (hO.below h) AK0)
        have AGK := hid (fun (W : World) (h : Below wo.heap.size wo W) => magree_any2 b mb nn ps W (hS.below h).c3 (hO.below h) (pairs_len hp (by omega)))
        have TA := hid (mtable_any b (ByteArray.mk #[114]) ats (.slice ao0 ats.length acap0) rv rs wo hS.c0 hS.c1 hS.c2 hTT (by rw [HNL.out]; have := HK6.out; omega) (by omega) (fun r hr => by
          obtain ⟨-, -, -, -, hrow⟩ := tabE_iff.1 hE
          have := ((rowsE_iff.1 hrow).2 r hr).1
          rw [this, HNL.out]; have := HK6.out; omega))
        go_wp2_with fail
        refine TA.out.mono ?_
        rintro e w5 ⟨av5, tv5, rs5, rfl, ht5, hcp, hb5⟩
        obtain ⟨ao5, acap5, hav5, -⟩ := ht5.1.split
        obtain ⟨ro5, rcap5, hrv5, -⟩ := RdR.split ht5.2
        simp only at hav5 hrv5
        subst hav5 hrv5
        have hE5 := cp_valid hcp hE
        have hN5 := cp_num hcp hN
        have AK := hid (show ats.length ≤ 6 by rw [HNL.out]; have := HK6.out; omega)
        have hl5 : rs5.length ≤ 16 := by rw [hcp.len]; omega
        obtain ⟨hf5, hk5, h25, hok5⟩ := top_facts hE5 hN5 AK.out hl5
        have PE := hid (show pairsS rs5 = pairsS rs from pairsS_core hcp)
        have BX := below_alloc w5 (.cells #[.string (ByteArray.mk #[114]), .slice ao5 ats.length acap5, .slice ro5 rs5.length rcap5] 48)
        have T3C := fun W h => cells3 (w := w5) (a := .string (ByteArray.mk #[114])) (b := .slice ao5 ats.length acap5) (c := .slice ro5 rs5.length rcap5) (t := 48) W h
        obtain ⟨tb, htb⟩ : ∃ tb, w5.heap.size = tb := ⟨_, rfl⟩
        obtain ⟨w6, hw6⟩ : ∃ w6 : World, w5.alloc (.cells #[.string (ByteArray.mk #[114]), .slice ao5 ats.length acap5, .slice ro5 rs5.length rcap5] 48) = w6 := ⟨_, rfl⟩
        rw [hw6] at BX T3C
        rw [htb] at T3C
        have W6 := hid hw6
        have TB := hid htb
        have B6 := hid (hb5.trans (BX.mono hb5.size))
        have T6 := hid (ht5.below BX)
        have BW6 := hid (B2.out.trans (((HNX.out).trans (B6.out.mono HNX.out.size)).mono LO.out))
        have TC := hid (fun (W : World) (h : Below w6.heap.size w6 W) => T3C W h)
        have HT6 := hid (HT.out.below BW6.out)
        have FA := hid (fun (W : World) (h : Below w6.heap.size w6 W) => fall_any (ByteArray.mk #[114], ats, rs5) (.slice ao5 ats.length acap5) (.slice ro5 rs5.length rcap5) W (T6.out.below h) (HT6.out.below h) (fun _ => hok5))
        have KA := hid (fun (W : World) (h : Below w6.heap.size w6 W) => kall_any (ByteArray.mk #[114], ats, rs5) (.slice ao5 ats.length acap5) (.slice ro5 rs5.length rcap5) W (T6.out.below h))
        have AS := hid (fun (W : World) (h : Below w6.heap.size w6 W) => asetsR (ByteArray.mk #[114], ats, rs5) (.slice ao5 ats.length acap5) (.slice ro5 rs5.length rcap5) W (T6.out.below h))
        simp only at FA KA AS
        rw [hf5] at FA
        rw [hk5] at KA
        rw [h25] at AS
        have FL := hid (show minO (qB ats.length ps) ats.length xs xs.length = allR (ByteArray.mk #[114], ats, rs5) from by
          rw [← minO_all hf5 hx]
          show minO (qB ats.length ps) ats.length xs xs.length = minO (qB ats.length (pairsS rs5)) ats.length xs xs.length
          rw [PE.out]
          congr 1
          exact qB_congr (fun s => hp.mem_iff))
        rw [FL.out] at FDK
        have KL := hid (show keyN ats.length ps = kallL (ByteArray.mk #[114], ats, rs5) from by
          unfold kallL
          rw [if_pos hk5]
          show _ = keyN ats.length (pairsS rs5)
          rw [PE.out, ← unqL_key (ps := ps) hx, ← unqL_key (ps := pairsS rs) hx, unq_perm hp])
        have CL := hid (show cntL ps = setsL (ByteArray.mk #[114], ats, rs5) from by
          unfold setsL
          rw [if_pos h25]
          show _ = cntL (pairsS rs5)
          rw [PE.out, cnt_perm hp])
        rw [KL.out] at KYK
        rw [CL.out] at AGK
        have FLL := hid (show (allR (ByteArray.mk #[114], ats, rs5)).length ≤ 1000 from by rw [← FL.out]; exact fds_len AK0 hxl)
        have CLL := hid (setsL_length (ByteArray.mk #[114], ats, rs5))
        obtain ⟨LF, hLF⟩ : ∃ L, allR (ByteArray.mk #[114], ats, rs5) = L := ⟨_, rfl⟩
        obtain ⟨LK, hLK⟩ : ∃ L, kallL (ByteArray.mk #[114], ats, rs5) = L := ⟨_, rfl⟩
        obtain ⟨LC, hLC⟩ : ∃ L, setsL (ByteArray.mk #[114], ats, rs5) = L := ⟨_, rfl⟩
        rw [hLF] at FDK FA FLL
        rw [hLK] at KYK KA
        rw [hLC] at AGK AS CLL
        have WO6 := hid B6.out
        clear FL KL CL hLF hLK hLC hE5 hN5 hl5 hf5 hk5 h25 hok5 hcp hb5 ht5 BX T3C hw6 htb hS hne hTT hF hE hN hl hO hnn hp hx hxl hf hnx TA PE AK0 HT
        go_upto_region 18 with fail
        rw [W6.out, TB.out]
        obtain ⟨t0, t1, t2⟩ := TC.out w6 (Below.refl _ _)
        go_wp2_with fail
        refine (FA.out w6 (Below.refl _ _)).mono ?_
        rintro e w7 ⟨fv7, rfl, hrf7, hb7⟩
        have R7 := hid hrf7
        have B7 := hid hb7
        obtain ⟨fo7, fcap7, rfl, -⟩ := hrf7
        clear t0 t1 t2 hb7
        obtain ⟨t0, t1, t2⟩ := TC.out w7 B7.out
        go_wp2_with fail
        refine (KA.out w7 B7.out).mono ?_
        rintro e w8 ⟨kv8, rfl, hok8, hkl8, hb8⟩
        have R8 := hid (RdE.of_owns hok8 (by omega))
        have B8 := hid (B7.out.trans (hb8.mono B7.out.size))
        have S8 := hid hb8
        obtain ⟨ko8, kcap8, rfl, -⟩ := R8.out.split
        clear t0 t1 t2 hb8 hok8
        obtain ⟨t0, t1, t2⟩ := TC.out w8 B8.out
        go_wp2_with fail
        refine (AS.out w8 B8.out).mono ?_
        rintro e w9 ⟨cv9, rfl, hrc9, hb9⟩
        have R9 := hid hrc9
        have B9 := hid (B8.out.trans (hb9.mono B8.out.size))
        have S9 := hid hb9
        obtain ⟨co9, ccap9, rfl, -⟩ := hrc9
        have W9 := hid (WO6.out.trans (B9.out.mono WO6.out.size))
        obtain ⟨a0, a1, a2, a3, a4, a5, a6, -⟩ := SK.out w9 W9.out
        clear t0 t1 t2 hb9
        go_wp2_with fail
        refine (FDK.out w9 W9.out).mono ?_
        rintro e w10 ⟨v10, rfl, ho10, hb10⟩
        have Q10 := hid (RdC.of_owns cF_length ho10 (by have := FLL.out; omega))
        have W10 := hid (W9.out.trans (hb10.mono W9.out.size))
        have S10 := hid hb10
        obtain ⟨fo10, fcap10, rfl, -⟩ := Q10.out
        clear ho10 hb10
        go_wp2_with fail
        refine (fsame9_any LF _ _ w10 Q10.out (RdC.below (RdC.below (RdC.below R7.out S8.out) S9.out) S10.out)).mono ?_
        rintro e w11 ⟨rfl, hb11⟩
        have W11 := hid (W10.out.trans (hb11.mono W10.out.size))
        have S11 := hid hb11
        clear hb11 a0 a1 a2 a3 a4 a5 a6
        obtain ⟨a0, a1, a2, a3, a4, a5, a6, -⟩ := SK.out w11 W11.out
        go_wp2_with fail
        refine (KYK.out w11 W11.out).mono ?_
        rintro e w12 ⟨v12, rfl, ho12, hb12⟩
        have Q12 := hid (RdE.of_owns ho12 (by omega))
        have W12 := hid (W11.out.trans (hb12.mono W11.out.size))
        have S12 := hid hb12
        obtain ⟨ko12, kcap12, rfl, -⟩ := Q12.out.split
        clear ho12 hb12
        go_wp2_with fail
        refine (ssame_any LK _ _ w12 Q12.out ((((R8.out.below S9.out).below S10.out).below S11.out).below S12.out)).mono ?_
        rintro e w13 ⟨rfl, hb13⟩
        have W13 := hid (W12.out.trans (hb13.mono W12.out.size))
        have S13 := hid hb13
        clear hb13 a0 a1 a2 a3 a4 a5 a6
        obtain ⟨a0, a1, a2, a3, a4, a5, a6, -⟩ := SK.out w13 W13.out
        go_wp2_with fail
        refine (AGK.out w13 W13.out).mono ?_
        rintro e w14 ⟨v14, rfl, ho14, hb14⟩
        have Q14 := hid (RdC.of_owns cC_length ho14 (by have := CLL.out; omega))
        have W14 := hid (W13.out.trans (hb14.mono W13.out.size))
        have S14 := hid hb14
        obtain ⟨co14, ccap14, rfl, -⟩ := Q14.out
        clear ho14 hb14
        go_wp2_with fail
        refine (csame_any LC _ _ w14 Q14.out (RdC.below (RdC.below (RdC.below (RdC.below (RdC.below R9.out S10.out) S11.out) S12.out) S13.out) S14.out)).mono ?_
        rintro e w15 ⟨rfl, hb15⟩
        have BF := hid (B2.out.trans ((HNX.out.trans ((W14.out.trans (hb15.mono W14.out.size)).mono HNX.out.size)).mono LO.out))
        clear hb15 a0 a1 a2 a3 a4 a5 a6
        go_wp2_with fail
        go_ret
        exact ⟨rfl, BF.out⟩

end Go.Proofs.YtdiafhbbmliefaaGreatDoor


/- Lists of operations as arguments, opened to the words that the laws are stated in. -/
namespace Go.Proofs.YtdiafhbbmliefaaGreatDoor
open Go.ChangeShapes Go.WideShapes Go.ChangeAt Go.RowKit Go.Deep Go.Joins
set_option linter.unusedVariables false
set_option maxRecDepth 100000
section
variable {H : Type} {en : TypeId × Value → H} {W : World} {b : Nat} {v : Value} {d : DataW H} {p : List MemPlace}
theorem arg_ops (hv : Value.okWide Tryz.prog W .any b 22 v) (h : DataW.Trod en Tryz.prog W 0 (fun _ => true) true 22 v d p) (hz : SizedD Tryz.prog 22 d) : ∃ ops : List OpR, RdOps W v ops := by
  obtain ⟨a, l, c, rfl⟩ := okWide_slice Tryz.underlying22 hv
  obtain ⟨fuel, hf⟩ := h
  obtain ⟨xs, hx, hR⟩ := argC_list cOp 4 cOp_length (fun o => RdU W o.2.2.2) Tryz.underlying22 (by kernel_rfl) (by decide) (of_decide_eq_true (by kernel_rfl)) (fun k cs d ps hl hd hs => by
    obtain ⟨y0, y1, y2, y3, m, hxy, _, h0, h1, h2, h3⟩ := trod_struct4 Tryz.underlying32 hd
    match cs, hl with
    | [a0, a1, a2, a3], _ =>
      obtain ⟨n0, e0, _, w0⟩ := DataW.trod_int Tryz.underlying5 h0
      obtain ⟨n1, e1, _, w1⟩ := DataW.trod_int Tryz.underlying5 h1
      obtain ⟨n2, e2, _, w2⟩ := DataW.trod_int Tryz.underlying5 h2
      have c5 : Tryz.prog.cellsOf 5 = 1 := by kernel_rfl
      have c6 : Tryz.prog.cellsOf 30 = 1 := by kernel_rfl
      simp [c5] at e0 e1 e2
      have e0' : a0 = .int .u8 n0 := by simpa using e0
      have e1' : a1 = .int .u8 n1 := by simpa using e1
      have e2' : a2 = .int .u8 n2 := by simpa using e2
      simp only [Prod.mk.injEq] at hxy
      obtain ⟨rfl, _⟩ := hxy
      obtain ⟨rc, hrc, hru⟩ := arg_u8row Tryz.underlying30 Tryz.underlying5 (by kernel_rfl) (of_decide_eq_true (by kernel_rfl)) (v := a3) (by exact h3) (hs.field Tryz.underlying32 (j := 3) rfl rfl)
      have hr1 : rc.1 = a3 := by simpa [cRc] using hrc
      exact ⟨(BitVec.ofInt 8 n0, BitVec.ofInt 8 n1, BitVec.ofInt 8 n2, rc), by unfold cOp; simp only; rw [enc8_ofInt w0, enc8_ofInt w1, enc8_ofInt w2, hr1, e0', e1', e2'], hru⟩) hf hz
  exact ⟨xs, hx, hR⟩
end

end Go.Proofs.YtdiafhbbmliefaaGreatDoor

