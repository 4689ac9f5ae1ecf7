/- Texts that belong together, in one file. -/
import Derived.Test.YtgahpgmagfngfaaGreatDoorOpen
import Derived.Test.YtgahpgmagfngfaaGreatDoorGTabA
import Derived.SizedLaws
import Derived.Test.YtgahpgmagfngfaaGreatDoorArgs
import Derived.Test.YtgahpgmagfngfaaGreatDoorGTab14
import Derived.Test.YtgahpgmagfngfaaGreatDoorGTab30
import Derived.Test.YtgahpgmagfngfaaGreatDoorGTopA
import Derived.Test.YtgahpgmagfngfaaGreatDoorGNdE
import Derived.Test.YtgahpgmagfngfaaGreatDoorGNdJ
import Derived.Test.YtgahpgmagfngfaaGreatDoorGNdK
import Derived.Deep.QuietTactic
import Derived.BigQuiet
import Derived.Lib.SmallJoins
import Derived.Test.YtgahpgmagfngfaaGreatDoorDoor
/- Slices of structs as arguments, to any depth: opened to the words that the laws are stated in. No program. -/
namespace Go.Proofs.YtgahpgmagfngfaaGreatDoor
open Go.ChangeShapes Go.WideShapes Go.ChangeAt Go.RowKit Go.Deep Go.Joins

section
variable {H : Type} {en : TypeId × Value → H} {P : Program} {W : World} {fuel : Nat} {t e : TypeId} {v : Value} {x : DataW H × List MemPlace}

/-- All sizes in a datum are within the reach. -/
def SizedD (P : Program) (t : TypeId) (d : DataW H) : Prop := ∀ n ∈ d.weights P t, n ≤ reachBytes
theorem mem_weightsAll {l : List (DataW H)} {d : DataW H} (h : d ∈ l) {n : Nat} (hn : n ∈ d.weights P e) : n ∈ DataW.weightsAll P e l := by
  induction l with
  | nil => cases h
  | cons y r ih =>
    simp only [DataW.weightsAll, List.mem_append]
    rcases List.mem_cons.1 h with rfl | h
    · exact .inl hn
    · exact .inr (ih h)
theorem SizedD.elem (ht : P.underlying t = some (.slice e)) {es sp : List (DataW H)} (h : SizedD P t (.slice es sp)) {d : DataW H} (hd : d ∈ es) : SizedD P e d := fun n hn => by
  refine h n ?_
  simp only [DataW.weights, ht, List.mem_cons, List.mem_append]
  exact .inr (.inl (mem_weightsAll hd hn))
theorem SizedD.length (ht : P.underlying t = some (.slice e)) {es sp : List (DataW H)} (h : SizedD P t (.slice es sp)) : es.length * P.bytesOf e ≤ reachBytes := by
  refine Nat.le_trans (Nat.mul_le_mul_right _ (Nat.le_add_right _ sp.length)) (h _ ?_)
  simp only [DataW.weights, ht, List.mem_cons, true_or]
theorem SizedD.field {fs : Array Field} (ht : P.underlying t = some (.struct fs)) {ds : List (DataW H)} (h : SizedD P t (.agg ds)) {j : Nat} {tj : TypeId} {d : DataW H} (hj : (fs.toList.map (·.type))[j]? = some tj) (hd : ds[j]? = some d) : SizedD P tj d := fun n hn => by
  refine h n ?_
  simp only [DataW.weights, ht]
  exact DataW.weights_mem_each hj hd n hn
theorem SizedD.arg {ts : List TypeId} {ds : List (DataW H)} (h : (DataW.weightsEach P ts ds).all (· ≤ reachBytes) = true) {j : Nat} {d : DataW H} (hj : ts[j]? = some t) (hd : ds[j]? = some d) : SizedD P t d := fun n hn =>
  of_decide_eq_true (List.all_eq_true.1 h n (DataW.weights_mem_each hj hd n hn))
theorem reach_4 {n b : Nat} (h : n * b ≤ reachBytes) (hb : 4 ≤ b) : n ≤ 35184372088832 := by
  have h1 := Nat.mul_le_mul_left n hb
  have h2 := reachBytes_lt
  omega

/-- A slice whose elements take several cells, each read by itself. -/
theorem argC_list {α : Type} [Inhabited α] (c : α → List Value) (n : Nat) (hcn : ∀ y, (c y).length = n) (R : α → Prop) (ht : P.underlying t = some (.slice e)) (ce : P.cellsOf e = n) (hn : 0 < n) (h4 : 4 ≤ P.bytesOf e)
    (hel : ∀ (k : Nat) (cs : List Value) (d : DataW H) (ps : List MemPlace), cs.length = n → DataW.trod en P W 0 (fun _ => true) true k e cs = some (d, ps) → SizedD P e d → ∃ y : α, c y = cs ∧ R y)
    (h : DataW.trod en P W 0 (fun _ => true) true fuel t [v] = some x) (hz : SizedD P t x.1) : ∃ xs : List α, RdC c W v xs ∧ ∀ y ∈ xs, R y := by
  rcases open_slice ht h with ⟨hcs, _⟩ | ⟨a, len, cap, m, k, D, Pl, hcs, _, hl, hm, hmm, rfl, hx⟩
  · simp at hcs; subst hcs
    exact ⟨[], RdC.nil _ _, fun _ h => absurd h (by simp)⟩
  · simp at hcs; subst hcs
    simp at hmm; obtain rfl : cap = m := hmm.symm
    have hL : len * P.bytesOf e ≤ reachBytes := by have := SizedD.length ht hz; simpa using this
    have hL4 := reach_4 hL h4
    have each : ∀ i, i < len → ∃ y : α, (∃ cs', W.cells? 0 (a.add (i * n)) n = some cs' ∧ c y = cs') ∧ R y := by
      intro i hi
      obtain ⟨cs', h1, h2⟩ := hx i (by omega)
      rw [ce] at h1
      obtain ⟨_, hl', _⟩ := World.cells?_some h1
      obtain ⟨y, hy, hR⟩ := hel k cs' (D i) (Pl i) hl' h2 (hz.elem ht (List.mem_map.2 ⟨i, List.mem_range.2 hi, rfl⟩))
      exact ⟨y, ⟨cs', h1, hy⟩, hR⟩
    obtain ⟨f, hf⟩ := choose_lt each
    obtain ⟨b, off, spot⟩ := a
    refine ⟨(List.range len).map f, ⟨some ⟨b, off, spot⟩, cap, by simp, by simp; omega, by simp; omega, fun hp => ?_⟩, ?_⟩
    · have hp0 : 0 < len := by simpa using hp
      obtain ⟨⟨cs', h1, h2⟩, _⟩ := hf 0 hp0
      obtain ⟨_, hl', hc0⟩ := World.cells?_some h1
      have hcell0 := hc0 0 hn
      obtain ⟨u0, hu0⟩ : ∃ u, cs'[0]? = some u := ⟨cs'[0]'(by omega), List.getElem?_eq_getElem _⟩
      rw [hu0] at hcell0
      have hspot : spot = none := by simpa [Addr.add] using World.cell?_spot hcell0
      subst hspot
      refine ⟨b, off, rfl, by have := World.block_lt_of_cell? W _ hcell0; simpa [Addr.add] using this, fun j u hu => ?_⟩
      have hj : j < len * n := by
        have := (List.getElem?_eq_some_iff.1 hu).1
        rw [flat_length hcn] at this; simpa using this
      obtain ⟨i, r, hi, hr, rfl⟩ : ∃ i r, i < len ∧ r < n ∧ j = i * n + r := ⟨j / n, j % n, (Nat.div_lt_iff_lt_mul hn).2 hj, Nat.mod_lt _ hn, by rw [Nat.mul_comm, Nat.div_add_mod]⟩
      have hxi : ((List.range len).map f)[i]? = some (f i) := by rw [List.getElem?_map, List.getElem?_range hi]; rfl
      obtain ⟨⟨cs2, h3, h4'⟩, _⟩ := hf i hi
      obtain ⟨_, hl2, hc2⟩ := World.cells?_some h3
      have hg := hc2 r hr
      rw [← h4'] at hg
      obtain ⟨u', hu'⟩ : ∃ u', (c (f i))[r]? = some u' := ⟨_, List.getElem?_eq_getElem (by rw [hcn]; exact hr)⟩
      rw [flat_at hcn _ i _ r u' hxi hu'] at hu
      rw [hu', add_add, Addr.add_lit] at hg
      rw [hg, hu]
    · intro y hy
      obtain ⟨i, hi, rfl⟩ := List.mem_map.1 hy
      exact (hf i (List.mem_range.1 hi)).2
theorem RdE.of_cells {α : Type} {f : α → Value} {w : World} {v : Value} {xs : List α} (h : RdC (fun y => [f y]) w v xs) : RdE f w v xs := by
  obtain ⟨ao, cap, rfl, h1, h2, h3⟩ := h
  refine ⟨ao, cap, rfl, h1, h2, fun hp => ?_⟩
  obtain ⟨b, off, rfl, hb, hc⟩ := h3 hp
  refine ⟨b, off, rfl, hb, fun i x hi => hc i (f x) ?_⟩
  rw [← List.map_eq_flatMap, List.getElem?_map, hi]; rfl
end

section
variable {H : Type} {en : TypeId × Value → H} {P : Program} {W : World} {fuel : Nat} {t e : TypeId} {v : Value} {x : DataW H × List MemPlace}
/-- A slice of strings. -/
theorem arg_texts (ht : P.underlying t = some (.slice e)) (he : P.underlying e = some .string) (ce : P.cellsOf e = 1) (h4 : 4 ≤ P.bytesOf e)
    (h : DataW.trod en P W 0 (fun _ => true) true fuel t [v] = some x) (hz : SizedD P t x.1) : ∃ xs : List ByteArray, RdE encT W v xs := by
  obtain ⟨xs, hx, _⟩ := argC_list (fun s : ByteArray => [encT s]) 1 (fun _ => rfl) (fun _ => True) ht ce (by decide) h4 (fun k cs d ps _ hd _ => by
    obtain ⟨s, hs, _⟩ := DataW.trod_string he hd
    exact ⟨s, hs.symm, trivial⟩) h hz
  exact ⟨xs, RdE.of_cells hx⟩
/-- A slice of values. -/
theorem arg_values {f0 f1 f2 : Field} (ht : P.underlying t = some (.slice e)) (he : P.underlying e = some (.struct #[f0, f1, f2])) (ce : P.cellsOf e = 3) (h4 : 4 ≤ P.bytesOf e) (o0 : f0.offset = 0) (o1 : f1.offset = 1) (o2 : f2.offset = 2)
    (c0 : P.cellsOf f0.type = 1) (c1 : P.cellsOf f1.type = 1) (c2 : P.cellsOf f2.type = 1) (u0 : P.underlying f0.type = some (.int .i64)) (u1 : P.underlying f1.type = some (.int .i64)) (u2 : P.underlying f2.type = some .string)
    (h : DataW.trod en P W 0 (fun _ => true) true fuel t [v] = some x) (hz : SizedD P t x.1) : ∃ xs : List V3, RdV W v xs ∧ ∀ y ∈ xs, -9223372036854775808 ≤ y.2.1 ∧ y.2.1 < 9223372036854775808 := by
  obtain ⟨xs, hx, hn⟩ := argC_list cV 3 cV_length (fun y => -9223372036854775808 ≤ y.2.1 ∧ y.2.1 < 9223372036854775808) ht ce (by decide) h4 (fun k cs d ps hl hd _ => by
    obtain ⟨y0, y1, y2, m, _, _, h0, h1, h2⟩ := trod_struct3 he hd
    rw [o0, c0] at h0; rw [o1, c1] at h1; rw [o2, c2] at h2
    match cs, hl with
    | [a0, a1, a2], _ =>
      obtain ⟨n0, e0, _⟩ := DataW.trod_int u0 h0
      obtain ⟨n1, e1, _, w1⟩ := DataW.trod_int u1 h1
      obtain ⟨s, e2, _⟩ := DataW.trod_string u2 h2
      simp at e0 e1 e2
      have hb := i64_of w1
      exact ⟨(n0, n1, s), by rw [e0, e1, e2]; rfl, hb.1, by show n1 < _; omega⟩) h hz
  exact ⟨xs, hx, hn⟩
/-- A slice of rows. -/
theorem arg_rows {g0 g1 f0 f1 f2 : Field} {e' : TypeId} (ht : P.underlying t = some (.slice e)) (he : P.underlying e = some (.struct #[g0, g1])) (ce : P.cellsOf e = 2) (h4 : 4 ≤ P.bytesOf e) (p0 : g0.offset = 0) (p1 : g1.offset = 1)
    (k0 : P.cellsOf g0.type = 1) (k1 : P.cellsOf g1.type = 1) (w0 : P.underlying g0.type = some (.int .i64))
    (ht' : P.underlying g1.type = some (.slice e')) (he' : P.underlying e' = some (.struct #[f0, f1, f2])) (ce' : P.cellsOf e' = 3) (h4' : 4 ≤ P.bytesOf e') (o0 : f0.offset = 0) (o1 : f1.offset = 1) (o2 : f2.offset = 2)
    (c0 : P.cellsOf f0.type = 1) (c1 : P.cellsOf f1.type = 1) (c2 : P.cellsOf f2.type = 1) (u0 : P.underlying f0.type = some (.int .i64)) (u1 : P.underlying f1.type = some (.int .i64)) (u2 : P.underlying f2.type = some .string)
    (h : DataW.trod en P W 0 (fun _ => true) true fuel t [v] = some x) (hz : SizedD P t x.1) : ∃ rs : List Row3, RdR W v rs ∧ ∀ r ∈ rs, ∀ y ∈ r.2.2, -9223372036854775808 ≤ y.2.1 ∧ y.2.1 < 9223372036854775808 := by
  obtain ⟨xs, hx, hR⟩ := argC_list cR 2 cR_length (fun r => RdV W r.2.1 r.2.2 ∧ ∀ y ∈ r.2.2, -9223372036854775808 ≤ y.2.1 ∧ y.2.1 < 9223372036854775808) ht ce (by decide) h4 (fun k cs d ps hl hd hs => by
    obtain ⟨y0, y1, m, hxy, _, h0, h1⟩ := trod_struct2 he hd
    rw [p0, k0] at h0; rw [p1, k1] at h1
    match cs, hl with
    | [a0, a1], _ =>
      obtain ⟨n0, e0, _⟩ := DataW.trod_int w0 h0
      simp at e0
      simp only [Prod.mk.injEq] at hxy
      obtain ⟨rfl, _⟩ := hxy
      obtain ⟨vs, hvs⟩ := arg_values ht' he' ce' h4' o0 o1 o2 c0 c1 c2 u0 u1 u2 (v := a1) (by simpa using h1) (hs.field he (j := 1) rfl rfl)
      exact ⟨(n0, a1, vs), by rw [e0]; rfl, hvs⟩) h hz
  exact ⟨xs, ⟨hx, fun r hr => (hR r hr).1⟩, fun r hr => (hR r hr).2⟩
end

end Go.Proofs.YtgahpgmagfngfaaGreatDoor


/- Tables as arguments, opened to the words that the laws are stated in. -/
namespace Go.Proofs.YtgahpgmagfngfaaGreatDoor
open Go.ChangeShapes Go.WideShapes Go.ChangeAt Go.RowKit Go.Deep Go.Joins

set_option maxRecDepth 100000
section
variable {H : Type} {en : TypeId × Value → H} {W : World} {b : Nat} {v : Value} {d : DataW H} {p : List MemPlace}
theorem arg_table (hv : Value.okWide Tryz.prog W .any b 48 v) (h : DataW.Trod en Tryz.prog W 0 (fun _ => true) true 48 v d p) (hz : SizedD Tryz.prog 48 d) : ∃ (t : T3) (av rv : Value), v = .agg #[.string t.1, av, rv] ∧ RdT W av rv t ∧ ∀ r ∈ t.2.2, ∀ y ∈ r.2.2, -9223372036854775808 ≤ y.2.1 ∧ y.2.1 < 9223372036854775808 := by
  obtain ⟨v0, v1, v2, y0, y1, y2, n, rfl, rfl, _, h0, h1, h2⟩ := open_agg3 Tryz.underlying48 (by kernel_rfl) (by kernel_rfl) hv h
  obtain ⟨s, e0, _⟩ := DataW.trod_string Tryz.underlying9 h0
  simp at e0
  obtain ⟨ats, ha⟩ := arg_texts Tryz.underlying45 Tryz.underlying9 (by kernel_rfl) (of_decide_eq_true (by kernel_rfl)) h1 (hz.field Tryz.underlying48 (j := 1) rfl rfl)
  obtain ⟨rs, hr, hn⟩ := arg_rows Tryz.underlying46 Tryz.underlying87 (by kernel_rfl) (of_decide_eq_true (by kernel_rfl)) rfl rfl (by kernel_rfl) (by kernel_rfl) Tryz.underlying2
    Tryz.underlying85 Tryz.underlying89 (by kernel_rfl) (of_decide_eq_true (by kernel_rfl)) rfl rfl rfl (by kernel_rfl) (by kernel_rfl) (by kernel_rfl) Tryz.underlying3 Tryz.underlying2 Tryz.underlying9 h2 (hz.field Tryz.underlying48 (j := 2) rfl rfl)
  exact ⟨(s, ats, rs), v1, v2, by rw [e0], ⟨ha, hr⟩, hn⟩
end

end Go.Proofs.YtgahpgmagfngfaaGreatDoor


/- Recipes as arguments, opened to the words that the laws are stated in. -/
namespace Go.Proofs.YtgahpgmagfngfaaGreatDoor
open Go.ChangeShapes Go.WideShapes Go.ChangeAt Go.RowKit Go.Deep Go.Joins

theorem enc8_ofInt {n : Int} (hw : (Lit.int .u8 n).wf = true) : enc8 (BitVec.ofInt 8 n) = .int .u8 n := by
  simp [Lit.wf, IntKind.min, IntKind.max, IntKind.signed, IntKind.bits] at hw
  unfold enc8
  have : ((BitVec.ofInt 8 n).toNat : Int) = n := by simp [BitVec.toNat_ofInt]; omega
  rw [this]
section
variable {H : Type} {en : TypeId × Value → H} {P : Program} {W : World} {fuel : Nat} {t e : TypeId} {v : Value} {x : DataW H × List MemPlace}
theorem arg_u8row (ht : P.underlying t = some (.slice e)) (he : P.underlying e = some (.int .u8)) (hc : P.cellsOf e = 1) (hb : 1 ≤ P.bytesOf e)
    (h : DataW.trod en P W 0 (fun _ => true) true fuel t [v] = some x) (hz : SizedD P t x.1) : ∃ y : RcR, cRc y = [v] ∧ RdU W y := by
  rcases open_ints ht he hc h with ⟨hcs, _⟩ | ⟨a, len, cap, zs, hcs, _, hl, hm, hzl, _, hcell, hwz⟩
  · simp at hcs; subst hcs
    exact ⟨(.slice none 0 0, 0, fun _ => 0#8), rfl, none, 0, rfl, by simp, fun i hi => absurd hi (by simp)⟩
  · simp at hcs; subst hcs
    have hlen : len ≤ 140737488355328 := by
      have h1 := slice_len ht h
      have h2 := reachBytes_lt
      rcases h1 with ⟨_, h0⟩ | ⟨es, sp, e1, e2⟩
      · omega
      · rw [e1] at hz
        have h3 := SizedD.length ht hz
        have h4 := Nat.mul_le_mul_left es.length hb
        omega
    simp at hzl
    obtain ⟨b, off, spot⟩ := a
    refine ⟨(.slice (some ⟨b, off, spot⟩) len cap, len, fun i => BitVec.ofInt 8 (zs.getD i 0)), rfl, some ⟨b, off, spot⟩, cap, rfl, hlen, fun i hi => ?_⟩
    replace hi : i < len := hi
    have hi2 : i < zs.length := by omega
    have hci := hcell i hi2
    have hspot : spot = none := by simpa [Addr.add] using World.cell?_spot (hcell 0 (by omega))
    subst hspot
    rw [Addr.add_lit] at hci
    refine ⟨b, off, rfl, by have := World.block_lt_of_cell? W _ hci; simpa using this, ?_⟩
    show W.cell? ⟨b, off + i, none⟩ = some (enc8 (BitVec.ofInt 8 (zs.getD i 0)))
    rw [enc8_ofInt (hwz _ (by rw [List.getD_eq_getElem?_getD, List.getElem?_eq_getElem hi2]; exact List.getElem_mem hi2))]
    exact hci
end

set_option maxRecDepth 100000
section
variable {H : Type} {en : TypeId × Value → H} {W : World} {b : Nat} {v : Value} {d : DataW H} {p : List MemPlace}
theorem arg_recipe (hv : Value.okWide Tryz.prog W .any b 53 v) (h : DataW.Trod en Tryz.prog W 0 (fun _ => true) true 53 v d p) (hz : SizedD Tryz.prog 53 d) : ∃ (a g : U8) (rr : List RcR) (rv : Value), v = .agg #[.int .u8 (a.toNat : Int), .int .u8 (g.toNat : Int), rv] ∧ RdRc W rv rr := by
  obtain ⟨v0, v1, v2, y0, y1, y2, n, rfl, rfl, _, h0, h1, h2⟩ := open_agg3 Tryz.underlying53 (by kernel_rfl) (by kernel_rfl) hv h
  obtain ⟨n0, e0, _, w0⟩ := DataW.trod_int Tryz.underlying5 h0
  obtain ⟨n1, e1, _, w1⟩ := DataW.trod_int Tryz.underlying5 h1
  simp at e0 e1
  obtain ⟨b0, hb0⟩ := u8_of w0
  obtain ⟨b1, hb1⟩ := u8_of w1
  obtain ⟨rr, hrr, hR⟩ := argC_list cRc 1 cRc_length (RdU W) Tryz.underlying51 (by kernel_rfl) (by decide) (of_decide_eq_true (by kernel_rfl)) (fun k cs d ps hl hd hs => by
    match cs, hl with
    | [a0], _ => exact arg_u8row Tryz.underlying24 Tryz.underlying5 (by kernel_rfl) (of_decide_eq_true (by kernel_rfl)) hd hs) h2 (hz.field Tryz.underlying53 (j := 2) rfl rfl)
  exact ⟨b0, b1, rr, v2, by rw [e0, e1, ← hb0, ← hb1]; rfl, hrr, hR⟩
end

end Go.Proofs.YtgahpgmagfngfaaGreatDoor


/- The law TopMined. -/
namespace Go.Proofs.YtgahpgmagfngfaaGreatDoor
open Go.RowKit
set_option linter.unusedVariables false

theorem allD_ok {ds : List D3} (hg : GoodD ds) {d : DN} (h : d ∈ allD ds) : VI ds.length (nD ds) d ∧ hldD (rD ds) d = true := by
  unfold allD at h
  rw [List.mem_flatMap] at h
  obtain ⟨i, hi, h⟩ := h
  rw [List.mem_flatMap] at h
  obtain ⟨k, hk, h⟩ := h
  exact found_ok (List.mem_range.1 hi) (List.mem_range.1 hk) h
/-- A position leads to itself, or there is none. -/
def itsB (g : DN) (k : Nat) : Bool := decide (g.2.2.1.length = 0) || (decide (g.1 = g.2.1) && ((g.2.2.1.zip g.2.2.2).take k).any fun p => p.1 == p.2)
theorem itsB_next {g : DN} {k a b : Nat} (hl : g.2.2.1[k]? = some a) (hr : g.2.2.2[k]? = some b) : itsB g (k + 1) = (itsB g k || (decide (g.1 = g.2.1) && (a == b))) := by
  unfold itsB
  have hz : (g.2.2.1.zip g.2.2.2)[k]? = some (a, b) := by rw [List.getElem?_zip_eq_some]; exact ⟨hl, hr⟩
  rw [take_next hz, List.any_append]
  cases decide (g.2.2.1.length = 0) <;> cases decide (g.1 = g.2.1) <;> simp
theorem allD_all {ds : List D3} (hg : GoodD ds) {g : DN} (hv : VI ds.length (nD ds) g) (hh : hldD (rD ds) g = true) (hi : itsB g g.2.2.1.length = false) : ∃ d ∈ allD ds, appS d (g.1, g.2.2.1) = true ∧ toSN d (g.1, g.2.2.1) = (g.2.1, g.2.2.2) := by
  unfold itsB at hi
  rw [Bool.or_eq_false_iff, decide_eq_false_iff_not] at hi
  have hz : ((g.2.2.1.zip g.2.2.2).take g.2.2.1.length) = g.2.2.1.zip g.2.2.2 := List.take_of_length_le (by rw [List.length_zip]; exact Nat.min_le_left _ _)
  rw [hz] at hi
  obtain ⟨d, hd, h⟩ := found_all hg.db hv hh (by omega) (fun ⟨h1, p, hp, h2⟩ => by
    have h3 := hi.2
    rw [Bool.and_eq_false_iff] at h3
    rcases h3 with h3 | h3
    · rw [decide_eq_false_iff_not] at h3; exact h3 h1
    · rw [List.any_eq_false] at h3; exact h3 p hp (by simpa using h2))
  refine ⟨d, ?_, h⟩
  unfold allD
  rw [List.mem_flatMap]
  refine ⟨g.1, List.mem_range.2 hv.f, ?_⟩
  rw [List.mem_flatMap]
  exact ⟨g.2.1, List.mem_range.2 hv.t, hd⟩

set_option maxHeartbeats 6400000 in
set_option maxRecDepth 100000 in
theorem tMinedL (xs : List DrR) (xv : Value) (f t : U8) (ll rr : List U8) (lv rv : Value) (w : World) (hT : Tab w) (hx : RdDr w xv xs) (hl : RdB8 w lv ll) (hr : RdB8 w rv rr) :
    Calls Tryz.prog 3 #[xv, .agg #[.int .u8 (f.toNat : Int), .int .u8 (t.toNat : Int), lv, rv]] w fun e w' => e = .returned (.bool true) ∧ Below w.heap.size w w' := by
  have hb0 := below_alloc w (.cells #[.int .u8 (f.toNat : Int), .int .u8 (t.toNat : Int), lv, rv] 26)
  have BX := hid (fun W h => cells4I (w := w) (a := .int .u8 (f.toNat : Int)) (b := .int .u8 (t.toNat : Int)) (c := lv) (d := rv) (t := 26) W h)
  obtain ⟨w0, hw0⟩ : ∃ w0 : World, w.alloc (.cells #[.int .u8 (f.toNat : Int), .int .u8 (t.toNat : Int), lv, rv] 26) = w0 := ⟨_, rfl⟩
  rw [hw0] at hb0 BX
  have B0 := hid hb0
  have W0 := hid hw0
  have hs0 := hb0.size
  have HT0 := hid (hT.below hb0)
  have OF0 := hid (of15_any xs xv w0 (hx.below hb0))
  have IN0 := hid (fun (ds : List D3) (v : Value) (W : World) (h : Below w0.heap.size w0 W) (hv : RdDb W v ds) (hg : GoodD ds) (hp : 0 < ds.length) => ind15_any ds v f t ll rr lv rv W hv hg hp ((hl.below hb0).below h) ((hr.below hb0).below h))
  obtain ⟨xo, xc, rfl, -⟩ := hx.split
  obtain ⟨lo, lcap, rfl, -⟩ := hl.split
  obtain ⟨ro, rcap, rfl, -⟩ := hr.split
  generalize (f.toNat : Int) = fz at *
  generalize (t.toNat : Int) = tz at *
  have AW := hid (fun (W : World) (h : Below w0.heap.size w0 W) => awake34_any W (HT0.out.below h))
  clear hT hx hl hr hb0 hw0
  go_enter Tryz.func3, Tryz.ntmps3
  go_upto_region 1 with fail
  rw [W0.out]
  go_wp2_with fail
  refine OF0.out.mono ?_
  rintro e w1 ⟨vo, vn, vc, b, rfl, hok, hb1⟩
  have HOK := hid hok
  have D1 := hid hb1
  have hb2 := below_alloc w1 (.cells #[.slice vo vn vc] 29)
  have DX := hid (boxD w1 (.slice vo vn vc))
  obtain ⟨w2, hw2⟩ : ∃ w2 : World, w1.alloc (.cells #[.slice vo vn vc] 29) = w2 := ⟨_, rfl⟩
  rw [hw2] at hb2 DX
  have W2 := hid hw2
  have BB2 := hid hb2
  have D2 := hid (D1.out.trans (hb2.mono D1.out.size))
  obtain ⟨db, hdb⟩ : ∃ db, w1.heap.size = db := ⟨_, rfl⟩
  have HDB := hid hdb
  rw [hdb] at DX
  clear hok hb1 hb2 hw2 hdb
  go_upto_region 2 with fail
  rw [W2.out, HDB.out]
  go_wp2_with fail
  refine (AW.out _ D2.out).mono ?_
  rintro e w3 ⟨rfl, hb3⟩
  have D3 := hid (D2.out.trans (hb3.mono D2.out.size))
  have E3 := hid hb3
  have c3 := DX.out w3 hb3
  have DN0 := hid (show Below w.heap.size w w3 from B0.out.trans (D3.out.mono hs0))
  clear hb3
  cases b with
  | false =>
    go_wp2_with fail
    refine (AW.out _ D3.out).mono ?_
    rintro e w4 ⟨rfl, hb4⟩
    have QB := hid (DN0.out.trans (hb4.mono DN0.out.size))
    clear hb4
    go_wp2_with fail
    go_ret
    exact ⟨rfl, QB.out⟩
  | true =>
    obtain ⟨ds, hds, hgd⟩ := HOK.out rfl
    obtain ⟨do_, dc, hdv, -, -⟩ := hds.split
    simp only [Value.slice.injEq] at hdv
    obtain ⟨rfl, rfl, rfl⟩ := hdv
    have V2 := hid (hds.below BB2.out)
    have HG := hid hgd
    have d3 : (ds.length : Int) ≤ 3 := by have := hgd.few; omega
    clear hds hgd
    by_cases h0 : ds.length = 0
    · have dn : ((ds.length : Int) == 0) = true := by rw [h0]; rfl
      have dn2 : (ds.length : Int) = 0 := by omega
      go_wp2_with fail
      refine (AW.out _ D3.out).mono ?_
      rintro e w4 ⟨rfl, hb4⟩
      have QB := hid (DN0.out.trans (hb4.mono DN0.out.size))
      clear hb4
      go_wp2_with fail
      go_ret
      exact ⟨rfl, QB.out⟩
    · have dn : ((ds.length : Int) == 0) = false := by rw [beq_eq_false_iff_ne]; omega
      have dn2 : ¬ (ds.length : Int) = 0 := by omega
      have DPOS := hid (show 0 < ds.length by omega)
      have ALL := hid (iall_any ds (.slice vo ds.length vc) w3 (V2.out.below E3.out) HG.out)
      go_wp2_with fail
      refine ALL.out.mono ?_
      rintro e w4 ⟨av, xs2, rfl, hxs, hpm, hlen, hb4⟩
      have XR := hid hxs
      have FND := hid (show ∀ x ∈ xs2, VI ds.length (nD ds) x.2.2 ∧ hldD (rD ds) x.2.2 = true from fun x hx => allD_ok HG.out (hpm.mem_iff.1 (List.mem_map.2 ⟨x, hx, rfl⟩)))
      have PM := hid hpm
      have D4 := hid (show Below w2.heap.size w2 w4 from E3.out.trans (hb4.mono E3.out.size))
      have HOLD := hid (fun (x : I6) (hm : x ∈ xs2) (W : World) (h : Below w2.heap.size w2 W) (h1 : RdE encI W x.1 x.2.2.2.2.1) (h2 : RdE encI W x.2.1 x.2.2.2.2.2) => show Calls Tryz.prog 7 #[.agg #[.slice vo ds.length vc], .agg #[.string (nmT x.2.2.1), x.1, .string (nmT x.2.2.2.1), x.2.1]] W fun e w' => e = .returned (.tuple #[.bool true, .int .i64 0]) ∧ Below W.heap.size W w' from by
        have h9 := iholds_any ds (.slice vo ds.length vc) x.2.2 x.1 x.2.1 W (V2.out.below h) HG.out (FND.out x hm).1 h1 h2
        rw [(FND.out x hm).2] at h9
        exact h9)
      obtain ⟨so, sc, rfl, hl9, hc⟩ := hxs.split
      have HC := hid hc
      have l9 : (xs2.length : Int) ≤ 297 := by omega
      clear hb4 hxs hpm hlen hc hl9 c3 DN0
      go_upto_region 8 with fail
      go_loopw [47] (fun x wr => ∃ k : Nat, k ≤ xs2.length ∧ x = .int .i64 k ∧ Hid (Below w4.heap.size w4 wr)) (fun x _ => xs2.length - (intOf x).toNat)
      case atStart => exact ⟨0, Nat.zero_le _, rfl, hid (Below.refl _ _)⟩
      case round =>
        obtain ⟨k, hk, rfl, HB⟩ := hrel
        have k0 : (0 : Int) ≤ (k : Int) := by omega
        have DW := hid (show Below w2.heap.size w2 wr from D4.out.trans (HB.out.mono D4.out.size))
        by_cases hlk : k < xs2.length
        · have hlkI : (k : Int) < (xs2.length : Int) := by omega
          obtain ⟨xk, hxk⟩ := get_some hlk
          obtain ⟨⟨bb, off, rfl, hce⟩, hrd⟩ := HC.out k xk hxk
          obtain ⟨e0, e1, e2, e3⟩ := hce wr HB.out
          have RK := hid hrd
          have F1 := hid (HOLD.out xk (List.mem_of_getElem? hxk))
          clear hxk hce hrd
          obtain ⟨av, bv, df, dt, dl, dr⟩ := xk
          obtain ⟨ao', acap, hav, -⟩ := (RK.out _ (Below.refl _ _)).1.split
          obtain ⟨bo, bcap, hbv, -⟩ := (RK.out _ (Below.refl _ _)).2.split
          simp only at hav hbv e0 e1 e2 e3
          subst hav hbv
          have hb9 := below_alloc wr (.cells #[.string (nmT df), .slice ao' dl.length acap, .string (nmT dt), .slice bo dr.length bcap] 39)
          have CX := hid (fun W h => cells4I (w := wr) (a := .string (nmT df)) (b := .slice ao' dl.length acap) (c := .string (nmT dt)) (d := .slice bo dr.length bcap) (t := 39) W h)
          obtain ⟨w9, hw9⟩ : ∃ w9 : World, wr.alloc (.cells #[.string (nmT df), .slice ao' dl.length acap, .string (nmT dt), .slice bo dr.length bcap] 39) = w9 := ⟨_, rfl⟩
          rw [hw9] at hb9 CX
          have W9 := hid hw9
          have B9 := hid (HB.out.trans (hb9.mono HB.out.size))
          have E9 := hid (DW.out.trans (hb9.mono DW.out.size))
          have RW := hid (RK.out w9 B9.out)
          have F2 := hid (F1.out w9 E9.out RW.out.1 RW.out.2)
          obtain ⟨bx, hbx⟩ : ∃ bx, wr.heap.size = bx := ⟨_, rfl⟩
          have HBX := hid hbx
          rw [hbx] at CX
          clear hb9 hw9 hbx
          go_upto_region 10 with fail
          rw [W9.out, HBX.out]
          clear e0 e1 e2 e3
          obtain ⟨g0, g1, g2, g3⟩ := CX.out w9 (Below.refl _ _)
          have x0 := DX.out w9 E9.out
          go_wp2_with fail
          refine F2.out.mono ?_
          rintro e wz ⟨rfl, hb2⟩
          have Z2 := hid (B9.out.trans (hb2.mono B9.out.size))
          clear x0 g0 g1 g2 g3 hb2
          go_wp2_with fail
          go_roundw
          case rel => exact ⟨k + 1, by omega, by go_num, Z2⟩
          case measure => simp [intOf]; omega
        · have hlkI : ¬ (k : Int) < (xs2.length : Int) := by omega
          have D02 := hid (D2.out.trans (DW.out.mono D2.out.size))
          have x0 := DX.out wr DW.out
          obtain ⟨y0, y1, y2, y3⟩ := BX.out wr D02.out
          have IN1 := hid (IN0.out ds (.slice vo ds.length vc) wr D02.out (V2.out.below DW.out) HG.out DPOS.out)
          go_wp2_with fail
          refine IN1.out.mono ?_
          rintro e w6 ⟨g, gl, gn, gc, gr, gm, gk, rfl, hvi, hgl, hgr, hb6⟩
          obtain ⟨ga, gcap, hga, hgl9, hgc⟩ := hgl.split
          obtain ⟨ra, rcap', hra, hgr9, hgrc⟩ := hgr.split
          simp only [Value.slice.injEq] at hga hra
          obtain ⟨rfl, rfl, rfl⟩ := hga
          obtain ⟨rfl, rfl, rfl⟩ := hra
          have HGC := hid hgc
          have HRC := hid hgrc
          have HVI := hid hvi
          have G9 : (g.2.2.1.length : Int) ≤ 35184372088832 := by omega
          have hb7 := below_alloc w6 (.cells #[.string (nmT g.1), .slice gl g.2.2.1.length gc, .string (nmT g.2.1), .slice gr g.2.2.2.length gk] 39)
          have GX := hid (fun W h => cells4I (w := w6) (a := .string (nmT g.1)) (b := .slice gl g.2.2.1.length gc) (c := .string (nmT g.2.1)) (d := .slice gr g.2.2.2.length gk) (t := 39) W h)
          obtain ⟨w7, hw7⟩ : ∃ w7 : World, w6.alloc (.cells #[.string (nmT g.1), .slice gl g.2.2.1.length gc, .string (nmT g.2.1), .slice gr g.2.2.2.length gk] 39) = w7 := ⟨_, rfl⟩
          rw [hw7] at hb7 GX
          have W7 := hid hw7
          have HB7 := hid hb7
          have D7 := hid (show Below w2.heap.size w2 w7 from DW.out.trans ((hb6.trans (hb7.mono hb6.size)).mono DW.out.size))
          have X7 := hid (show Below w4.heap.size w4 w7 from HB.out.trans ((hb6.trans (hb7.mono hb6.size)).mono HB.out.size))
          have GL7 := hid (fun (W : World) (h : Below w7.heap.size w7 W) => (hgl.below hb7).below h)
          have GR7 := hid (fun (W : World) (h : Below w7.heap.size w7 W) => (hgr.below hb7).below h)
          obtain ⟨gb, hgb⟩ : ∃ gb, w6.heap.size = gb := ⟨_, rfl⟩
          have HGB := hid hgb
          rw [hgb] at GX
          clear hb6 hb7 hw7 hgb hgl hgr hgc hgrc hvi x0 y0 y1 y2 y3 hgl9 hgr9
          go_upto_region 15 with fail
          rw [W7.out, HGB.out]
          have x0 := DX.out w7 D7.out
          obtain ⟨g0, g1, g2, g3⟩ := GX.out w7 (Below.refl _ _)
          have IMP := hid (iimplies_any ds (.slice vo ds.length vc) xs2 (.slice so xs2.length sc) g (.slice gl g.2.2.1.length gc) (.slice gr g.2.2.2.length gk) w7 (V2.out.below D7.out) HG.out (XR.out.below X7.out) (fun x hx => (FND.out x hx).1) HVI.out (GL7.out w7 (Below.refl _ _)) (GR7.out w7 (Below.refl _ _)))
          go_wp2_with fail
          refine IMP.out.mono ?_
          rintro e w8 ⟨fb, rfl, himp, hall, hb8⟩
          have IMPH := hid himp
          have ALLH := hid hall
          have D8 := hid (D7.out.trans (hb8.mono D7.out.size))
          have E8 := hid hb8
          clear x0 g0 g1 g2 g3 hb8 himp hall
          have x0 := DX.out w8 D8.out
          obtain ⟨g0, g1, g2, g3⟩ := GX.out w8 E8.out
          have HO := hid (iholds_any ds (.slice vo ds.length vc) g (.slice gl g.2.2.1.length gc) (.slice gr g.2.2.2.length gk) w8 (V2.out.below D8.out) HG.out HVI.out (GL7.out w8 E8.out) (GR7.out w8 E8.out))
          have FH := hid (show fb = true → hldD (rD ds) g = true from fun h => follows_holds HG.out.db (L := xs2.map (fun x => x.2.2)) (fun d hd => by
            obtain ⟨x, hx, rfl⟩ := List.mem_map.1 hd
            exact FND.out x hx) HVI.out (IMPH.out h))
          have AH := hid (show itsB g g.2.2.1.length = false → hldD (rD ds) g = true → fb = true from fun h1 h2 => by
            obtain ⟨d, hd, h⟩ := allD_all HG.out HVI.out h2 h1
            exact ALLH.out ⟨d, PM.out.mem_iff.2 hd, h⟩)
          obtain ⟨hb, hhb⟩ : ∃ hb, hldD (rD ds) g = hb := ⟨_, rfl⟩
          rw [hhb] at HO FH AH
          clear hhb
          go_wp2_with fail
          refine HO.out.mono ?_
          rintro e w9 ⟨rfl, hb9⟩
          have E9 := hid (E8.out.trans (hb9.mono E8.out.size))
          have DN9 := hid (show Below w.heap.size w w9 from B0.out.trans ((D2.out.trans ((D8.out.trans (hb9.mono D8.out.size)).mono D2.out.size)).mono hs0))
          clear x0 g0 g1 g2 g3 hb9
          obtain ⟨g0, g1, g2, g3⟩ := GX.out w9 E9.out
          have FIN := hid (show itsB g g.2.2.1.length = false → (fb == hb) = true from fun h => by
            cases fb with
            | true => rw [FH.out rfl]; rfl
            | false =>
              cases hb with
              | false => rfl
              | true => have := AH.out h rfl; cases this)
          have i0 : ((g.2.2.1.length : Int) == 0) = itsB g 0 := by
            unfold itsB
            rw [List.take_zero, List.any_nil, Bool.and_false, Bool.or_false, Bool.eq_iff_iff, beq_iff_eq, decide_eq_true_iff]
            omega
          have HLN := hid (show g.2.2.1.length = g.2.2.2.length from HVI.out.len)
          have HF1 := hid (show g.1 < 100 ∧ g.2.1 < 100 from ⟨by have := HVI.out.f; have := HG.out.few; omega, by have := HVI.out.t; have := HG.out.few; omega⟩)
          have hfh : fb = false ∨ (fb = true ∧ hb = true) := by
            cases fb with
            | false => exact .inl rfl
            | true => exact .inr ⟨rfl, FH.out rfl⟩
          rcases hfh with rfl | ⟨rfl, rfl⟩
          · go_upto_region 21 with fail
            go_loopw [18, 100] (fun s x wr => ∃ k : Nat, k ≤ g.2.2.1.length ∧ x = .int .i64 k ∧ s = .bool (itsB g k) ∧ Hid (Below w7.heap.size w7 wr) ∧ Hid (Below w.heap.size w wr)) (fun _ x _ => g.2.2.1.length - (intOf x).toNat)
            case atStart => exact ⟨0, Nat.zero_le _, rfl, by first | rfl | rw [i0], E9, DN9⟩
            case round =>
              clear g0 g1 g2 g3
              obtain ⟨k, hk, rfl, rfl, HB2, HW2⟩ := hrel
              have k0 : (0 : Int) ≤ (k : Int) := by omega
              obtain ⟨g0, g1, g2, g3⟩ := GX.out wr HB2.out
              obtain ⟨ik, hik⟩ : ∃ ik, itsB g k = ik := ⟨_, rfl⟩
              rw [hik]
              by_cases hlk : k < g.2.2.1.length
              · have hlkI : (k : Int) < (g.2.2.1.length : Int) := by omega
                have hlkR : (k : Int) < (g.2.2.2.length : Int) := by have := HLN.out; omega
                obtain ⟨a, ha⟩ := get_some hlk
                obtain ⟨c, hc⟩ := get_some (show k < g.2.2.2.length by have := HLN.out; omega)
                have NX := hid (itsB_next ha hc)
                rw [hik] at NX
                cases ik with
                | true =>
                  have NX1 := hid (show itsB g (k + 1) = true by rw [NX.out]; rfl)
                  clear ha hc hik
                  go_upto_region 23 with fail
                  go_quiet (fail)
                  go_wp2_with fail
                  go_roundw
                  case rel => exact ⟨k + 1, by omega, by go_num, by rw [NX1.out], hid (below_drewN' HB2.out _), hid (below_drewN' HW2.out _)⟩
                  case measure => simp [intOf]; omega
                | false =>
                  by_cases hft : g.1 = g.2.1
                  · have hnq : nmT g.1 = nmT g.2.1 := by rw [hft]
                    have hq : ((nmT g.1).toList == (nmT g.2.1).toList) = true := by rw [hft]; simp
                    obtain ⟨bl, ol, hgl, hda⟩ := HGC.out k a ha
                    obtain ⟨br, orr, hgr, hdc⟩ := HRC.out k c hc
                    have e0 := hda wr (HB7.out.trans (HB2.out.mono HB7.out.size))
                    have e1 := hdc wr (HB7.out.trans (HB2.out.mono HB7.out.size))
                    unfold encI at e0 e1
                    have NX1 := hid (show itsB g (k + 1) = ((a : Int) == (c : Int)) by
                      rw [NX.out, decide_eq_true hft, Bool.false_or, Bool.true_and, Bool.eq_iff_iff, beq_iff_eq, beq_iff_eq]; omega)
                    rw [hgl] at g1
                    rw [hgr] at g3
                    clear ha hc hik hda hdc hft
                    go_upto_region 23 with fail
                    go_quiet (fail)
                    go_wp2_with fail
                    go_roundw
                    case rel => exact ⟨k + 1, by omega, by go_num, by rw [NX1.out], hid (below_drewN' HB2.out _), hid (below_drewN' HW2.out _)⟩
                    case measure => simp [intOf]; omega
                  · have hq : ((nmT g.1).toList == (nmT g.2.1).toList) = false := by
                      rw [beq_eq_false_iff_ne]
                      exact fun e => hft (nmT_inj HF1.out.1 HF1.out.2 (bytes_ext e))
                    have hq3 : ¬ (nmT g.1).toList = (nmT g.2.1).toList := beq_eq_false_iff_ne.1 hq
                    have hq4 : ¬ nmT g.1 = nmT g.2.1 := fun e => hq3 (by rw [e])
                    have NX1 := hid (show itsB g (k + 1) = false by
                      rw [NX.out, decide_eq_false hft]; rfl)
                    clear ha hc hik hft
                    go_upto_region 23 with fail
                    go_quiet (fail)
                    go_wp2_with fail
                    go_roundw
                    case rel => exact ⟨k + 1, by omega, by go_num, by rw [NX1.out], hid (below_drewN' HB2.out _), hid (below_drewN' HW2.out _)⟩
                    case measure => simp [intOf]; omega
              · have hlkI : ¬ (k : Int) < (g.2.2.1.length : Int) := by omega
                have hke : k = g.2.2.1.length := by omega
                have FIK := hid (show ik = false → (false == hb) = true from fun h => FIN.out (by rw [← hke, hik, h]))
                clear hik hke
                cases ik with
                | true =>
                  go_wp2_with fail
                  go_ret
                  exact ⟨rfl, HW2.out⟩
                | false =>
                  have FI := FIK.out rfl
                  go_wp2_with fail
                  go_ret
                  exact ⟨by simp_all, HW2.out⟩
          · go_upto_region 21 with fail
            go_loopw [18, 100] (fun s x wr => ∃ k : Nat, k ≤ g.2.2.1.length ∧ x = .int .i64 k ∧ s = .bool (itsB g k) ∧ Hid (Below w7.heap.size w7 wr) ∧ Hid (Below w.heap.size w wr)) (fun _ x _ => g.2.2.1.length - (intOf x).toNat)
            case atStart => exact ⟨0, Nat.zero_le _, rfl, by first | rfl | rw [i0], E9, DN9⟩
            case round =>
              clear g0 g1 g2 g3
              obtain ⟨k, hk, rfl, rfl, HB2, HW2⟩ := hrel
              have k0 : (0 : Int) ≤ (k : Int) := by omega
              obtain ⟨g0, g1, g2, g3⟩ := GX.out wr HB2.out
              obtain ⟨ik, hik⟩ : ∃ ik, itsB g k = ik := ⟨_, rfl⟩
              rw [hik]
              by_cases hlk : k < g.2.2.1.length
              · have hlkI : (k : Int) < (g.2.2.1.length : Int) := by omega
                have hlkR : (k : Int) < (g.2.2.2.length : Int) := by have := HLN.out; omega
                obtain ⟨a, ha⟩ := get_some hlk
                obtain ⟨c, hc⟩ := get_some (show k < g.2.2.2.length by have := HLN.out; omega)
                have NX := hid (itsB_next ha hc)
                rw [hik] at NX
                cases ik with
                | true =>
                  have NX1 := hid (show itsB g (k + 1) = true by rw [NX.out]; rfl)
                  clear ha hc hik
                  go_upto_region 23 with fail
                  go_quiet (fail)
                  go_wp2_with fail
                  go_roundw
                  case rel => exact ⟨k + 1, by omega, by go_num, by rw [NX1.out], hid (below_drewN' HB2.out _), hid (below_drewN' HW2.out _)⟩
                  case measure => simp [intOf]; omega
                | false =>
                  by_cases hft : g.1 = g.2.1
                  · have hnq : nmT g.1 = nmT g.2.1 := by rw [hft]
                    have hq : ((nmT g.1).toList == (nmT g.2.1).toList) = true := by rw [hft]; simp
                    obtain ⟨bl, ol, hgl, hda⟩ := HGC.out k a ha
                    obtain ⟨br, orr, hgr, hdc⟩ := HRC.out k c hc
                    have e0 := hda wr (HB7.out.trans (HB2.out.mono HB7.out.size))
                    have e1 := hdc wr (HB7.out.trans (HB2.out.mono HB7.out.size))
                    unfold encI at e0 e1
                    have NX1 := hid (show itsB g (k + 1) = ((a : Int) == (c : Int)) by
                      rw [NX.out, decide_eq_true hft, Bool.false_or, Bool.true_and, Bool.eq_iff_iff, beq_iff_eq, beq_iff_eq]; omega)
                    rw [hgl] at g1
                    rw [hgr] at g3
                    clear ha hc hik hda hdc hft
                    go_upto_region 23 with fail
                    go_quiet (fail)
                    go_wp2_with fail
                    go_roundw
                    case rel => exact ⟨k + 1, by omega, by go_num, by rw [NX1.out], hid (below_drewN' HB2.out _), hid (below_drewN' HW2.out _)⟩
                    case measure => simp [intOf]; omega
                  · have hq : ((nmT g.1).toList == (nmT g.2.1).toList) = false := by
                      rw [beq_eq_false_iff_ne]
                      exact fun e => hft (nmT_inj HF1.out.1 HF1.out.2 (bytes_ext e))
                    have hq3 : ¬ (nmT g.1).toList = (nmT g.2.1).toList := beq_eq_false_iff_ne.1 hq
                    have hq4 : ¬ nmT g.1 = nmT g.2.1 := fun e => hq3 (by rw [e])
                    have NX1 := hid (show itsB g (k + 1) = false by
                      rw [NX.out, decide_eq_false hft]; rfl)
                    clear ha hc hik hft
                    go_upto_region 23 with fail
                    go_quiet (fail)
                    go_wp2_with fail
                    go_roundw
                    case rel => exact ⟨k + 1, by omega, by go_num, by rw [NX1.out], hid (below_drewN' HB2.out _), hid (below_drewN' HW2.out _)⟩
                    case measure => simp [intOf]; omega
              · have hlkI : ¬ (k : Int) < (g.2.2.1.length : Int) := by omega
                have hke : k = g.2.2.1.length := by omega
                have FIK := hid (show ik = false → (true == true) = true from fun h => FIN.out (by rw [← hke, hik, h]))
                clear hik hke
                cases ik with
                | true =>
                  go_wp2_with fail
                  go_ret
                  exact ⟨rfl, HW2.out⟩
                | false =>
                  have FI := FIK.out rfl
                  go_wp2_with fail
                  go_ret
                  exact ⟨by simp_all, HW2.out⟩

end Go.Proofs.YtgahpgmagfngfaaGreatDoor


/- Drafts and links as arguments, opened to the words that the law is stated in. -/
namespace Go.Proofs.YtgahpgmagfngfaaGreatDoor
open Go.ChangeShapes Go.WideShapes Go.ChangeAt Go.RowKit Go.Deep Go.Joins
set_option linter.unusedVariables false
set_option maxRecDepth 100000
section
variable {H : Type} {en : TypeId × Value → H} {W : World} {b : Nat} {v : Value} {d : DataW H} {p : List MemPlace}
theorem arg_draft (hv : Value.okWide Tryz.prog W .any b 23 v) (h : DataW.Trod en Tryz.prog W 0 (fun _ => true) true 23 v d p) (hz : SizedD Tryz.prog 23 d) : ∃ xs : List DrR, RdDr W v xs := by
  obtain ⟨a, l, c, rfl⟩ := okWide_slice Tryz.underlying23 hv
  obtain ⟨fuel, hf⟩ := h
  obtain ⟨xs, hx, hR⟩ := argC_list cDr 3 cDr_length (fun x => RdRc W x.1 x.2.2.2) Tryz.underlying23 (by kernel_rfl) (by decide) (of_decide_eq_true (by kernel_rfl)) (fun k cs d ps hl hd hs => by
    obtain ⟨y0, y1, y2, m, hxy, _, h0, h1, h2⟩ := trod_struct3 Tryz.underlying53 hd
    match cs, hl with
    | [a0, a1, a2], _ =>
      obtain ⟨n0, e0, _, w0⟩ := DataW.trod_int Tryz.underlying5 h0
      obtain ⟨n1, e1, _, w1⟩ := DataW.trod_int Tryz.underlying5 h1
      have c5 : Tryz.prog.cellsOf 5 = 1 := by kernel_rfl
      simp [c5] at e0 e1
      have e0' : a0 = .int .u8 n0 := by simpa using e0
      have e1' : a1 = .int .u8 n1 := by simpa using e1
      simp only [Prod.mk.injEq] at hxy
      obtain ⟨rfl, _⟩ := hxy
      obtain ⟨rr, hrr, hRR⟩ := argC_list (en := en) (W := W) (v := a2) cRc 1 cRc_length (RdU W) Tryz.underlying51 (by kernel_rfl) (by decide) (of_decide_eq_true (by kernel_rfl)) (fun k cs d ps hl hd hs => by
        match cs, hl with
        | [a0], _ => exact arg_u8row Tryz.underlying24 Tryz.underlying5 (by kernel_rfl) (of_decide_eq_true (by kernel_rfl)) hd hs) (by exact h2) (hs.field Tryz.underlying53 (j := 2) rfl rfl)
      exact ⟨(a2, BitVec.ofInt 8 n0, BitVec.ofInt 8 n1, rr), by show [enc8 (BitVec.ofInt 8 n0), enc8 (BitVec.ofInt 8 n1), a2] = [a0, a1, a2]; rw [enc8_ofInt w0, enc8_ofInt w1, e0', e1'], ⟨hrr, hRR⟩⟩) hf hz
  exact ⟨xs, hx, hR⟩
theorem arg_link (hv : Value.okWide Tryz.prog W .any b 26 v) (h : DataW.Trod en Tryz.prog W 0 (fun _ => true) true 26 v d p) (hz : SizedD Tryz.prog 26 d) : ∃ (f t : U8) (ll rr : List U8) (lv rv : Value), v = .agg #[.int .u8 (f.toNat : Int), .int .u8 (t.toNat : Int), lv, rv] ∧ RdB8 W lv ll ∧ RdB8 W rv rr := by
  obtain ⟨v0, v1, v2, v3, y0, y1, y2, y3, n, rfl, rfl, _, h0, h1, h2, h3⟩ := open_agg4 Tryz.underlying26 (by kernel_rfl) (by kernel_rfl) hv h
  obtain ⟨n0, e0, _, w0⟩ := DataW.trod_int Tryz.underlying5 h0
  obtain ⟨n1, e1, _, w1⟩ := DataW.trod_int Tryz.underlying5 h1
  simp at e0 e1
  obtain ⟨b0, hb0⟩ := u8_of w0
  obtain ⟨b1, hb1⟩ := u8_of w1
  obtain ⟨r2, c2, u2⟩ := arg_u8row Tryz.underlying24 Tryz.underlying5 (by kernel_rfl) (of_decide_eq_true (by kernel_rfl)) h2 (hz.field Tryz.underlying26 (j := 2) rfl rfl)
  obtain ⟨r3, c3, u3⟩ := arg_u8row Tryz.underlying24 Tryz.underlying5 (by kernel_rfl) (of_decide_eq_true (by kernel_rfl)) h3 (hz.field Tryz.underlying26 (j := 3) rfl rfl)
  have q2 : r2.1 = v2 := by simpa [cRc] using c2
  have q3 : r3.1 = v3 := by simpa [cRc] using c3
  obtain ⟨ll, hl⟩ := RdB8.of_row u2
  obtain ⟨rr, hr⟩ := RdB8.of_row u3
  rw [q2] at hl
  rw [q3] at hr
  exact ⟨b0, b1, ll, rr, v2, v3, by rw [e0, e1, ← hb0, ← hb1]; rfl, hl, hr⟩
end

end Go.Proofs.YtgahpgmagfngfaaGreatDoor


/- What the row's list gives where three tables are laid; and a world that holds them. -/
namespace Go.Proofs.YtgahpgmagfngfaaGreatDoor
open Go.ChangeShapes Go.WideShapes Go.ChangeAt Go.RowKit

theorem tab_ofN {W : World} (h : laidMetH Tryz.prog Rows.topMinedRow.laid W) : Tab W := by
  have T : Lib.TabIs Tryz.prog W "math/bits.deBruijn32tab" .u8 (tabL.map fun n : Nat => (n : Int)) :=
    Lib.tabIs_of_head (rest := [("math/bits.deBruijn64tab", Rows.laid_math_bits_deBruijn64tab), ("internal/strconv.uint64pow10", Rows.laid_internal_strconv_uint64pow10)]) gTab gTabType Tryz.underlying245 Tryz.underlying5 cellsU8 cellsTab h
  have hc : ∀ i n : Nat, tabL[i]? = some n → W.cell? ⟨0, i, none⟩ = some (.int .u8 (n : Int)) := by
    intro i n hi
    have hl := (List.getElem?_eq_some_iff.1 hi).1
    have := T.cell gTab i (by simpa using hl)
    rw [this]
    simp [List.getD, hi]
  exact ⟨World.block_lt_of_cell? _ _ (hc 0 0 rfl), hc⟩
def litsN (d : DataW Unit) : Array Value := match d with
  | .agg l => (l.map fun x => match x with
    | .lit (.int k n) => Value.int k n
    | _ => undef).toArray
  | _ => #[]
def layN (d : DataW Unit) : Obj → Obj
  | .cells _ t frozen => .cells (litsN d) t frozen
  | o => o
noncomputable def laidWorldN (os : Os) : World :=
  { World.holding Tryz.prog os ⟨#[], #[], []⟩ with heap := (((World.holding Tryz.prog os ⟨#[], #[], []⟩).heap.modify 0 (layN Rows.laid_math_bits_deBruijn32tab)).modify 3 (layN Rows.laid_math_bits_deBruijn64tab)).modify 2 (layN Rows.laid_internal_strconv_uint64pow10) }

end Go.Proofs.YtgahpgmagfngfaaGreatDoor

