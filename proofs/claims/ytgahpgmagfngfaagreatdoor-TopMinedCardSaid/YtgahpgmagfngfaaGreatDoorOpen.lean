/- Arguments of each shape, opened to the words that the laws are stated in. -/
import Derived.Test.YtgahpgmagfngfaaGreatDoorCells
import Derived.OpenShut
import Derived.Deep.SlicePairs
import Derived.Lib.SmallJoins
namespace Go.Proofs.YtgahpgmagfngfaaGreatDoor
open Go.ChangeShapes Go.WideShapes Go.ChangeAt Go.RowKit Go.Deep Go.Joins

/-- A small number. -/
abbrev U8 := BitVec 8
def enc8 (b : U8) : Value := .int .u8 (b.toNat : Int)
theorem u8_of {n : Int} (hw : (Lit.int .u8 n).wf = true) : ∃ b : U8, enc8 b = .int .u8 n := by
  simp [Lit.wf, IntKind.min, IntKind.max, IntKind.signed, IntKind.bits] at hw
  refine ⟨BitVec.ofInt 8 n, ?_⟩
  unfold enc8
  have : ((BitVec.ofInt 8 n).toNat : Int) = n := by simp [BitVec.toNat_ofInt]; omega
  rw [this]
theorem u32_of {n : Int} (hw : (Lit.int .u32 n).wf = true) : ∃ s : S, enc s = .int .u32 n := by
  simp [Lit.wf, IntKind.min, IntKind.max, IntKind.signed, IntKind.bits] at hw
  exact ⟨BitVec.ofInt 32 n, by unfold enc; rw [iv_ofInt n (by omega) (by omega)]⟩
theorem i64_of {n : Int} (hw : (Lit.int .i64 n).wf = true) : -9223372036854775808 ≤ n ∧ n ≤ 9223372036854775807 := by
  simp [Lit.wf, IntKind.min, IntKind.max, IntKind.signed, IntKind.bits] at hw
  omega

def ArgL {α : Type} (f : α → Value) (w : World) (v : Value) : Prop := ∃ ao len cap, v = .slice ao len cap ∧ (len ≤ 35184372088832 → ∃ xs : List α, xs.length = len ∧ RdE f w v xs)
def ArgC {α : Type} (c : α → List Value) (w : World) (v : Value) : Prop := ∃ ao len cap, v = .slice ao len cap ∧ (len ≤ 35184372088832 → ∃ xs : List α, xs.length = len ∧ RdC c w v xs)

section
variable {H : Type} {en : TypeId × Value → H} {P : Program} {W : World} {fuel : Nat} {t e : TypeId} {v : Value} {x : DataW H × List MemPlace}

theorem argL_ints {α : Type} [Inhabited α] (f : α → Value) (k : IntKind) (hf : ∀ n : Int, (Lit.int k n).wf = true → ∃ y : α, f y = .int k n)
    (ht : P.underlying t = some (.slice e)) (he : P.underlying e = some (.int k)) (hc : P.cellsOf e = 1) (h : DataW.trod en P W 0 (fun _ => true) true fuel t [v] = some x) : ArgL f W v := by
  rcases open_ints ht he hc h with ⟨hcs, _⟩ | ⟨a, len, cap, zs, hcs, _, hl, hm, hz, _, hcell, hwz⟩
  · simp at hcs; subst hcs
    exact ⟨none, 0, 0, rfl, fun hl => ⟨[], rfl, none, 0, rfl, Nat.le_refl _, by simp, fun h => absurd h (by simp)⟩⟩
  · simp at hcs; subst hcs
    refine ⟨some a, len, cap, rfl, fun hb => ?_⟩
    simp at hz
    have hex : ∀ n : Int, ∃ y : α, n ∈ zs → f y = .int k n := fun n => by
      by_cases hn : n ∈ zs
      · obtain ⟨y, hy⟩ := hf n (hwz n hn); exact ⟨y, fun _ => hy⟩
      · exact ⟨default, fun h => absurd h hn⟩
    obtain ⟨b, off, spot⟩ := a
    refine ⟨(zs.take len).map fun n => Classical.choose (hex n), by simp; omega, some ⟨b, off, spot⟩, cap, by simp; omega, by simp; omega, by simp; omega, fun hp => ?_⟩
    have hp0 : 0 < zs.length := by simp at hp; omega
    have hspot : spot = none := by simpa [Addr.add] using World.cell?_spot (hcell 0 hp0)
    subst hspot
    have hc' : ∀ j, j < zs.length → W.cell? ⟨b, off + j, none⟩ = some (.int k (zs.getD j 0)) := fun j hj => by
      have := hcell j hj
      rwa [Addr.add_lit] at this
    refine ⟨b, off, rfl, World.block_lt_of_cell? W _ (hc' 0 hp0), fun i y hy => ?_⟩
    rw [List.getElem?_map, Option.map_eq_some_iff] at hy
    obtain ⟨n, hn, rfl⟩ := hy
    have hi : i < len := by
      have := (List.getElem?_eq_some_iff.1 hn).1
      simp at this; omega
    rw [List.getElem?_take_of_lt hi] at hn
    have hi2 : i < zs.length := (List.getElem?_eq_some_iff.1 hn).1
    have hg : zs.getD i 0 = n := by simp [List.getD, hn]
    rw [hc' i hi2, hg, Classical.choose_spec (hex n) (List.mem_of_getElem? hn)]

theorem argC_pairs {α : Type} [Inhabited α] (c : α → List Value) (k : IntKind) (hf : ∀ m n : Int, (Lit.int k m).wf = true → (Lit.int k n).wf = true → ∃ y : α, c y = [.int k m, .int k n]) (hc2 : ∀ y, (c y).length = 2)
    {f0 f1 : Field} (ht : P.underlying t = some (.slice e)) (he : P.underlying e = some (.struct #[f0, f1]))
    (ce : P.cellsOf e = 2) (o0 : f0.offset = 0) (o1 : f1.offset = 1) (c0 : P.cellsOf f0.type = 1) (c1 : P.cellsOf f1.type = 1) (u0 : P.underlying f0.type = some (.int k)) (u1 : P.underlying f1.type = some (.int k))
    (h : DataW.trod en P W 0 (fun _ => true) true fuel t [v] = some x) : ArgC c W v := by
  rcases open_slice_pairs ht he ce o0 o1 c0 c1 h with ⟨hcs, _⟩ | ⟨a, len, cap, m, n, V0, V1, D0, D1, P0, P1, hcs, _, hl, hm, hmm, _, hel⟩
  · simp at hcs; subst hcs
    exact ⟨none, 0, 0, rfl, fun hl => ⟨[], rfl, none, 0, rfl, Nat.le_refl _, by simp, fun h => absurd h (by simp)⟩⟩
  · simp at hcs; subst hcs
    simp at hmm; obtain rfl : cap = m := hmm.symm
    refine ⟨some a, len, cap, rfl, fun hb => ?_⟩
    have hex : ∀ i : Nat, ∃ y : α, i < cap → c y = [V0 i, V1 i] := fun i => by
      by_cases hi : i < cap
      · obtain ⟨_, _, h0, h1⟩ := hel i hi
        obtain ⟨n0, e0, _, w0⟩ := DataW.trod_int u0 h0
        obtain ⟨n1, e1, _, w1⟩ := DataW.trod_int u1 h1
        simp at e0 e1
        obtain ⟨y, hy⟩ := hf n0 n1 w0 w1
        exact ⟨y, fun _ => by rw [hy, e0, e1]⟩
      · exact ⟨default, fun h => absurd h hi⟩
    obtain ⟨b, off, spot⟩ := a
    refine ⟨(List.range len).map fun i => Classical.choose (hex i), by simp, some ⟨b, off, spot⟩, cap, by simp, by simp; omega, by simp; omega, fun hp => ?_⟩
    have hp0 : 0 < cap := by simp at hp; omega
    have hspot : spot = none := by simpa [Addr.add] using World.cell?_spot (hel 0 hp0).1
    subst hspot
    refine ⟨b, off, rfl, by have := World.block_lt_of_cell? W _ (hel 0 hp0).1; simpa [Addr.add] using this, fun j u hu => ?_⟩
    have hj : j < len * 2 := by
      have := (List.getElem?_eq_some_iff.1 hu).1
      rw [flat_length hc2] at this; simpa using this
    obtain ⟨i, r, hi, hr, rfl⟩ : ∃ i r, i < len ∧ r < 2 ∧ j = i * 2 + r := ⟨j / 2, j % 2, by omega, by omega, by omega⟩
    have hx : ((List.range len).map fun i => Classical.choose (hex i))[i]? = some (Classical.choose (hex i)) := by
      rw [List.getElem?_map, List.getElem?_range hi]; rfl
    have hcc := Classical.choose_spec (hex i) (by omega)
    obtain ⟨e0, e1, _, _⟩ := hel i (by omega)
    rw [Addr.add_lit] at e0 e1
    rcases (show r = 0 ∨ r = 1 by omega) with rfl | rfl
    · rw [flat_at hc2 _ i _ 0 (V0 i) hx (by rw [hcc]; rfl)] at hu
      rw [← hu, ← e0]; rfl
    · rw [flat_at hc2 _ i _ 1 (V1 i) hx (by rw [hcc]; rfl)] at hu
      rw [← hu, ← e1]

theorem arg_pair {α : Type} (c : α → List Value) (k : IntKind) (hf : ∀ m n : Int, (Lit.int k m).wf = true → (Lit.int k n).wf = true → ∃ y : α, c y = [.int k m, .int k n])
    {f0 f1 : Field} {b0 : Nat} {d : DataW H} {p : List MemPlace} (hs : P.underlying t = some (.struct #[f0, f1])) (hone : oneCellFields P #[f0, f1] = true) (hC : P.cellsOf t = 2) (u0 : P.underlying f0.type = some (.int k)) (u1 : P.underlying f1.type = some (.int k))
    (hv : Value.okWide P W .any b0 t v) (h : DataW.Trod en P W 0 (fun _ => true) true t v d p) : ∃ y : α, v = .agg (c y).toArray := by
  obtain ⟨v0, v1, y0, y1, n, rfl, _, _, h0, h1⟩ := open_agg2 hs hone hC hv h
  obtain ⟨n0, e0, _, w0⟩ := DataW.trod_int u0 h0
  obtain ⟨n1, e1, _, w1⟩ := DataW.trod_int u1 h1
  simp at e0 e1
  obtain ⟨y, hy⟩ := hf n0 n1 w0 w1
  exact ⟨y, by rw [hy, e0, e1]⟩
end

/-- A slice of so many elements at the most. -/
def SizeLe (v : Value) (B : Nat) : Prop := ∀ ao len cap, v = .slice ao len cap → len ≤ B
/-- How many elements the datum of a slice has. -/
def LenD {H : Type} (d : DataW H) (len : Nat) : Prop := (d = .nil ∧ len = 0) ∨ ∃ es sp, d = .slice es sp ∧ es.length = len
theorem slice_len {H : Type} {en : TypeId × Value → H} {P : Program} {W : World} {fuel : Nat} {t e : TypeId} {ao : Option Addr} {len cap : Nat} {x : DataW H × List MemPlace}
    (ht : P.underlying t = some (.slice e)) (h : DataW.trod en P W 0 (fun _ => true) true fuel t [.slice ao len cap] = some x) : LenD x.1 len := by
  rcases open_slice ht h with ⟨hcs, rfl⟩ | ⟨a, len', cap', m, n, D, Pl, hcs, _, _, _, _, rfl, _⟩
  · simp at hcs; exact .inl ⟨rfl, hcs.2.1⟩
  · simp at hcs; exact .inr ⟨_, _, rfl, by simp; exact hcs.2.1.symm⟩

/-- A pair of small numbers. -/
abbrev D8 := U8 × U8
def cD (d : D8) : List Value := [enc8 d.1, enc8 d.2]
theorem cD_length (d : D8) : (cD d).length = 2 := rfl
abbrev RdD (w : World) (v : Value) (xs : List D8) : Prop := RdC cD w v xs
theorem fd_of (m n : Int) (h0 : (Lit.int .u32 m).wf = true) (h1 : (Lit.int .u32 n).wf = true) : ∃ y : F, cF y = [.int .u32 m, .int .u32 n] := by
  obtain ⟨a, ha⟩ := u32_of h0
  obtain ⟨b, hb⟩ := u32_of h1
  exact ⟨(a, b), by rw [← ha, ← hb]; rfl⟩
theorem d8_of (m n : Int) (h0 : (Lit.int .u8 m).wf = true) (h1 : (Lit.int .u8 n).wf = true) : ∃ y : D8, cD y = [.int .u8 m, .int .u8 n] := by
  obtain ⟨a, ha⟩ := u8_of h0
  obtain ⟨b, hb⟩ := u8_of h1
  exact ⟨(a, b), by rw [← ha, ← hb]; rfl⟩

end Go.Proofs.YtgahpgmagfngfaaGreatDoor
