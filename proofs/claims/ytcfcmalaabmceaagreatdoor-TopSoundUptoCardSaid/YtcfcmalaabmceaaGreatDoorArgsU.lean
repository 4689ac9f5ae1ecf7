/- The arguments of the laws whose inputs are bounded, type by type: with the sizes that the bound gives. -/
import Derived.Test.YtcfcmalaabmceaaGreatDoorArgs
import Derived.Test.YtcfcmalaabmceaaGreatDoorRows
namespace Go.Proofs.YtcfcmalaabmceaaGreatDoor
open Go.ChangeShapes Go.WideShapes Go.ChangeAt Go.RowKit Go.Deep Go.Joins

set_option maxRecDepth 100000
section
variable {H : Type} {en : TypeId × Value → H} {W : World} {b : Nat} {v : Value} {d : DataW H} {p : List MemPlace}

theorem bulk_one (d : DataW H) : 1 ≤ Rows.uptoBulk d := by
  cases d with
  | lit l => cases l <;> simp [Rows.uptoBulk]
  | nil => simp [Rows.uptoBulk]
  | ptr d => simp [Rows.uptoBulk]
  | slice elems spare => simp [Rows.uptoBulk]
  | agg parts => simp [Rows.uptoBulk]
  | iface t d => simp [Rows.uptoBulk]
  | map entries => simp [Rows.uptoBulk]
  | held h => simp [Rows.uptoBulk]
theorem bulk_length (l : List (DataW H)) : l.length ≤ Rows.uptoBulkAll l := by
  induction l with
  | nil => simp [Rows.uptoBulkAll]
  | cons x r ih => have := bulk_one x; simp only [Rows.uptoBulkAll, List.length_cons]; omega
theorem bulk_slice {d : DataW H} {len : Nat} (h : LenD d len) : len ≤ Rows.uptoBulk d := by
  rcases h with ⟨rfl, rfl⟩ | ⟨es, sp, rfl, rfl⟩
  · omega
  · have := bulk_length es
    simp only [Rows.uptoBulk]; omega
theorem bulk_agg2 (x y : DataW H) : Rows.uptoBulk x + Rows.uptoBulk y ≤ Rows.uptoBulk (.agg [x, y]) := by
  simp only [Rows.uptoBulk, Rows.uptoBulkAll]; omega
theorem bulk_bound {ds : List (DataW H)} (hk : Rows.uptoSmall H ds = true) : Rows.uptoBulkAll ds ≤ 1048576 := by
  have := of_decide_eq_true hk
  exact this
theorem bulk_part {d : DataW H} {l : List (DataW H)} (h : d ∈ l) : Rows.uptoBulk d ≤ Rows.uptoBulkAll l := by
  induction l with
  | nil => cases h
  | cons x r ih =>
    simp only [Rows.uptoBulkAll]
    rcases List.mem_cons.1 h with e | e
    · subst e; omega
    · have := ih e; omega
theorem size_slice {P : Program} {fuel : Nat} {t e : TypeId} {x : DataW H × List MemPlace} {B : Nat} (ht : P.underlying t = some (.slice e)) (h : DataW.trod en P W 0 (fun _ => true) true fuel t [v] = some x) (hb : Rows.uptoBulk x.1 ≤ B) : SizeLe v B := by
  rintro ao len cap rfl
  exact Nat.le_trans (bulk_slice (slice_len ht h)) hb
theorem arg_deps_size (hv : Value.okWide Tryz.prog W .any b 27 v) (h : DataW.Trod en Tryz.prog W 0 (fun _ => true) true 27 v d p) {B : Nat} (hb : Rows.uptoBulk d ≤ B) : ∃ (n : U8) (u : Value), v = .agg #[enc8 n, u] ∧ ArgC cD W u ∧ SizeLe u B := by
  obtain ⟨v0, v1, y0, y1, n, rfl, rfl, _, h0, h1⟩ := open_agg2 Tryz.underlying27 (by kernel_rfl) (by kernel_rfl) hv h
  obtain ⟨n0, e0, _, w0⟩ := DataW.trod_int Tryz.underlying5 h0
  simp at e0
  obtain ⟨b0, hb0⟩ := u8_of w0
  have h2 := bulk_agg2 y0.1 y1.1
  exact ⟨b0, v1, by rw [hb0, e0], argC_pairs cD .u8 d8_of cD_length Tryz.underlying25 Tryz.underlying31 (by kernel_rfl) rfl rfl (by kernel_rfl) (by kernel_rfl) Tryz.underlying5 Tryz.underlying5 h1,
    size_slice Tryz.underlying25 h1 (by omega)⟩
theorem arg_u8s_size (hv : Value.okWide Tryz.prog W .any b 92 v) (h : DataW.Trod en Tryz.prog W 0 (fun _ => true) true 92 v d p) {B : Nat} (hb : Rows.uptoBulk d ≤ B) : ArgL enc8 W v ∧ SizeLe v B := by
  obtain ⟨a, l, c, rfl⟩ := okWide_slice Tryz.underlying92 hv
  obtain ⟨fuel, hf⟩ := h
  exact ⟨argL_ints enc8 .u8 (fun n hn => u8_of hn) Tryz.underlying92 Tryz.underlying5 (by kernel_rfl) hf, size_slice Tryz.underlying92 hf hb⟩
theorem open_nest {P : Program} {r : Reach} {b0 : Nat} {t : TypeId} {f0 f1 g0 g1 : Field} (hs : P.underlying t = some (.struct #[f0, f1])) (hs0 : P.underlying f0.type = some (.struct #[g0, g1])) (hC : P.cellsOf t = 3)
    (o0 : f0.offset = 0) (o1 : f1.offset = 2) (c0 : P.cellsOf f0.type = 2) (c1 : P.cellsOf f1.type = 1) (p0 : g0.offset = 0) (p1 : g1.offset = 1) (k0 : P.cellsOf g0.type = 1) (k1 : P.cellsOf g1.type = 1)
    (hv : Value.okWide P W r b0 t v) (h : DataW.Trod en P W 0 (fun _ => true) true t v d p) :
    ∃ (v0 v1 v2 : Value) (y0 y1 y2 : DataW H × List MemPlace) (n m : Nat), v = .agg #[v0, v1, v2] ∧ d = .agg [.agg [y0.1, y1.1], y2.1] ∧
      DataW.trod en P W 0 (fun _ => true) true m g0.type [v0] = some y0 ∧ DataW.trod en P W 0 (fun _ => true) true m g1.type [v1] = some y1 ∧ DataW.trod en P W 0 (fun _ => true) true n f1.type [v2] = some y2 := by
  obtain ⟨cs, rfl, hsz⟩ := okWide_struct hs hv
  obtain ⟨a0, a1, a2, rfl⟩ := array3 (hsz.trans hC)
  obtain ⟨fuel, hf⟩ := h
  obtain ⟨y, y2, n, hx, _, h0, h1⟩ := trod_struct2 hs hf
  rw [o0, c0] at h0
  rw [o1, c1] at h1
  have e0 : ((Value.agg #[a0, a1, a2]).cells.toList.drop 0).take 2 = [a0, a1] := rfl
  have e1 : ((Value.agg #[a0, a1, a2]).cells.toList.drop 2).take 1 = [a2] := rfl
  obtain ⟨y0, y1, m, hy, _, h2, h3⟩ := trod_struct2 hs0 h0
  simp only [Prod.mk.injEq] at hx
  subst hy
  exact ⟨a0, a1, a2, y0, y1, y2, n, m, rfl, hx.1, by simpa [Value.cells, p0, k0] using h2, by simpa [Value.cells, p1, k1] using h3, by simpa [Value.cells] using h1⟩
theorem arg_mixed_size (hv : Value.okWide Tryz.prog W .any b 29 v) (h : DataW.Trod en Tryz.prog W 0 (fun _ => true) true 29 v d p) {B : Nat} (hb : Rows.uptoBulk d ≤ B) : ∃ (n : U8) (u u2 : Value), v = .agg #[enc8 n, u, u2] ∧ ArgC cD W u ∧ SizeLe u B ∧ ArgC cD W u2 ∧ SizeLe u2 B := by
  obtain ⟨v0, v1, v2, y0, y1, y2, n, m, rfl, rfl, h0, h1, h2⟩ := open_nest Tryz.underlying29 Tryz.underlying27 (by kernel_rfl) rfl rfl (by kernel_rfl) (by kernel_rfl) rfl rfl (by kernel_rfl) (by kernel_rfl) hv h
  obtain ⟨n0, e0, _, w0⟩ := DataW.trod_int Tryz.underlying5 h0
  simp at e0
  obtain ⟨b0, hb0⟩ := u8_of w0
  have q1 := bulk_agg2 (.agg [y0.1, y1.1]) y2.1
  have q2 := bulk_agg2 y0.1 y1.1
  exact ⟨b0, v1, v2, by rw [hb0, e0], argC_pairs cD .u8 d8_of cD_length Tryz.underlying25 Tryz.underlying31 (by kernel_rfl) rfl rfl (by kernel_rfl) (by kernel_rfl) Tryz.underlying5 Tryz.underlying5 h1,
    size_slice Tryz.underlying25 h1 (by omega), argC_pairs cD .u8 d8_of cD_length Tryz.underlying25 Tryz.underlying31 (by kernel_rfl) rfl rfl (by kernel_rfl) (by kernel_rfl) Tryz.underlying5 Tryz.underlying5 h2,
    size_slice Tryz.underlying25 h2 (by omega)⟩
end

end Go.Proofs.YtcfcmalaabmceaaGreatDoor
