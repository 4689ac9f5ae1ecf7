/- The arguments of the laws whose inputs are bounded, type by type: with the sizes that the bound gives. -/
import Derived.Test.YtcfcmalaabmceaaDoorArgs
import Derived.Test.YtcfcmalaabmceaaDoorRows
namespace Go.Proofs.YtcfcmalaabmceaaDoor
open Go.ChangeShapes Go.WideShapes Go.ChangeAt Go.RowKit Go.Deep Go.Joins

set_option maxRecDepth 100000
section
variable {H : Type} {en : TypeId × Value → H} {W : World} {b : Nat} {v : Value} {d : DataW H} {p : List MemPlace}

theorem bulk_one (d : DataW H) : 1 ≤ Rows.uptoBulk d := by
  cases d with
  | lit l => cases l <;> simp [Rows.uptoBulk]
  | nil => simp [Rows.uptoBulk]
  | ptr d => simp [Rows.uptoBulk]
  | slice elems spare => simp [Rows.uptoBulk]
  | agg parts => simp [Rows.uptoBulk]
  | iface t d => simp [Rows.uptoBulk]
  | map entries => simp [Rows.uptoBulk]
  | held h => simp [Rows.uptoBulk]
theorem bulk_length (l : List (DataW H)) : l.length ≤ Rows.uptoBulkAll l := by
  induction l with
  | nil => simp [Rows.uptoBulkAll]
  | cons x r ih => have := bulk_one x; simp only [Rows.uptoBulkAll, List.length_cons]; omega
theorem bulk_slice {d : DataW H} {len : Nat} (h : LenD d len) : len ≤ Rows.uptoBulk d := by
  rcases h with ⟨rfl, rfl⟩ | ⟨es, sp, rfl, rfl⟩
  · omega
  · have := bulk_length es
    simp only [Rows.uptoBulk]; omega
theorem bulk_agg2 (x y : DataW H) : Rows.uptoBulk x + Rows.uptoBulk y ≤ Rows.uptoBulk (.agg [x, y]) := by
  simp only [Rows.uptoBulk, Rows.uptoBulkAll]; omega
theorem bulk_bound {ds : List (DataW H)} (hk : Rows.uptoSmall H ds = true) : Rows.uptoBulkAll ds ≤ 1048576 := by
  have := of_decide_eq_true hk
  exact this
theorem bulk_part {d : DataW H} {l : List (DataW H)} (h : d ∈ l) : Rows.uptoBulk d ≤ Rows.uptoBulkAll l := by
  induction l with
  | nil => cases h
  | cons x r ih =>
    simp only [Rows.uptoBulkAll]
    rcases List.mem_cons.1 h with e | e
    · subst e; omega
    · have := ih e; omega
theorem size_slice {P : Program} {fuel : Nat} {t e : TypeId} {x : DataW H × List MemPlace} {B : Nat} (ht : P.underlying t = some (.slice e)) (h : DataW.trod en P W 0 (fun _ => true) true fuel t [v] = some x) (hb : Rows.uptoBulk x.1 ≤ B) : SizeLe v B := by
  rintro ao len cap rfl
  exact Nat.le_trans (bulk_slice (slice_len ht h)) hb
theorem arg_deps_size (hv : Value.okWide Tryd.prog W .any b 24 v) (h : DataW.Trod en Tryd.prog W 0 (fun _ => true) true 24 v d p) {B : Nat} (hb : Rows.uptoBulk d ≤ B) : ∃ (n : U8) (u : Value), v = .agg #[enc8 n, u] ∧ ArgC cD W u ∧ SizeLe u B := by
  obtain ⟨v0, v1, y0, y1, n, rfl, rfl, _, h0, h1⟩ := open_agg2 Tryd.underlying24 (by kernel_rfl) (by kernel_rfl) hv h
  obtain ⟨n0, e0, _, w0⟩ := DataW.trod_int Tryd.underlying5 h0
  simp at e0
  obtain ⟨b0, hb0⟩ := u8_of w0
  have h2 := bulk_agg2 y0.1 y1.1
  exact ⟨b0, v1, by rw [hb0, e0], argC_pairs cD .u8 d8_of cD_length Tryd.underlying22 Tryd.underlying26 (by kernel_rfl) rfl rfl (by kernel_rfl) (by kernel_rfl) Tryd.underlying5 Tryd.underlying5 h1,
    size_slice Tryd.underlying22 h1 (by omega)⟩
theorem arg_u8s_size (hv : Value.okWide Tryd.prog W .any b 109 v) (h : DataW.Trod en Tryd.prog W 0 (fun _ => true) true 109 v d p) {B : Nat} (hb : Rows.uptoBulk d ≤ B) : ArgL enc8 W v ∧ SizeLe v B := by
  obtain ⟨a, l, c, rfl⟩ := okWide_slice Tryd.underlying109 hv
  obtain ⟨fuel, hf⟩ := h
  exact ⟨argL_ints enc8 .u8 (fun n hn => u8_of hn) Tryd.underlying109 Tryd.underlying5 (by kernel_rfl) hf, size_slice Tryd.underlying109 hf hb⟩
end

end Go.Proofs.YtcfcmalaabmceaaDoor
