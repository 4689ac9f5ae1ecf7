/- The arguments of the laws, type by type, opened to the words that the laws are stated in. -/
import Derived.Test.YtmlbmdcmedglaaaOpen
import Derived.Test.YtmlbmdcmedglaaaProg
namespace Go.Proofs.Ytmlbmdcmedglaaa
open Go.ChangeShapes Go.WideShapes Go.ChangeAt Go.RowKit Go.Deep Go.Joins

section
variable {H : Type} {en : TypeId × Value → H} {W : World} {b : Nat} {v : Value} {d : DataW H} {p : List MemPlace}

theorem arg_int {t : TypeId} (ht : Try.prog.underlying t = some (.int .i64)) (hv : Value.okWide Try.prog W .any b t v) (h : DataW.Trod en Try.prog W 0 (fun _ => true) true t v d p) : ∃ n : Int, v = .int .i64 n ∧ -9223372036854775808 ≤ n ∧ n ≤ 9223372036854775807 := by
  obtain ⟨n, rfl, _, _, hw⟩ := open_int ht hv h
  exact ⟨n, rfl, i64_of hw⟩
theorem arg_set {t : TypeId} (ht : Try.prog.underlying t = some (.int .u32)) (hv : Value.okWide Try.prog W .any b t v) (h : DataW.Trod en Try.prog W 0 (fun _ => true) true t v d p) : ∃ s : S, v = .int .u32 (iv s) := by
  obtain ⟨n, rfl, _, _, hw⟩ := open_int ht hv h
  obtain ⟨s, hs⟩ := u32_of hw
  exact ⟨s, hs.symm⟩
theorem arg_u8 {t : TypeId} (ht : Try.prog.underlying t = some (.int .u8)) (hv : Value.okWide Try.prog W .any b t v) (h : DataW.Trod en Try.prog W 0 (fun _ => true) true t v d p) : ∃ s : U8, v = .int .u8 (s.toNat : Int) := by
  obtain ⟨n, rfl, _, _, hw⟩ := open_int ht hv h
  obtain ⟨s, hs⟩ := u8_of hw
  exact ⟨s, hs.symm⟩
theorem arg_fds (hv : Value.okWide Try.prog W .any b 22 v) (h : DataW.Trod en Try.prog W 0 (fun _ => true) true 22 v d p) : ArgC cF W v := by
  obtain ⟨a, l, c, rfl⟩ := okWide_slice Try.underlying22 hv
  obtain ⟨fuel, hf⟩ := h
  exact argC_pairs cF .u32 fd_of cF_length Try.underlying22 Try.underlying30 (by kernel_rfl) rfl rfl (by kernel_rfl) (by kernel_rfl) Try.underlying28 Try.underlying28 hf
theorem arg_fd (hv : Value.okWide Try.prog W .any b 30 v) (h : DataW.Trod en Try.prog W 0 (fun _ => true) true 30 v d p) : ∃ f : F, v = .agg #[enc f.1, enc f.2] :=
  arg_pair cF .u32 fd_of Try.underlying30 (by kernel_rfl) (by kernel_rfl) Try.underlying28 Try.underlying28 hv h
theorem arg_deps (hv : Value.okWide Try.prog W .any b 47 v) (h : DataW.Trod en Try.prog W 0 (fun _ => true) true 47 v d p) : ∃ (n : U8) (u : Value), v = .agg #[enc8 n, u] ∧ ArgC cD W u := by
  obtain ⟨v0, v1, y0, y1, n, rfl, _, _, h0, h1⟩ := open_agg2 Try.underlying47 (by kernel_rfl) (by kernel_rfl) hv h
  obtain ⟨n0, e0, _, w0⟩ := DataW.trod_int Try.underlying5 h0
  simp at e0
  obtain ⟨b0, hb⟩ := u8_of w0
  exact ⟨b0, v1, by rw [hb, e0], argC_pairs cD .u8 d8_of cD_length Try.underlying45 Try.underlying66 (by kernel_rfl) rfl rfl (by kernel_rfl) (by kernel_rfl) Try.underlying5 Try.underlying5 h1⟩
theorem arg_u8x2 (hv : Value.okWide Try.prog W .any b 48 v) (h : DataW.Trod en Try.prog W 0 (fun _ => true) true 48 v d p) : ∃ x y : U8, v = .agg #[enc8 x, enc8 y] := by
  obtain ⟨cs, rfl, hsz⟩ : ∃ cs, v = .agg cs ∧ cs.size = Try.prog.cellsOf 48 := by simp only [Value.okWide, Try.underlying48] at hv; obtain ⟨cs, h1, h2, _⟩ := hv; exact ⟨cs, h1, h2⟩
  obtain ⟨c0, c1, rfl⟩ := array2 (hsz.trans (by kernel_rfl))
  obtain ⟨fuel, hf⟩ := h
  obtain ⟨xs, m, _, _, _, hlen, hg⟩ := DataW.trod_array Try.underlying48 hf
  have hc : Try.prog.cellsOf 5 = 1 := by kernel_rfl
  match xs, hlen with
  | [y0, y1], _ =>
    have g0 := hg 0 (by omega)
    have g1 := hg 1 (by omega)
    simp [hc, Value.cells] at g0 g1
    obtain ⟨n0, e0, _, w0⟩ := DataW.trod_int Try.underlying5 g0
    obtain ⟨n1, e1, _, w1⟩ := DataW.trod_int Try.underlying5 g1
    simp at e0 e1
    obtain ⟨b0, hb0⟩ := u8_of w0
    obtain ⟨b1, hb1⟩ := u8_of w1
    exact ⟨b0, b1, by rw [hb0, hb1, e0, e1]⟩
end

end Go.Proofs.Ytmlbmdcmedglaaa
