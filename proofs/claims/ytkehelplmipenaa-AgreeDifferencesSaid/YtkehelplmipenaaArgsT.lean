/- Tables as arguments, opened to the words that the laws are stated in. -/
import Derived.Test.YtkehelplmipenaaOpen2
import Derived.Test.YtkehelplmipenaaArgs
import Derived.Test.YtkehelplmipenaaTab14
namespace Go.Proofs.Ytkehelplmipenaa
open Go.ChangeShapes Go.WideShapes Go.ChangeAt Go.RowKit Go.Deep Go.Joins

set_option maxRecDepth 100000
section
variable {H : Type} {en : TypeId × Value → H} {W : World} {b : Nat} {v : Value} {d : DataW H} {p : List MemPlace}
theorem arg_table (hv : Value.okWide Try.prog W .any b 25 v) (h : DataW.Trod en Try.prog W 0 (fun _ => true) true 25 v d p) (hz : SizedD Try.prog 25 d) : ∃ (t : T3) (av rv : Value), v = .agg #[.string t.1, av, rv] ∧ RdT W av rv t := by
  obtain ⟨v0, v1, v2, y0, y1, y2, n, rfl, rfl, _, h0, h1, h2⟩ := open_agg3 Try.underlying25 (by kernel_rfl) (by kernel_rfl) hv h
  obtain ⟨s, e0, _⟩ := DataW.trod_string Try.underlying9 h0
  simp at e0
  obtain ⟨ats, ha⟩ := arg_texts Try.underlying22 Try.underlying9 (by kernel_rfl) (of_decide_eq_true (by kernel_rfl)) h1 (hz.field Try.underlying25 (j := 1) rfl rfl)
  obtain ⟨rs, hr⟩ := arg_rows Try.underlying23 Try.underlying67 (by kernel_rfl) (of_decide_eq_true (by kernel_rfl)) rfl rfl (by kernel_rfl) (by kernel_rfl) Try.underlying2
    Try.underlying65 Try.underlying64 (by kernel_rfl) (of_decide_eq_true (by kernel_rfl)) rfl rfl rfl (by kernel_rfl) (by kernel_rfl) (by kernel_rfl) Try.underlying3 Try.underlying2 Try.underlying9 h2 (hz.field Try.underlying25 (j := 2) rfl rfl)
  exact ⟨(s, ats, rs), v1, v2, by rw [e0], ha, hr⟩
theorem arg_counted (hv : Value.okWide Try.prog W .any b 28 v) (h : DataW.Trod en Try.prog W 0 (fun _ => true) true 28 v d p) (hz : SizedD Try.prog 28 d) : ∃ l : List C2, RdCt W v l := by
  obtain ⟨a, l, c, rfl⟩ := okWide_slice Try.underlying28 hv
  obtain ⟨fuel, hf⟩ := h
  obtain ⟨xs, hx, _⟩ := argC_list cC 2 cC_length (fun _ => True) Try.underlying28 (by kernel_rfl) (by decide) (of_decide_eq_true (by kernel_rfl)) (fun k cs d ps hl hd _ => by
    obtain ⟨y0, y1, m, hxy, _, h0, h1⟩ := trod_struct2 Try.underlying35 hd
    match cs, hl with
    | [a0, a1], _ =>
      obtain ⟨n0, e0, _, w0⟩ := DataW.trod_int Try.underlying33 h0
      obtain ⟨n1, e1, _⟩ := DataW.trod_int Try.underlying2 h1
      obtain ⟨s, hs⟩ := u32_of w0
      have c0 : Try.prog.cellsOf 33 = 1 := by kernel_rfl
      have c1 : Try.prog.cellsOf 2 = 1 := by kernel_rfl
      simp [c0, c1] at e0 e1
      exact ⟨(s, n1), by rw [e0, e1, ← hs]; rfl, trivial⟩) hf hz
  exact ⟨xs, hx⟩
end

end Go.Proofs.Ytkehelplmipenaa
