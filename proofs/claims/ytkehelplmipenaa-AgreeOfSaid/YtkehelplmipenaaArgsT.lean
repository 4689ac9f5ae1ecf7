/- Tables as arguments, opened to the words that the laws are stated in. -/
import Derived.Test.YtkehelplmipenaaOpen2
import Derived.Test.YtkehelplmipenaaArgs
namespace Go.Proofs.Ytkehelplmipenaa
open Go.ChangeShapes Go.WideShapes Go.ChangeAt Go.RowKit Go.Deep Go.Joins

set_option maxRecDepth 100000
section
variable {H : Type} {en : TypeId × Value → H} {W : World} {b : Nat} {v : Value} {d : DataW H} {p : List MemPlace}
theorem arg_table (hv : Value.okWide Try.prog W .any b 25 v) (h : DataW.Trod en Try.prog W 0 (fun _ => true) true 25 v d p) (hz : SizedD Try.prog 25 d) : ∃ (t : T3) (av rv : Value), v = .agg #[.string t.1, av, rv] ∧ RdT W av rv t := by
  obtain ⟨v0, v1, v2, y0, y1, y2, n, rfl, rfl, _, h0, h1, h2⟩ := open_agg3 Try.underlying25 (by kernel_rfl) (by kernel_rfl) hv h
  obtain ⟨s, e0, _⟩ := DataW.trod_string Try.underlying9 h0
  simp at e0
  obtain ⟨ats, ha⟩ := arg_texts Try.underlying22 Try.underlying9 (by kernel_rfl) (of_decide_eq_true (by kernel_rfl)) h1 (hz.field Try.underlying25 (j := 1) rfl rfl)
  obtain ⟨rs, hr⟩ := arg_rows Try.underlying23 Try.underlying67 (by kernel_rfl) (of_decide_eq_true (by kernel_rfl)) rfl rfl (by kernel_rfl) (by kernel_rfl) Try.underlying2
    Try.underlying65 Try.underlying64 (by kernel_rfl) (of_decide_eq_true (by kernel_rfl)) rfl rfl rfl (by kernel_rfl) (by kernel_rfl) (by kernel_rfl) Try.underlying3 Try.underlying2 Try.underlying9 h2 (hz.field Try.underlying25 (j := 2) rfl rfl)
  exact ⟨(s, ats, rs), v1, v2, by rw [e0], ha, hr⟩
end

end Go.Proofs.Ytkehelplmipenaa
