/- Tables as arguments, opened to the words that the laws are stated in. -/
import Derived.Test.YtkbegpnchamgkaaDoorOpen2
import Derived.Test.YtkbegpnchamgkaaDoorArgs
import Derived.Test.YtkbegpnchamgkaaDoorGTab14
namespace Go.Proofs.YtkbegpnchamgkaaDoor
open Go.ChangeShapes Go.WideShapes Go.ChangeAt Go.RowKit Go.Deep Go.Joins

set_option maxRecDepth 100000
section
variable {H : Type} {en : TypeId × Value → H} {W : World} {b : Nat} {v : Value} {d : DataW H} {p : List MemPlace}
theorem arg_table (hv : Value.okWide Tryd.prog W .any b 28 v) (h : DataW.Trod en Tryd.prog W 0 (fun _ => true) true 28 v d p) (hz : SizedD Tryd.prog 28 d) : ∃ (t : T3) (av rv : Value), v = .agg #[.string t.1, av, rv] ∧ RdT W av rv t ∧ ∀ r ∈ t.2.2, ∀ y ∈ r.2.2, -9223372036854775808 ≤ y.2.1 ∧ y.2.1 < 9223372036854775808 := by
  obtain ⟨v0, v1, v2, y0, y1, y2, n, rfl, rfl, _, h0, h1, h2⟩ := open_agg3 Tryd.underlying28 (by kernel_rfl) (by kernel_rfl) hv h
  obtain ⟨s, e0, _⟩ := DataW.trod_string Tryd.underlying9 h0
  simp at e0
  obtain ⟨ats, ha⟩ := arg_texts Tryd.underlying25 Tryd.underlying9 (by kernel_rfl) (of_decide_eq_true (by kernel_rfl)) h1 (hz.field Tryd.underlying28 (j := 1) rfl rfl)
  obtain ⟨rs, hr, hn⟩ := arg_rows Tryd.underlying26 Tryd.underlying78 (by kernel_rfl) (of_decide_eq_true (by kernel_rfl)) rfl rfl (by kernel_rfl) (by kernel_rfl) Tryd.underlying2
    Tryd.underlying76 Tryd.underlying87 (by kernel_rfl) (of_decide_eq_true (by kernel_rfl)) rfl rfl rfl (by kernel_rfl) (by kernel_rfl) (by kernel_rfl) Tryd.underlying3 Tryd.underlying2 Tryd.underlying9 h2 (hz.field Tryd.underlying28 (j := 2) rfl rfl)
  exact ⟨(s, ats, rs), v1, v2, by rw [e0], ⟨ha, hr⟩, hn⟩
end

end Go.Proofs.YtkbegpnchamgkaaDoor
