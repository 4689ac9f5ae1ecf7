/- Tables as arguments, opened to the words that the laws are stated in. -/
import Derived.Test.YtcfcmalaabmceaaGreatDoorOpen2
import Derived.Test.YtcfcmalaabmceaaGreatDoorArgs
import Derived.Test.YtcfcmalaabmceaaGreatDoorGTab14
namespace Go.Proofs.YtcfcmalaabmceaaGreatDoor
open Go.ChangeShapes Go.WideShapes Go.ChangeAt Go.RowKit Go.Deep Go.Joins

set_option maxRecDepth 100000
section
variable {H : Type} {en : TypeId × Value → H} {W : World} {b : Nat} {v : Value} {d : DataW H} {p : List MemPlace}
theorem arg_table (hv : Value.okWide Tryz.prog W .any b 35 v) (h : DataW.Trod en Tryz.prog W 0 (fun _ => true) true 35 v d p) (hz : SizedD Tryz.prog 35 d) : ∃ (t : T3) (av rv : Value), v = .agg #[.string t.1, av, rv] ∧ RdT W av rv t ∧ ∀ r ∈ t.2.2, ∀ y ∈ r.2.2, -9223372036854775808 ≤ y.2.1 ∧ y.2.1 < 9223372036854775808 := by
  obtain ⟨v0, v1, v2, y0, y1, y2, n, rfl, rfl, _, h0, h1, h2⟩ := open_agg3 Tryz.underlying35 (by kernel_rfl) (by kernel_rfl) hv h
  obtain ⟨s, e0, _⟩ := DataW.trod_string Tryz.underlying9 h0
  simp at e0
  obtain ⟨ats, ha⟩ := arg_texts Tryz.underlying32 Tryz.underlying9 (by kernel_rfl) (of_decide_eq_true (by kernel_rfl)) h1 (hz.field Tryz.underlying35 (j := 1) rfl rfl)
  obtain ⟨rs, hr, hn⟩ := arg_rows Tryz.underlying33 Tryz.underlying87 (by kernel_rfl) (of_decide_eq_true (by kernel_rfl)) rfl rfl (by kernel_rfl) (by kernel_rfl) Tryz.underlying2
    Tryz.underlying85 Tryz.underlying94 (by kernel_rfl) (of_decide_eq_true (by kernel_rfl)) rfl rfl rfl (by kernel_rfl) (by kernel_rfl) (by kernel_rfl) Tryz.underlying3 Tryz.underlying2 Tryz.underlying9 h2 (hz.field Tryz.underlying35 (j := 2) rfl rfl)
  exact ⟨(s, ats, rs), v1, v2, by rw [e0], ⟨ha, hr⟩, hn⟩
end

end Go.Proofs.YtcfcmalaabmceaaGreatDoor
