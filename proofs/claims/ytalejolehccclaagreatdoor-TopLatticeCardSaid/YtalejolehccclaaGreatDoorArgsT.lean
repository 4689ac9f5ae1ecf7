/- Tables as arguments, opened to the words that the laws are stated in. -/
import Derived.Test.YtalejolehccclaaGreatDoorOpen2
import Derived.Test.YtalejolehccclaaGreatDoorArgs
import Derived.Test.YtalejolehccclaaGreatDoorGTab14
namespace Go.Proofs.YtalejolehccclaaGreatDoor
open Go.ChangeShapes Go.WideShapes Go.ChangeAt Go.RowKit Go.Deep Go.Joins

set_option maxRecDepth 100000
section
variable {H : Type} {en : TypeId × Value -> H} {W : World} {b : Nat} {v : Value} {d : DataW H} {p : List MemPlace}
theorem arg_table (hv : Value.okWide Tryz.prog W .any b 32 v) (h : DataW.Trod en Tryz.prog W 0 (fun _ => true) true 32 v d p) (hz : SizedD Tryz.prog 32 d) : ∃ (t : T3) (av rv : Value), v = .agg #[.string t.1, av, rv] /\ RdT W av rv t /\ ∀ r ∈ t.2.2, ∀ y ∈ r.2.2, -9223372036854775808 <= y.2.1 /\ y.2.1 < 9223372036854775808 := by
 obtain ⟨v0, v1, v2, y0, y1, y2, n, rfl, rfl, _, h0, h1, h2⟩ := open_agg3 Tryz.underlying32 (by kernel_rfl) (by kernel_rfl) hv h
 obtain ⟨s, e0, _⟩ := DataW.trod_string Tryz.underlying9 h0
 simp at e0
 obtain ⟨ats, ha⟩ := arg_texts Tryz.underlying29 Tryz.underlying9 (by kernel_rfl) (of_decide_eq_true (by kernel_rfl)) h1 (hz.field Tryz.underlying32 (j := 1) rfl rfl)
 obtain ⟨rs, hr, hn⟩ := arg_rows Tryz.underlying30 Tryz.underlying87 (by kernel_rfl) (of_decide_eq_true (by kernel_rfl)) rfl rfl (by kernel_rfl) (by kernel_rfl) Tryz.underlying2
  Tryz.underlying85 Tryz.underlying89 (by kernel_rfl) (of_decide_eq_true (by kernel_rfl)) rfl rfl rfl (by kernel_rfl) (by kernel_rfl) (by kernel_rfl) Tryz.underlying3 Tryz.underlying2 Tryz.underlying9 h2 (hz.field Tryz.underlying32 (j := 2) rfl rfl)
 exact ⟨(s, ats, rs), v1, v2, by rw [e0], ⟨ha, hr⟩, hn⟩
theorem arg_counted (hv : Value.okWide Tryz.prog W .any b 53 v) (h : DataW.Trod en Tryz.prog W 0 (fun _ => true) true 53 v d p) (hz : SizedD Tryz.prog 53 d) : ∃ l : List C2, RdCt W v l := by
 obtain ⟨a, l, c, rfl⟩ := okWide_slice Tryz.underlying53 hv
 obtain ⟨fuel, hf⟩ := h
 obtain ⟨xs, hx, _⟩ := argC_list cC 2 cC_length (fun _ => True) Tryz.underlying53 (by kernel_rfl) (by decide) (of_decide_eq_true (by kernel_rfl)) (fun k cs d ps hl hd _ => by
  obtain ⟨y0, y1, m, hxy, _, h0, h1⟩ := trod_struct2 Tryz.underlying65 hd
  match cs, hl with
  | [a0, a1], _ =>
   obtain ⟨n0, e0, _, w0⟩ := DataW.trod_int Tryz.underlying58 h0
   obtain ⟨n1, e1, _⟩ := DataW.trod_int Tryz.underlying2 h1
   obtain ⟨s, hs⟩ := u32_of w0
   have c0 : Tryz.prog.cellsOf 58 = 1 := by kernel_rfl
   have c1 : Tryz.prog.cellsOf 2 = 1 := by kernel_rfl
   simp [c0, c1] at e0 e1
   exact ⟨(s, n1), by rw [e0, e1, <- hs]; rfl, trivial⟩) hf hz
 exact ⟨xs, hx⟩
end

end Go.Proofs.YtalejolehccclaaGreatDoor
