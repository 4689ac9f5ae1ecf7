/- Lists of sets, of witnesses and of numbers as arguments. -/
import Derived.Test.YtkbegpnchamgkaaDoorArgsR
import Derived.Test.YtkbegpnchamgkaaDoorGKm1
namespace Go.Proofs.YtkbegpnchamgkaaDoor
open Go.ChangeShapes Go.WideShapes Go.ChangeAt Go.RowKit Go.Deep Go.Joins

set_option maxRecDepth 100000
section
variable {H : Type} {en : TypeId × Value → H} {W : World} {b : Nat} {v : Value} {d : DataW H} {p : List MemPlace}
theorem arg_setsz (hv : Value.okWide Tryd.prog W .any b 35 v) (h : DataW.Trod en Tryd.prog W 0 (fun _ => true) true 35 v d p) (hz : SizedD Tryd.prog 35 d) : ∃ l : List S, RdE enc W v l := by
  obtain ⟨a, l, c, rfl⟩ := okWide_slice Tryd.underlying35 hv
  obtain ⟨fuel, hf⟩ := h
  obtain ⟨xs, hx, _⟩ := argC_list (fun s : S => [enc s]) 1 (fun _ => rfl) (fun _ => True) Tryd.underlying35 (by kernel_rfl) (by decide) (of_decide_eq_true (by kernel_rfl)) (fun k cs d ps hl hd _ => by
    obtain ⟨n, hs, _, w0⟩ := DataW.trod_int Tryd.underlying33 hd
    obtain ⟨s, hs2⟩ := u32_of w0
    exact ⟨s, by rw [hs, hs2], trivial⟩) hf hz
  exact ⟨xs, RdE.of_cells hx⟩
theorem arg_i64s (hv : Value.okWide Tryd.prog W .any b 52 v) (h : DataW.Trod en Tryd.prog W 0 (fun _ => true) true 52 v d p) (hz : SizedD Tryd.prog 52 d) : ∃ l : List Int, RdE encJ W v l := by
  obtain ⟨a, l, c, rfl⟩ := okWide_slice Tryd.underlying52 hv
  obtain ⟨fuel, hf⟩ := h
  obtain ⟨xs, hx, _⟩ := argC_list (fun s : Int => [encJ s]) 1 (fun _ => rfl) (fun _ => True) Tryd.underlying52 (by kernel_rfl) (by decide) (of_decide_eq_true (by kernel_rfl)) (fun k cs d ps hl hd _ => by
    obtain ⟨n, hs, _⟩ := DataW.trod_int Tryd.underlying2 hd
    exact ⟨n, by rw [hs]; rfl, trivial⟩) hf hz
  exact ⟨xs, RdE.of_cells hx⟩
theorem arg_wits (hv : Value.okWide Tryd.prog W .any b 39 v) (h : DataW.Trod en Tryd.prog W 0 (fun _ => true) true 39 v d p) (hz : SizedD Tryd.prog 39 d) : ∃ l : List W3, RdW W v l := by
  obtain ⟨a, l, c, rfl⟩ := okWide_slice Tryd.underlying39 hv
  obtain ⟨fuel, hf⟩ := h
  obtain ⟨xs, hx, _⟩ := argC_list cW 3 cW_length (fun _ => True) Tryd.underlying39 (by kernel_rfl) (by decide) (of_decide_eq_true (by kernel_rfl)) (fun k cs d ps hl hd _ => by
    obtain ⟨y0, y1, y2, m, _, _, h0, h1, h2⟩ := trod_struct3 Tryd.underlying49 hd
    match cs, hl with
    | [a0, a1, a2], _ =>
      obtain ⟨n0, e0, _, w0⟩ := DataW.trod_int Tryd.underlying33 h0
      obtain ⟨n1, e1, _⟩ := DataW.trod_int Tryd.underlying2 h1
      obtain ⟨n2, e2, _⟩ := DataW.trod_int Tryd.underlying2 h2
      obtain ⟨s, hs⟩ := u32_of w0
      have c0 : Tryd.prog.cellsOf 33 = 1 := by kernel_rfl
      have c1 : Tryd.prog.cellsOf 2 = 1 := by kernel_rfl
      simp [c0, c1] at e0 e1 e2
      exact ⟨(s, n1, n2), by rw [e0, e1, e2, ← hs]; rfl, trivial⟩) hf hz
  exact ⟨xs, hx⟩
end

end Go.Proofs.YtkbegpnchamgkaaDoor
