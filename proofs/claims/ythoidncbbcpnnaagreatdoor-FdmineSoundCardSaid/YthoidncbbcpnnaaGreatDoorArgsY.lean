/- A claim (left sides and witnesses) as an argument. -/
import Derived.Test.YthoidncbbcpnnaaGreatDoorArgsW
namespace Go.Proofs.YthoidncbbcpnnaaGreatDoor
open Go.ChangeShapes Go.WideShapes Go.ChangeAt Go.RowKit Go.Deep Go.Joins

set_option maxRecDepth 100000
section
variable {H : Type} {en : TypeId × Value → H} {W : World} {b : Nat} {v : Value} {d : DataW H} {p : List MemPlace}
theorem arg_claim (hv : Value.okWide Tryz.prog W .any b 48 v) (h : DataW.Trod en Tryz.prog W 0 (fun _ => true) true 48 v d p) (hz : SizedD Tryz.prog 48 d) : ∃ (ks : List S) (ws : List W3) (kv wv : Value), v = .agg #[kv, wv] ∧ RdE enc W kv ks ∧ RdW W wv ws := by
  obtain ⟨v0, v1, y0, y1, n, rfl, rfl, _, h0, h1⟩ := open_agg2 Tryz.underlying48 (by kernel_rfl) (by kernel_rfl) hv h
  obtain ⟨xs, hx, _⟩ := argC_list (fun s : S => [enc s]) 1 (fun _ => rfl) (fun _ => True) Tryz.underlying35 (by kernel_rfl) (by decide) (of_decide_eq_true (by kernel_rfl)) (fun k cs d ps hl hd _ => by
    obtain ⟨n, hs, _, w0⟩ := DataW.trod_int Tryz.underlying53 hd
    obtain ⟨s, hs2⟩ := u32_of w0
    exact ⟨s, by rw [hs, hs2], trivial⟩) h0 (hz.field Tryz.underlying48 (j := 0) rfl rfl)
  obtain ⟨ws, hw, _⟩ := argC_list cW 3 cW_length (fun _ => True) Tryz.underlying38 (by kernel_rfl) (by decide) (of_decide_eq_true (by kernel_rfl)) (fun k cs d ps hl hd _ => by
    obtain ⟨y0, y1, y2, m, _, _, h0, h1, h2⟩ := trod_struct3 Tryz.underlying62 hd
    match cs, hl with
    | [a0, a1, a2], _ =>
      obtain ⟨n0, e0, _, w0⟩ := DataW.trod_int Tryz.underlying53 h0
      obtain ⟨n1, e1, _⟩ := DataW.trod_int Tryz.underlying2 h1
      obtain ⟨n2, e2, _⟩ := DataW.trod_int Tryz.underlying2 h2
      obtain ⟨s, hs⟩ := u32_of w0
      have c0 : Tryz.prog.cellsOf 53 = 1 := by kernel_rfl
      have c1 : Tryz.prog.cellsOf 2 = 1 := by kernel_rfl
      simp [c0, c1] at e0 e1 e2
      exact ⟨(s, n1, n2), by rw [e0, e1, e2, ← hs]; rfl, trivial⟩) h1 (hz.field Tryz.underlying48 (j := 1) rfl rfl)
  exact ⟨xs, ws, v0, v1, rfl, RdE.of_cells hx, hw⟩
end

end Go.Proofs.YthoidncbbcpnnaaGreatDoor
