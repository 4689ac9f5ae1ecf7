/- Recipes as arguments, opened to the words that the laws are stated in. -/
import Derived.Test.YtcfcmalaabmceaaGreatDoorArgsT
import Derived.Test.YtcfcmalaabmceaaGreatDoorGTab30
namespace Go.Proofs.YtcfcmalaabmceaaGreatDoor
open Go.ChangeShapes Go.WideShapes Go.ChangeAt Go.RowKit Go.Deep Go.Joins

theorem enc8_ofInt {n : Int} (hw : (Lit.int .u8 n).wf = true) : enc8 (BitVec.ofInt 8 n) = .int .u8 n := by
  simp [Lit.wf, IntKind.min, IntKind.max, IntKind.signed, IntKind.bits] at hw
  unfold enc8
  have : ((BitVec.ofInt 8 n).toNat : Int) = n := by simp [BitVec.toNat_ofInt]; omega
  rw [this]
section
variable {H : Type} {en : TypeId × Value → H} {P : Program} {W : World} {fuel : Nat} {t e : TypeId} {v : Value} {x : DataW H × List MemPlace}
theorem arg_u8row (ht : P.underlying t = some (.slice e)) (he : P.underlying e = some (.int .u8)) (hc : P.cellsOf e = 1) (hb : 1 ≤ P.bytesOf e)
    (h : DataW.trod en P W 0 (fun _ => true) true fuel t [v] = some x) (hz : SizedD P t x.1) : ∃ y : RcR, cRc y = [v] ∧ RdU W y := by
  rcases open_ints ht he hc h with ⟨hcs, _⟩ | ⟨a, len, cap, zs, hcs, _, hl, hm, hzl, _, hcell, hwz⟩
  · simp at hcs; subst hcs
    exact ⟨(.slice none 0 0, 0, fun _ => 0#8), rfl, none, 0, rfl, by simp, fun i hi => absurd hi (by simp)⟩
  · simp at hcs; subst hcs
    have hlen : len ≤ 140737488355328 := by
      have h1 := slice_len ht h
      have h2 := reachBytes_lt
      rcases h1 with ⟨_, h0⟩ | ⟨es, sp, e1, e2⟩
      · omega
      · rw [e1] at hz
        have h3 := SizedD.length ht hz
        have h4 := Nat.mul_le_mul_left es.length hb
        omega
    simp at hzl
    obtain ⟨b, off, spot⟩ := a
    refine ⟨(.slice (some ⟨b, off, spot⟩) len cap, len, fun i => BitVec.ofInt 8 (zs.getD i 0)), rfl, some ⟨b, off, spot⟩, cap, rfl, hlen, fun i hi => ?_⟩
    replace hi : i < len := hi
    have hi2 : i < zs.length := by omega
    have hci := hcell i hi2
    have hspot : spot = none := by simpa [Addr.add] using World.cell?_spot (hcell 0 (by omega))
    subst hspot
    rw [Addr.add_lit] at hci
    refine ⟨b, off, rfl, by have := World.block_lt_of_cell? W _ hci; simpa using this, ?_⟩
    show W.cell? ⟨b, off + i, none⟩ = some (enc8 (BitVec.ofInt 8 (zs.getD i 0)))
    rw [enc8_ofInt (hwz _ (by rw [List.getD_eq_getElem?_getD, List.getElem?_eq_getElem hi2]; exact List.getElem_mem hi2))]
    exact hci
end

set_option maxRecDepth 100000
section
variable {H : Type} {en : TypeId × Value → H} {W : World} {b : Nat} {v : Value} {d : DataW H} {p : List MemPlace}
theorem arg_recipe (hv : Value.okWide Tryz.prog W .any b 24 v) (h : DataW.Trod en Tryz.prog W 0 (fun _ => true) true 24 v d p) (hz : SizedD Tryz.prog 24 d) : ∃ (a g : U8) (rr : List RcR) (rv : Value), v = .agg #[.int .u8 (a.toNat : Int), .int .u8 (g.toNat : Int), rv] ∧ RdRc W rv rr := by
  obtain ⟨v0, v1, v2, y0, y1, y2, n, rfl, rfl, _, h0, h1, h2⟩ := open_agg3 Tryz.underlying24 (by kernel_rfl) (by kernel_rfl) hv h
  obtain ⟨n0, e0, _, w0⟩ := DataW.trod_int Tryz.underlying5 h0
  obtain ⟨n1, e1, _, w1⟩ := DataW.trod_int Tryz.underlying5 h1
  simp at e0 e1
  obtain ⟨b0, hb0⟩ := u8_of w0
  obtain ⟨b1, hb1⟩ := u8_of w1
  obtain ⟨rr, hrr, hR⟩ := argC_list cRc 1 cRc_length (RdU W) Tryz.underlying22 (by kernel_rfl) (by decide) (of_decide_eq_true (by kernel_rfl)) (fun k cs d ps hl hd hs => by
    match cs, hl with
    | [a0], _ => exact arg_u8row Tryz.underlying92 Tryz.underlying5 (by kernel_rfl) (of_decide_eq_true (by kernel_rfl)) hd hs) h2 (hz.field Tryz.underlying24 (j := 2) rfl rfl)
  exact ⟨b0, b1, rr, v2, by rw [e0, e1, ← hb0, ← hb1]; rfl, hrr, hR⟩
end

end Go.Proofs.YtcfcmalaabmceaaGreatDoor
