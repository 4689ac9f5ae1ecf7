/- The walks of cover's others, extraneous and redundant. -/
import Derived.Test.YtmlbmdcmedglaaaDoorConcat
import Derived.Test.YtmlbmdcmedglaaaDoorFd2
import Derived.Test.YtmlbmdcmedglaaaDoorListD
namespace Go.Proofs.YtmlbmdcmedglaaaDoor
open Go.RowKit

set_option maxRecDepth 100000 in
theorem others_any (fs : List F) (i : Nat) (hi : i < fs.length) (v : Value) (w : World) (hv : RdF w v fs) (hl : fs.length < 1099511627776) :
    Calls Tryd.prog 92 #[v, .int .i64 i] w fun e w' => ∃ v', e = .returned v' ∧ w'.ownsRow w.heap.size 30 2 v' (othersF fs i).length ((othersF fs i).flatMap cF) ∧ Below w.heap.size w w' := by
  obtain ⟨ao, cap, rfl, h1, h2, h3⟩ := hv
  obtain ⟨b, off, rfl, hb, hc⟩ := h3 (by omega)
  have hv : RdF w (.slice (some ⟨b, off, none⟩) fs.length cap) fs := ⟨_, cap, rfl, h1, h2, fun _ => ⟨b, off, rfl, hb, hc⟩⟩
  have V1 := hid (hv.take (k := i) (by omega))
  have V2 := hid (hv.drop cF_length (k := i + 1) (by omega))
  have hlen : (fs.take i).length + (fs.drop (i + 1)).length < 1099511627776 := by simp; omega
  have CC := hid (fun (x y : Value) (W : World) (h0 : W.cell? ⟨w.heap.size, 0, none⟩ = some x) (h1 : W.cell? ⟨w.heap.size, 1, none⟩ = some y) (hx : RdF W x (fs.take i)) (hy : RdF W y (fs.drop (i + 1))) => concat_any (fs.take i) (fs.drop (i + 1)) x y w.heap.size W h0 h1 hx hy hlen)
  have CCE := hid (show fs.take i ++ fs.drop (i + 1) = othersF fs i from rfl)
  have i0 : (0 : Int) ≤ (i : Int) := by omega
  have i1 : (i : Int) < (fs.length : Int) := by omega
  have i2 : (i : Int) ≤ (cap : Int) := by omega
  have i3 : (fs.length : Int) ≤ (cap : Int) := by omega
  have i4 : (i : Int) + 1 ≤ (fs.length : Int) := by omega
  have i5 : (i : Int) + 1 ≤ (cap : Int) := by omega
  have i6 : (0 : Int) ≤ (i : Int) + 1 := by omega
  have hw := IntWalk.i64_in ((i : Int) + 1) (by omega)
  have i7 : ((i : Int) + 1).toNat = i + 1 := by omega
  clear h3 hc hv hlen
  by_cases hcap : cap = i + 1
  · subst hcap
    rw [if_pos rfl, show fs.length - (i + 1) = 0 by omega, Nat.sub_self] at V2
    have i2 : (i : Int) ≤ (i : Int) + 1 := by omega
    have i3 : (fs.length : Int) ≤ (i : Int) + 1 := by omega
    clear i5
    have hsub : fs.length - (i + 1) = 0 := by omega
    go_enter Tryd.func92, Tryd.ntmps92
    go_wp2_with fail
    go_region_held3 (fun W => Below w.heap.size w W)
      (first | exact (Below.refl _ _).drew | exact (below_alloc _ _).drew | assumption)
      (first
        | (go_at_call 80; refine (CC.out _ _ _ (by simp) (by simp) (V1.out.below (below_alloc _ _).drew) (V2.out.below (below_alloc _ _).drew)).mono ?_; rintro e w2 ⟨v2, rfl, ho2, hb2⟩; have hL : Below w.heap.size w w2 := (below_alloc _ _).drew.trans (hb2.mono (by simp))))
    have HL := hid hL
    have HO := hid (own_mono ho2 (show w.heap.size ≤ _ by simp))
    clear hL ho2 hw
    rw [CCE.out] at HO
    go_wp2_with fail
    go_ret
    exact ⟨_, rfl, HO.out, HL.out⟩
  · rw [if_neg hcap] at V2
    go_enter Tryd.func92, Tryd.ntmps92
    go_wp2_with fail
    go_region_held3 (fun W => Below w.heap.size w W)
      (first | exact (Below.refl _ _).drew | exact (below_alloc _ _).drew | assumption)
      (first
        | (go_at_call 80; refine (CC.out _ _ _ (by simp) (by simp) (V1.out.below (below_alloc _ _).drew) (V2.out.below (below_alloc _ _).drew)).mono ?_; rintro e w2 ⟨v2, rfl, ho2, hb2⟩; have hL : Below w.heap.size w w2 := (below_alloc _ _).drew.trans (hb2.mono (by simp))))
    have HL := hid hL
    have HO := hid (own_mono ho2 (show w.heap.size ≤ _ by simp))
    clear hL ho2 hw
    rw [CCE.out] at HO
    go_wp2_with fail
    go_ret
    exact ⟨_, rfl, HO.out, HL.out⟩

end Go.Proofs.YtmlbmdcmedglaaaDoor
