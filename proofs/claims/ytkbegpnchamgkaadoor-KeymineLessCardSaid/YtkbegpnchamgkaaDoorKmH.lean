/- The walks of drossref03.Has and cp. -/
import Derived.Test.YtkbegpnchamgkaaDoorKmG
import Derived.Test.YtkbegpnchamgkaaDoorApp0
import Derived.Deep.RegionLaw
namespace Go.Proofs.YtkbegpnchamgkaaDoor
open Go.RowKit
set_option linter.unusedVariables false

theorem set2k {W : World} {b : Nat} {x y x' y' : Value} (h0 : W.cell? ⟨b, 0, none⟩ = some x') (h1 : W.cell? ⟨b, 1, none⟩ = some y') {W3 : World} (hW : (W.setCell ⟨b, 0, none⟩ x).setCell ⟨b, 1, none⟩ y = W3) :
    W3.cell? ⟨b, 0, none⟩ = some x ∧ W3.cell? ⟨b, 1, none⟩ = some y := by
  subst hW
  refine ⟨?_, ?_⟩
  · rw [World.cell?_setCell_other _ _ _ _ (by simp)]; exact World.cell?_setCell_same _ _ _ h0
  · exact World.cell?_setCell_same _ _ _ ((World.cell?_setCell_other _ _ _ _ (by simp)).trans h1)
theorem has_ids (l : List Int) (v : Value) (id : Int) (w : World) (hv : RdE encJ w v l) :
    Calls Tryd.prog 34 #[v, .int .i64 id] w fun e w' => e = .returned (.bool (l.any fun x => x == id)) ∧ Below w.heap.size w w' := by
  obtain ⟨ao, cap, rfl, hl, hc⟩ := hv.split
  have HC := hid hc
  unfold encJ at HC
  obtain ⟨R, hR⟩ : ∃ R, (l.any fun x => x == id) = R := ⟨_, rfl⟩
  rw [hR]
  have HR := hid hR
  clear hc hv hR
  go_enter Tryd.func34, Tryd.ntmps34
  go_wp2_with fail
  go_loopw [5] (fun i wr => ∃ k : Nat, k ≤ l.length ∧ i = .int .i64 k ∧ Hid ((l.take k).any (fun x => x == id) = false) ∧ Below w.heap.size w wr) (fun i _ => l.length - (intOf i).toNat)
  case atStart => exact ⟨0, Nat.zero_le _, rfl, hid rfl, Below.refl _ _⟩
  case round =>
    obtain ⟨k, hk, rfl, H, hnx⟩ := hrel
    have NX := hid hnx
    have k0 : (0 : Int) ≤ (k : Int) := by omega
    by_cases hlt : k < l.length
    · obtain ⟨x, hx⟩ := get_some hlt
      obtain ⟨b, off, rfl, hd⟩ := HC.out k x hx
      have e0 := hd wr hnx
      have TN := hid (take_next hx)
      have MX := hid (List.mem_of_getElem? hx)
      clear hd hx hnx
      cases hq : (x == id) with
      | true =>
        have RF := hid (show R = true by rw [← HR.out]; exact List.any_eq_true.2 ⟨x, MX.out, hq⟩)
        go_wp2_with fail
        go_ret
        exact ⟨by rw [RF.out]; rfl, NX.out⟩
      | false =>
        have AN := hid (show (l.take (k + 1)).any (fun x => x == id) = false by rw [TN.out, List.any_append, H.out]; simp [hq])
        go_wp2_with fail
        go_roundw
        case rel => exact ⟨k + 1, by omega, by go_num, AN, NX.out⟩
        case measure => simp [intOf]; omega
    · have RF := hid (show R = false by rw [← HR.out]; have h := H.out; rwa [List.take_of_length_le (by omega)] at h)
      clear hnx
      go_wp2_with fail
      go_ret
      exact ⟨by rw [RF.out]; rfl, NX.out⟩

set_option maxHeartbeats 1600000 in
set_option maxRecDepth 100000 in
theorem rcp_any (id : Int) (xs : List V3) (u : Value) (w : World) (hu : RdV w u xs) (hl : xs.length ≤ 1000) :
    Calls Tryd.prog 52 #[.agg #[.int .i64 id, u]] w fun e w' => ∃ v', e = .returned (.agg #[.int .i64 id, v']) ∧ w'.ownsRow w.heap.size 87 3 v' xs.length (xs.flatMap cV) ∧ Below w.heap.size w w' := by
  obtain ⟨uo, ucap, rfl, -⟩ := RdV.split hu
  obtain ⟨c0, c1⟩ := cells2 (w := w) (a := .int .i64 id) (b := .slice uo xs.length ucap) (t := 78) _ (Below.refl _ _)
  have hb0 := below_alloc w (.cells #[.int .i64 id, .slice uo xs.length ucap] 78)
  obtain ⟨w0, hw0⟩ : ∃ w0 : World, w.alloc (.cells #[.int .i64 id, .slice uo xs.length ucap] 78) = w0 := ⟨_, rfl⟩
  have hs0 : w0.heap.size = w.heap.size + 1 := by rw [← hw0]; simp
  rw [hw0] at c0 c1 hb0
  obtain ⟨z0, z1⟩ := cells2 (w := w0) (a := .int .i64 0) (b := .slice none 0 0) (t := 78) _ (Below.refl _ _)
  have zf : ∀ j, (w0.alloc (.cells #[.int .i64 0, .slice none 0 0] 78)).frozen? ⟨w0.heap.size, j, none⟩ = false := fun j => by simp
  have hb1 := below_alloc w0 (.cells #[.int .i64 0, .slice none 0 0] 78)
  obtain ⟨w1, hw1⟩ : ∃ w1 : World, w0.alloc (.cells #[.int .i64 0, .slice none 0 0] 78) = w1 := ⟨_, rfl⟩
  have hs1 : w1.heap.size = w.heap.size + 1 + 1 := by rw [← hw1]; simp [hs0]
  rw [hw1] at z0 z1 zf hb1
  rw [hs0] at z0 z1 zf
  replace c0 := (hb1.cell (p := ⟨w.heap.size, 0, none⟩) (by show w.heap.size < _; omega)).trans c0
  replace c1 := (hb1.cell (p := ⟨w.heap.size, 1, none⟩) (by show w.heap.size < _; omega)).trans c1
  have B1 := hid (hb0.trans (hb1.mono (by omega)))
  have W0 := hid hw0
  have W1 := hid hw1
  have HS1 := hid hs1
  have X1 := hid (show Below w1.heap.size w1 (w1.drew.alloc (.cells #[] 87)) from (Below.refl _ _).drew.alloc (by simp) _)
  have x0 : (w1.alloc (.cells #[] 87)).cell? ⟨w.heap.size, 0, none⟩ = some (.int .i64 id) := (X1.out.cell (p := ⟨w.heap.size, 0, none⟩) (by show w.heap.size < _; omega)).trans c0
  have x1 : (w1.alloc (.cells #[] 87)).cell? ⟨w.heap.size, 1, none⟩ = some (.slice uo xs.length ucap) := (X1.out.cell (p := ⟨w.heap.size, 1, none⟩) (by show w.heap.size < _; omega)).trans c1
  have E0 := hid (show (w1.drew.alloc (.cells #[] 87)).ownsRow w1.heap.size 87 3 (.slice (some ⟨w1.heap.size, 0, none⟩) 0 0) ([] : List V3).length (([] : List V3).flatMap cV) from World.ownsRow_lit (size := 3) (e := 87) (base := w1.heap.size) w1.drew #[] 0 (Nat.le_refl _) (Nat.zero_le _) rfl)
  have HU := hid (show RdC cV (w1.drew.alloc (.cells #[] 87)) (.slice uo xs.length ucap) xs from RdC.below (RdC.below hu B1.out) X1.out)
  have ZZ := hid (fun (W : World) (h : (w1.drew.alloc (.cells #[] 87)).grownBy W (some w1.heap.size)) => show W.cell? ⟨w.heap.size + 1, 0, none⟩ = some (.int .i64 0) ∧ W.cell? ⟨w.heap.size + 1, 1, none⟩ = some (.slice none 0 0) ∧ W.frozen? ⟨w.heap.size + 1, 0, none⟩ = false ∧ W.frozen? ⟨w.heap.size + 1, 1, none⟩ = false ∧ W.cell? ⟨w.heap.size, 0, none⟩ = some (.int .i64 id) from by
    have lt : w.heap.size + 1 < (w1.drew.alloc (.cells #[] 87)).heap.size := by have := X1.out.size; omega
    have ne : some (w.heap.size + 1) ≠ some w1.heap.size := by simp; omega
    have lt1 : w.heap.size + 1 < w1.heap.size := by omega
    have lt2 : w.heap.size < w1.heap.size := by omega
    have lt3 : w.heap.size < (w1.drew.alloc (.cells #[] 87)).heap.size := by omega
    have ne2 : some w.heap.size ≠ some w1.heap.size := by simp; omega
    exact ⟨(h.cell_far ⟨w.heap.size + 1, 0, none⟩ lt ne).trans ((X1.out.cell (p := ⟨w.heap.size + 1, 0, none⟩) lt1).trans z0), (h.cell_far ⟨w.heap.size + 1, 1, none⟩ lt ne).trans ((X1.out.cell (p := ⟨w.heap.size + 1, 1, none⟩) lt1).trans z1), (h.frozen_far ⟨w.heap.size + 1, 0, none⟩ lt ne).trans ((X1.out.frozen (p := ⟨w.heap.size + 1, 0, none⟩) lt1).trans (zf 0)), (h.frozen_far ⟨w.heap.size + 1, 1, none⟩ lt ne).trans ((X1.out.frozen (p := ⟨w.heap.size + 1, 1, none⟩) lt1).trans (zf 1)), (h.cell_far ⟨w.heap.size, 0, none⟩ lt3 ne2).trans ((X1.out.cell (p := ⟨w.heap.size, 0, none⟩) lt2).trans c0)⟩)
  have HL := hid hl
  have SZ := hid (show w1.heap.size ≤ (w1.drew.alloc (.cells #[] 87)).heap.size from X1.out.size)
  clear hu hb0 hb1 hw0 hw1 hs0 hs1 z0 z1 zf hl
  go_enter Tryd.func52, Tryd.ntmps52
  go_wp2_with fail
  rw [W0.out, W1.out]
  go_region_law ((refine step_appC (by rfl) _ _ 76 (by rfl) w1.heap.size 87 (.agg #[.int .i64 0, .int .i64 0, .string (ByteArray.mk #[])]) 32 undVs infoV rfl (by decide) (by decide) cV_length cV_one _ ([] : List V3) (by rfl) E0.out _ xs (by rfl) HU.out (by have := HL.out; simp; omega) SZ.out ?_; intro v2 w2 ho2 hg2; obtain ⟨o2, cap2, rfl, -⟩ := RdC.of_owns cV_length ho2 (by have := HL.out; simp; omega); obtain ⟨y0, y1, yf0, yf1, yb⟩ := ZZ.out w2 hg2))
  all_goals
    have ho3 : w2.ownsRow w1.heap.size 87 3 (.slice o2 xs.length cap2) xs.length (xs.flatMap cV) := by simpa using ho2
    have hnb : (Value.slice o2 xs.length cap2).ownBlock ≠ some (w.heap.size + 1) := fun e => by have := (ho3.lt _ e).1; have := HS1.out; omega
    have hb2 : Below w.heap.size w w2 := (B1.out.trans (X1.out.mono (by have := HS1.out; omega))).grown hg2 (by have := HS1.out; have := X1.out.size; omega) (fun j hj => by simp [Value.ownBlock] at hj; have := HS1.out; omega)
    obtain ⟨wf, hwf⟩ : ∃ wf : World, (w2.setCell ⟨w.heap.size + 1, 0, none⟩ (.int .i64 id)).setCell ⟨w.heap.size + 1, 1, none⟩ (.slice o2 xs.length cap2) = wf := ⟨_, rfl⟩
    have r := set2k y0 y1 hwf
    have QO : wf.ownsRow w.heap.size 87 3 (.slice o2 xs.length cap2) xs.length (xs.flatMap cV) := by rw [← hwf]; exact own_mono (ownsRow_setCell_other (ownsRow_setCell_other ho3 hnb _) hnb _) (by have := HS1.out; omega)
    have QB : Below w.heap.size w wf := by rw [← hwf]; exact (hb2.setCell (p := ⟨w.heap.size + 1, 0, none⟩) (by simp) _).setCell (p := ⟨w.heap.size + 1, 1, none⟩) (by simp) _
    go_wp2_with fail
    try rw [hwf]
    exact bodyPost_ret (v := .agg #[.int .i64 id, .slice o2 xs.length cap2]) (by simp [results, Tryd.results52, go_sem, r.1, r.2]) rfl ⟨_, rfl, QO, QB⟩

/-- A table's rows, copied: what With leaves. -/
def cpAs (rs rs' : List Row3) : Prop := rs'.map (fun r => (r.1, r.2.2)) = rs.map (fun r => (r.1, r.2.2))
theorem infoStrK : (Tryd.prog.info? 9).map (fun i => (i.zero, i.size, i.bytes)) = some (some (.string (ByteArray.mk #[])), 1, 16) := by kernel_rfl
theorem undStrsK : Tryd.prog.underlying 25 = some (.slice 9) := by kernel_rfl
def cT1 (s : ByteArray) : List Value := [encT s]
theorem cT1_length (s : ByteArray) : (cT1 s).length = 1 := rfl
theorem cT1_one (s : ByteArray) : ∀ u ∈ cT1 s, u.oneCell' = true := by
  intro u hu
  simp only [cT1, List.mem_cons, List.not_mem_nil, or_false] at hu
  subst hu; rfl
theorem RdE.to_cells {w : World} {v : Value} {xs : List ByteArray} (h : RdE encT w v xs) : RdC cT1 w v xs := by
  obtain ⟨ao, cap, rfl, h1, h2, h3⟩ := h
  refine ⟨ao, cap, rfl, h1, h2, fun hp => ?_⟩
  obtain ⟨b, off, rfl, hb, hc⟩ := h3 hp
  refine ⟨b, off, rfl, hb, fun i x hi => ?_⟩
  have e : (xs.flatMap cT1) = xs.map encT := by rw [List.map_eq_flatMap]; rfl
  rw [e, List.getElem?_map] at hi
  cases hx : xs[i]? with
  | none => rw [hx] at hi; cases hi
  | some y =>
    rw [hx] at hi
    simp only [Option.map_some, Option.some.injEq] at hi
    subst hi
    exact hc i y hx
theorem RdC.to_texts {w : World} {v : Value} {xs : List ByteArray} (h : RdC cT1 w v xs) : RdE encT w v xs := by
  obtain ⟨ao, cap, rfl, h1, h2, h3⟩ := h
  refine ⟨ao, cap, rfl, h1, h2, fun hp => ?_⟩
  obtain ⟨b, off, rfl, hb, hc⟩ := h3 hp
  refine ⟨b, off, rfl, hb, fun i x hi => hc i (encT x) ?_⟩
  have e : (xs.flatMap cT1) = xs.map encT := by rw [List.map_eq_flatMap]; rfl
  rw [e, List.getElem?_map, hi]; rfl

end Go.Proofs.YtkbegpnchamgkaaDoor
