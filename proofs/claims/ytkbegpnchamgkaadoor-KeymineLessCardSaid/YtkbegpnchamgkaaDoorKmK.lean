/- The walk of drossref03.Keep. -/
import Derived.Test.YtkbegpnchamgkaaDoorKmI
import Derived.Test.YtkbegpnchamgkaaDoorKmJ
namespace Go.Proofs.YtkbegpnchamgkaaDoor
open Go.RowKit
set_option linter.unusedVariables false

set_option maxHeartbeats 6400000 in
set_option maxRecDepth 100000 in
theorem rkeep_any (nm : ByteArray) (ats : List ByteArray) (ids : List Int) (av rv iv : Value) (rs : List Row3) (w : World) (ha : RdE encT w av ats) (hr : RdR w rv rs) (hi : RdE encJ w iv ids) (hla : ats.length ≤ 1000) (hlr : rs.length ≤ 1000) (hv1 : ∀ r ∈ rs, r.2.2.length ≤ 1000) :
    Calls Tryd.prog 17 #[.agg #[.string nm, av, rv], iv] w fun e w' => ∃ (av' rv' : Value) (rs' : List Row3), e = .returned (.agg #[.string nm, av', rv']) ∧ RdT w' av' rv' (nm, ats, rs') ∧ cpAs (keepR rs ids) rs' ∧ Below w.heap.size w w' := by
  have HI := hid (fun (id : Int) (W : World) (h : Below w.heap.size w W) => has_ids ids iv id W (hi.below h))
  have HWI := hid (fun (rs2 : List Row3) (v : Value) (W : World) (h : Below w.heap.size w W) (h2 : RdR W v rs2) (h3 : rs2.length ≤ 1000) (h4 : ∀ r ∈ rs2, r.2.2.length ≤ 1000) => rwith_any nm ats av rv rs2 v W (ha.below h) h2 hla h3 h4)
  obtain ⟨io, icap, rfl, -, -⟩ := hi.split
  obtain ⟨ao, acap, rfl, -, -⟩ := ha.split
  obtain ⟨ro, rcap, rfl, -, hrc⟩ := RdR.split hr
  obtain ⟨c0, c1, c2⟩ := cells3 (w := w) (a := .string nm) (b := .slice ao ats.length acap) (c := .slice ro rs.length rcap) (t := 28) _ (Below.refl _ _)
  have hb0 := below_alloc w (.cells #[.string nm, .slice ao ats.length acap, .slice ro rs.length rcap] 28)
  obtain ⟨w0, hw0⟩ : ∃ w0 : World, w.alloc (.cells #[.string nm, .slice ao ats.length acap, .slice ro rs.length rcap] 28) = w0 := ⟨_, rfl⟩
  have hs0 : w0.heap.size = w.heap.size + 1 := by rw [← hw0]; simp
  rw [hw0] at c0 c1 c2 hb0
  obtain ⟨z0, z1, z2⟩ := cells3 (w := w0) (a := .string (ByteArray.mk #[])) (b := .slice none 0 0) (c := .slice none 0 0) (t := 28) _ (Below.refl _ _)
  have zf : ∀ j, (w0.alloc (.cells #[.string (ByteArray.mk #[]), .slice none 0 0, .slice none 0 0] 28)).frozen? ⟨w0.heap.size, j, none⟩ = false := fun j => by simp
  have hb1 := below_alloc w0 (.cells #[.string (ByteArray.mk #[]), .slice none 0 0, .slice none 0 0] 28)
  obtain ⟨w1, hw1⟩ : ∃ w1 : World, w0.alloc (.cells #[.string (ByteArray.mk #[]), .slice none 0 0, .slice none 0 0] 28) = w1 := ⟨_, rfl⟩
  have hs1 : w1.heap.size = w.heap.size + 1 + 1 := by rw [← hw1]; simp [hs0]
  rw [hw1] at z0 z1 z2 zf hb1
  rw [hs0] at z0 z1 z2 zf
  replace c0 := (hb1.cell (p := ⟨w.heap.size, 0, none⟩) (by show w.heap.size < _; omega)).trans c0
  replace c1 := (hb1.cell (p := ⟨w.heap.size, 1, none⟩) (by show w.heap.size < _; omega)).trans c1
  replace c2 := (hb1.cell (p := ⟨w.heap.size, 2, none⟩) (by show w.heap.size < _; omega)).trans c2
  have B1 := hid (hb0.trans (hb1.mono (by omega)))
  have W0 := hid hw0
  have W1 := hid hw1
  have HS1 := hid hs1
  have HZ := hid (And.intro z0 (And.intro z1 (And.intro z2 zf)))
  have HV1 := hid hv1
  have HLR := hid hlr
  have CB := hid (fun (W : World) (h : Below w1.heap.size w1 W) => show W.cell? ⟨w.heap.size, 0, none⟩ = some (.string nm) ∧ W.cell? ⟨w.heap.size, 1, none⟩ = some (.slice ao ats.length acap) ∧ W.cell? ⟨w.heap.size, 2, none⟩ = some (.slice ro rs.length rcap) from
    ⟨(h.cell (p := ⟨w.heap.size, 0, none⟩) (by show w.heap.size < _; omega)).trans c0, (h.cell (p := ⟨w.heap.size, 1, none⟩) (by show w.heap.size < _; omega)).trans c1, (h.cell (p := ⟨w.heap.size, 2, none⟩) (by show w.heap.size < _; omega)).trans c2⟩)
  have RC2 := hid (fun (k : Nat) (r : Row3) (hr : rs[k]? = some r) => show (∃ b off, ro = some ⟨b, off, none⟩ ∧ ∀ wr, Below w.heap.size w wr → wr.cell? ⟨b, off + k * 2, none⟩ = some (.int .i64 r.1) ∧ wr.cell? ⟨b, off + k * 2 + 1, none⟩ = some r.2.1) ∧ ∀ wr, Below w.heap.size w wr → RdV wr r.2.1 r.2.2 from hrc k r hr)
  clear ha hr hi hb0 hb1 hw0 hw1 hs0 hs1 z0 z1 z2 zf hrc hv1 hla hlr c0 c1 c2
  go_enter Tryd.func17, Tryd.ntmps17
  go_upto_region 1 with fail
  rw [W0.out, W1.out]
  go_wp2_with fail
  go_loopw [5, 6] (fun u i wr => ∃ k : Nat, k ≤ rs.length ∧ i = .int .i64 k ∧ wr.ownsRow w1.heap.size 78 2 u (keepR (rs.take k) ids).length ((keepR (rs.take k) ids).flatMap cR) ∧ Below w1.heap.size w1 wr) (fun _ i _ => rs.length - (intOf i).toNat)
  case atStart => exact ⟨0, Nat.zero_le _, rfl, World.ownsRow_nil _ _ _ _, Below.refl _ _⟩
  case round =>
    obtain ⟨k, hk, rfl, hown, hnx⟩ := hrel
    have hsz := hnx.size
    have NX := hid hnx
    have BW := hid (B1.out.trans (hnx.mono (by have := HS1.out; omega)))
    have k0 : (0 : Int) ≤ (k : Int) := by omega
    have k9 : (k : Int) ≤ 1000 := by have := HLR.out; omega
    have HKL := hid (show (keepR (rs.take k) ids).length ≤ 1000 by have h1 : (keepR (rs.take k) ids).length ≤ (rs.take k).length := List.length_filter_le _ _; have h2 := List.length_take_le k rs; have := HLR.out; omega)
    obtain ⟨b0, b1, b2⟩ := CB.out wr hnx
    by_cases hlt : k < rs.length
    · obtain ⟨⟨id, u2, xs⟩, hx⟩ := get_some hlt
      obtain ⟨⟨b, off, rfl, hce⟩, hrv⟩ := RC2.out k (id, u2, xs) hx
      obtain ⟨e0, e1⟩ := hce wr BW.out
      have HRV := hid (hrv wr BW.out)
      simp only at e0 e1
      obtain ⟨uo, ucap, hu, -⟩ := RdV.split HRV.out
      simp only at hu
      subst hu
      have hasI := hid (HI.out id wr BW.out)
      have TN := hid (take_next hx)
      have KS := hid (fun (W : World) (h : Below wr.heap.size wr W) => show (W.cell? ⟨b, off + k * 2, none⟩ = some (.int .i64 id) ∧ W.cell? ⟨b, off + k * 2 + 1, none⟩ = some (.slice uo xs.length ucap)) ∧ W.cell? ⟨w.heap.size, 0, none⟩ = some (.string nm) ∧ W.cell? ⟨w.heap.size, 1, none⟩ = some (.slice ao ats.length acap) ∧ W.cell? ⟨w.heap.size, 2, none⟩ = some (.slice (some ⟨b, off, none⟩) rs.length rcap) from
        ⟨⟨(h.cell (p := ⟨b, off + k * 2, none⟩) (World.block_lt_of_cell? _ _ e0)).trans e0, (h.cell (p := ⟨b, off + k * 2 + 1, none⟩) (World.block_lt_of_cell? _ _ e1)).trans e1⟩, CB.out W (NX.out.trans (h.mono NX.out.size))⟩)
      have HLT := hid hlt
      have HO := hid hown
      have CNR := hid (fun (W : World) (y : Row3) => cells_newR W y (t := 78))
      have HSZ := hid hsz
      clear hx hce hrv hown hnx hsz
      cases hq : (ids.any fun x => x == id) with
      | false =>
        have HE := hid (show keepR (rs.take (k + 1)) ids = keepR (rs.take k) ids by rw [TN.out]; unfold keepR; rw [List.filter_append]; simp [hq])
        rw [hq] at hasI
        have HQ := hid hq
        clear hq
        go_wp2_with fail
        refine hasI.out.mono ?_
        rintro e w2 ⟨rfl, hb2⟩
        have HO2 := hid (own_below HO.out hb2)
        have NX2 := hid (NX.out.trans (hb2.mono HSZ.out))
        obtain ⟨⟨d0, d1⟩, d2, d3, d4⟩ := KS.out w2 hb2
        clear hb2 e0 e1 b0 b1 b2
        go_wp2_with fail
        go_roundw
        case rel => exact ⟨k + 1, by have := HLT.out; omega, by go_num, by rw [HE.out]; exact HO2.out, NX2.out⟩
        case measure => have := HLT.out; simp [intOf]; omega
      | true =>
        have HE := hid (show keepR (rs.take (k + 1)) ids = keepR (rs.take k) ids ++ [(id, .slice uo xs.length ucap, xs)] by rw [TN.out]; unfold keepR; rw [List.filter_append]; simp [hq])
        rw [hq] at hasI
        have HQ := hid hq
        clear hq
        go_wp2_with fail
        refine hasI.out.mono ?_
        rintro e w2 ⟨rfl, hb2⟩
        have HO2 := hid (own_below HO.out hb2)
        have NX2 := hid (NX.out.trans (hb2.mono HSZ.out))
        obtain ⟨⟨d0, d1⟩, d2, d3, d4⟩ := KS.out w2 hb2
        clear hb2 e0 e1 b0 b1 b2
        obtain ⟨kr, hkr⟩ : ∃ kr, keepR (rs.take k) ids = kr := ⟨_, rfl⟩
        rw [hkr] at HO2 HKL HE
        go_wp2_with (at_builtin; (refine wpList_pushB rfl _ _ 26 rfl w1.heap.size 78 (.agg #[.int .i64 0, .slice none 0 0]) 2 32 undRows infoRow rfl (by decide) (by decide) cR cR_length _ kr rfl (HO2.out.alloc (.cells #[.int .i64 id, .slice uo xs.length ucap] 78)) ⟨w2.heap.size, 0, none⟩ ((id, Value.slice uo xs.length ucap, xs) : Row3) (by intro u hu; simp [cR] at hu; rcases hu with rfl | rfl <;> rfl) rfl (CNR.out w2 ((id, Value.slice uo xs.length ucap, xs) : Row3)) (by have := HKL.out; omega) (by have := NX2.out.size; simp; omega) ?_))
        intro v' w4 hown' hgrow _
        have hb4 := hid (below_push NX2.out NX2.out.size HO2.out hgrow)
        have OW := hid (show w4.ownsRow w1.heap.size 78 2 v' (keepR (rs.take (k + 1)) ids).length ((keepR (rs.take (k + 1)) ids).flatMap cR) by rw [HE.out]; simpa using hown')
        clear hown' hgrow
        go_wp2_with fail
        go_roundw
        case rel => exact ⟨k + 1, by have := HLT.out; omega, by go_num, OW.out, hb4.out⟩
        case measure => have := HLT.out; simp [intOf]; omega
    · rw [List.take_of_length_le (by omega)] at hown HKL
      have RR := hid (show RdR wr _ (keepR rs ids) from ⟨RdC.of_owns cR_length hown (by have := HKL.out; omega), fun r hr => by
        obtain ⟨k', hk'⟩ := List.mem_iff_getElem?.1 (List.mem_filter.1 hr).1
        exact (RC2.out k' r hk').2 wr BW.out⟩)
      have WI := hid (HWI.out (keepR rs ids) _ wr BW.out RR.out HKL.out (fun r hr => HV1.out r (List.mem_filter.1 hr).1))
      obtain ⟨uo, ucap, rfl, -⟩ := RdC.of_owns cR_length hown (by have := HKL.out; omega)
      have hw1 : w.heap.size + 1 < w1.heap.size := by have := HS1.out; omega
      have ZQ := hid (fun (W : World) (h : Below w1.heap.size w1 W) => And.intro ((h.cell (p := ⟨w.heap.size + 1, 0, none⟩) hw1).trans HZ.out.1) (And.intro ((h.cell (p := ⟨w.heap.size + 1, 1, none⟩) hw1).trans HZ.out.2.1) (And.intro ((h.cell (p := ⟨w.heap.size + 1, 2, none⟩) hw1).trans HZ.out.2.2.1) (And.intro ((h.frozen (p := ⟨w.heap.size + 1, 0, none⟩) hw1).trans (HZ.out.2.2.2 0)) (And.intro ((h.frozen (p := ⟨w.heap.size + 1, 1, none⟩) hw1).trans (HZ.out.2.2.2 1)) ((h.frozen (p := ⟨w.heap.size + 1, 2, none⟩) hw1).trans (HZ.out.2.2.2 2)))))))
      have HW1 := hid hw1
      clear hown hnx hw1 hsz
      obtain ⟨kr, hkr⟩ : ∃ kr, keepR rs ids = kr := ⟨_, rfl⟩
      rw [hkr] at WI
      have HKR := hid hkr
      rw [hkr]
      clear HKL RR hkr
      go_wp2_with fail
      refine WI.out.mono ?_
      rintro e w2 ⟨av', rv', rs', rfl, hT, hcp, hF, hb2⟩
      have NX2 := hid (NX.out.trans (hb2.mono NX.out.size))
      obtain ⟨z0, z1, z2, zf0, zf1, zf2⟩ := ZQ.out w2 NX2.out
      obtain ⟨ao', acap', rfl, -, -⟩ := hT.1.split
      obtain ⟨ro', rcap', rfl, -, -⟩ := RdR.split hT.2
      simp only at hT hF
      have HT2 := hid hT
      have HF2 := hid hF
      have HC2 := hid hcp
      clear hb2 hT hF hcp b0 b1 b2
      go_wp2_with fail
      obtain ⟨wf, hwf⟩ : ∃ wf : World, ((w2.setCell ⟨w.heap.size + 1, 0, none⟩ (.string nm)).setCell ⟨w.heap.size + 1, 1, none⟩ (.slice ao' ats.length acap')).setCell ⟨w.heap.size + 1, 2, none⟩ (.slice ro' rs'.length rcap') = wf := ⟨_, rfl⟩
      obtain ⟨r0, r1, r2⟩ := set3w z0 z1 z2 hwf
      have hF := HF2.out (w.heap.size + 1) (by have := HW1.out; have := NX.out.size; omega)
      have QA : RdE encT wf (.slice ao' ats.length acap') ats := by rw [← hwf]; exact RdE.set3 HT2.out.1 hF.1
      have QR : RdC cR wf (.slice ro' rs'.length rcap') rs' := by rw [← hwf]; exact RdC.set3 HT2.out.2.1 hF.2.1
      have QV : ∀ r ∈ rs', RdV wf r.2.1 r.2.2 := fun r hr => by rw [← hwf]; exact RdC.set3 (HT2.out.2.2 r hr) (hF.2.2 r hr)
      have BF : Below w.heap.size w w2 := B1.out.trans (NX2.out.mono (by have := HS1.out; omega))
      have QB : Below w.heap.size w wf := by rw [← hwf]; exact ((BF.setCell (p := ⟨w.heap.size + 1, 0, none⟩) (by simp) _).setCell (p := ⟨w.heap.size + 1, 1, none⟩) (by simp) _).setCell (p := ⟨w.heap.size + 1, 2, none⟩) (by simp) _
      rw [hwf]
      exact bodyPost_ret (v := .agg #[.string nm, .slice ao' ats.length acap', .slice ro' rs'.length rcap']) (by simp [results, Tryd.results17, go_sem, r0, r1, r2]) rfl ⟨_, _, rs', rfl, ⟨QA, QR, QV⟩, by rw [HKR.out]; exact HC2.out, QB⟩

end Go.Proofs.YtkbegpnchamgkaaDoor
