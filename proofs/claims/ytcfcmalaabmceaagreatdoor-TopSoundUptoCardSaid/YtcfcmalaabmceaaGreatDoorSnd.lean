/- The law TopSound. -/
import Derived.Test.YtcfcmalaabmceaaGreatDoorGAw
import Derived.Test.YtcfcmalaabmceaaGreatDoorGSnd
import Derived.Test.YtcfcmalaabmceaaGreatDoorGTab30
import Derived.Test.YtcfcmalaabmceaaGreatDoorGKmA
import Derived.Test.YtcfcmalaabmceaaGreatDoorGTopA
namespace Go.Proofs.YtcfcmalaabmceaaGreatDoor
open Go.RowKit
set_option linter.unusedVariables false
set_option linter.unusedSimpArgs false

theorem good_okR {t : T3} (h : GoodT t) : ∀ r ∈ t.2.2, okR t.2.1.length r := fun r hr => ⟨((tabE2_ok h.1).2.2 r hr).1, good_okT h r hr⟩
theorem box3_set {W : World} {b : Nat} {x y z v : Value} (h : W.cell? ⟨b, 0, none⟩ = some x ∧ W.cell? ⟨b, 1, none⟩ = some y ∧ W.cell? ⟨b, 2, none⟩ = some z) :
    (W.setCell ⟨b, 0, none⟩ v).cell? ⟨b, 0, none⟩ = some v ∧ (W.setCell ⟨b, 0, none⟩ v).cell? ⟨b, 1, none⟩ = some y ∧ (W.setCell ⟨b, 0, none⟩ v).cell? ⟨b, 2, none⟩ = some z := by
  refine ⟨World.cell?_setCell_same _ _ _ h.1, ?_, ?_⟩
  · rw [World.cell?_setCell_other _ _ _ _ (by simp)]; exact h.2.1
  · rw [World.cell?_setCell_other _ _ _ _ (by simp)]; exact h.2.2
theorem box3_kept {w W : World} {b : Nat} {x y z : Value} (h : w.cell? ⟨b, 0, none⟩ = some x ∧ w.cell? ⟨b, 1, none⟩ = some y ∧ w.cell? ⟨b, 2, none⟩ = some z) (hb : Below w.heap.size w W) :
    W.cell? ⟨b, 0, none⟩ = some x ∧ W.cell? ⟨b, 1, none⟩ = some y ∧ W.cell? ⟨b, 2, none⟩ = some z :=
  ⟨(hb.cell (p := ⟨b, 0, none⟩) (World.block_lt_of_cell? _ _ h.1)).trans h.1, (hb.cell (p := ⟨b, 1, none⟩) (World.block_lt_of_cell? _ _ h.2.1)).trans h.2.1, (hb.cell (p := ⟨b, 2, none⟩) (World.block_lt_of_cell? _ _ h.2.2)).trans h.2.2⟩
theorem box2_kept {w W : World} {b : Nat} {x y : Value} (h : w.cell? ⟨b, 0, none⟩ = some x ∧ w.cell? ⟨b, 1, none⟩ = some y) (hb : Below w.heap.size w W) :
    W.cell? ⟨b, 0, none⟩ = some x ∧ W.cell? ⟨b, 1, none⟩ = some y :=
  ⟨(hb.cell (p := ⟨b, 0, none⟩) (World.block_lt_of_cell? _ _ h.1)).trans h.1, (hb.cell (p := ⟨b, 1, none⟩) (World.block_lt_of_cell? _ _ h.2)).trans h.2⟩
theorem box3_far {w W : World} {b c : Nat} {x y z : Value} (h : w.cell? ⟨b, 0, none⟩ = some x ∧ w.cell? ⟨b, 1, none⟩ = some y ∧ w.cell? ⟨b, 2, none⟩ = some z) (hg : w.grownBy W (some c)) (hc : b ≠ c) :
    W.cell? ⟨b, 0, none⟩ = some x ∧ W.cell? ⟨b, 1, none⟩ = some y ∧ W.cell? ⟨b, 2, none⟩ = some z := by
  have k : ∀ (o : Nat) (v : Value), w.cell? ⟨b, o, none⟩ = some v → W.cell? ⟨b, o, none⟩ = some v := fun o v hv => (hg.cell_far ⟨b, o, none⟩ (World.block_lt_of_cell? _ _ hv) (fun e => hc (Option.some.inj e))).trans hv
  exact ⟨k _ _ h.1, k _ _ h.2.1, k _ _ h.2.2⟩
theorem box2_far {w W : World} {b c : Nat} {x y : Value} (h : w.cell? ⟨b, 0, none⟩ = some x ∧ w.cell? ⟨b, 1, none⟩ = some y) (hg : w.grownBy W (some c)) (hc : b ≠ c) :
    W.cell? ⟨b, 0, none⟩ = some x ∧ W.cell? ⟨b, 1, none⟩ = some y := by
  have k : ∀ (o : Nat) (v : Value), w.cell? ⟨b, o, none⟩ = some v → W.cell? ⟨b, o, none⟩ = some v := fun o v hv => (hg.cell_far ⟨b, o, none⟩ (World.block_lt_of_cell? _ _ hv) (fun e => hc (Option.some.inj e))).trans hv
  exact ⟨k _ _ h.1, k _ _ h.2⟩
theorem RdT.setF {W : World} {x av rv : Value} {t : T3} {p : Addr} (h : RdT W av rv t) (h1 : FarV av (some p.block)) (h2 : FarV rv (some p.block)) (h3 : ∀ r ∈ t.2.2, FarV r.2.1 (some p.block)) : RdT (W.setCell p x) av rv t :=
  ⟨RdE.setFar h.1 h1, RdC.setFar h.2.1 h2, fun r hr => RdC.setFar (h.2.2 r hr) (h3 r hr)⟩
/-- What the table satisfies it satisfies by what follows. -/
theorem snd_all {t : T3} (hG : GoodT t) {fs gs : List F} (hf : ∀ f ∈ fs, sub f.1 (fullN t.2.1.length) ∧ sub f.2 (fullN t.2.1.length)) (hg : ∀ f ∈ gs, sub f.1 (fullN t.2.1.length) ∧ sub f.2 (fullN t.2.1.length)) (hsat : satA t.2.1.length t.2.2 fs gs = true)
    {f : F} (h1 : sub f.1 (fullN t.2.1.length)) (h2 : sub f.2 (fullN t.2.1.length)) {ys zs : List S} (hY : BlkR t.2.1.length (allM fs gs) f.1 ys) (hZ : BlkR t.2.1.length (allM fs gs) f.1 zs) :
    (bfdB fs ys f = true → satB t.2.2 f = true ∧ (!(zs.any (cutB f.2))) = true) ∧ ((!(zs.any (cutB f.2))) = true → mvdC t.2.1.length t.2.2 f = true) := by
  have hn : t.2.1.length ≤ 16 := (tabE2_ok hG.1).1
  have hr := good_okR hG
  unfold satA at hsat
  rw [Bool.and_eq_true, List.all_eq_true, List.all_eq_true] at hsat
  have hF : ∀ f ∈ fs, fdH agA t.2.2 f.1 f.2 := fun f hfm => (satB_fdH hr hn (hf f hfm).1 (hf f hfm).2).1 (hsat.1 f hfm)
  have hM : ∀ f ∈ gs, mvdH agA t.2.2 (fullN t.2.1.length) f.1 f.2 := fun f hfm => (mvdC_iff hr hn (hg f hfm).1 (hg f hfm).2).1 (hsat.2 f hfm)
  refine ⟨fun hb => ⟨(satB_fdH hr hn h1 h2).2 (bfd_sound hn hf hg hF hM h1 h2 hY hb), ?_⟩, fun hc => (mvdC_iff hr hn h1 h2).2 (bmvd_sound hn hf hg hF hM h1 h2 hZ (by simpa using hc))⟩
  rw [fd_then hY hZ hb]; rfl

set_option maxHeartbeats 6400000 in
set_option maxRecDepth 100000 in
theorem tSoundL (a g : U8) (rr : List RcR) (rv : Value) (n : U8) (u u2 : Value) (d : D8) (w : World) (hT : Tab w) (hr : RdRc w rv rr) (h : ArgC cD w u) (hs : SizeLe u 1048576) (h2 : ArgC cD w u2) (hs2 : SizeLe u2 1048576) :
    Calls Tryz.prog 3 #[.agg #[.int .u8 (a.toNat : Int), .int .u8 (g.toNat : Int), rv], .agg #[enc8 n, u, u2], .agg #[enc8 d.1, enc8 d.2]] w fun e w' => e = .returned (.bool true) ∧ Below w.heap.size w w' := by
  have AW := hid (fun (W : World) (hb : Below w.heap.size w W) => awake20_any W (hT.below hb))
  have HT := hid hT
  obtain ⟨ao, len, cap, rfl, h⟩ := h
  have hlen := hs _ _ _ rfl
  obtain ⟨ds, hdl, hrd⟩ := h (by omega)
  obtain ⟨eo, len2, ecap, rfl, h2⟩ := h2
  have hlen2 := hs2 _ _ _ rfl
  obtain ⟨es, hel, hre⟩ := h2 (by omega)
  clear hs h hs2 h2
  have TB := hid (fun (W : World) (h : Below w.heap.size w W) (hm : 8 < rr.length) => table_big a g rr rv 8 W (hr.below h) hm)
  have TK := hid (fun (W : World) (h : Below w.heap.size w W) (hm : rr.length ≤ 8) => table_ok a g rr rv 8 W (hr.below h) hm (Nat.le_refl _))
  have MO := hid (fun (q : U8) (W : World) (h : Below w.heap.size w W) => mof_any q _ _ ds es W (hrd.below h) (hre.below h) (by omega) (by omega))
  have LI := hid (fun (k : Nat) (x : Value) (W : World) (hx : RdD W x [d]) => list_any (k : Int) [d] x W hx (by simp))
  have LM := hid (fun (k : Nat) (x : Value) (W : World) (hx : RdD W x [d]) => mlist_any (k : Int) [d] x W hx (by simp))
  have b1 := below_alloc w (.cells #[.int .u8 (a.toNat : Int), .int .u8 (g.toNat : Int), rv] 24)
  have C0 := hid (fun W h => cells3 (w := w) (a := .int .u8 (a.toNat : Int)) (b := .int .u8 (g.toNat : Int)) (c := rv) (t := 24) W h)
  have z1 : (w.alloc (.cells #[.int .u8 (a.toNat : Int), .int .u8 (g.toNat : Int), rv] 24)).heap.size = w.heap.size + 1 := by simp
  obtain ⟨wa, hwa⟩ : ∃ wa : World, w.alloc (.cells #[.int .u8 (a.toNat : Int), .int .u8 (g.toNat : Int), rv] 24) = wa := ⟨_, rfl⟩
  rw [hwa] at b1 C0 z1
  have b2 := below_alloc wa (.cells #[enc8 n, .slice ao len cap, .slice eo len2 ecap] 29)
  have C1 := hid (fun W h => cells3 (w := wa) (a := enc8 n) (b := .slice ao len cap) (c := .slice eo len2 ecap) (t := 29) W h)
  have z2 : (wa.alloc (.cells #[enc8 n, .slice ao len cap, .slice eo len2 ecap] 29)).heap.size = wa.heap.size + 1 := by simp
  have fz : (wa.alloc (.cells #[enc8 n, .slice ao len cap, .slice eo len2 ecap] 29)).frozen? ⟨wa.heap.size, 0, none⟩ = false := by simp
  obtain ⟨wb, hwb⟩ : ∃ wb : World, wa.alloc (.cells #[enc8 n, .slice ao len cap, .slice eo len2 ecap] 29) = wb := ⟨_, rfl⟩
  rw [hwb] at b2 C1 z2 fz
  have b3 := below_alloc wb (.cells #[enc8 d.1, enc8 d.2] 31)
  have C2 := hid (fun W h => cells2 (w := wb) (a := enc8 d.1) (b := enc8 d.2) (t := 31) W h)
  have z0 : (wb.alloc (.cells #[enc8 d.1, enc8 d.2] 31)).heap.size = wb.heap.size + 1 := by simp
  obtain ⟨w0, hw0⟩ : ∃ w0 : World, wb.alloc (.cells #[enc8 d.1, enc8 d.2] 31) = w0 := ⟨_, rfl⟩
  rw [hw0] at b3 C2 z0
  rw [z2, z1] at C2
  rw [z1] at C1 fz
  have hb0 := b1.trans ((b2.trans (b3.mono b2.size)).mono b1.size)
  replace C0 := hid (fun (W : World) (h : Below w0.heap.size w0 W) => C0.out W (b2.trans ((b3.trans (h.mono b3.size)).mono b2.size)))
  replace C1 := hid (fun (W : World) (h : Below w0.heap.size w0 W) => C1.out W (b3.trans (h.mono b3.size)))
  have FZ := hid (show ∀ W, Below w0.heap.size w0 W → W.frozen? ⟨w.heap.size + 1, 0, none⟩ = false from fun W h =>
    ((b3.trans (h.mono b3.size)).frozen (p := ⟨w.heap.size + 1, 0, none⟩) (by simp only; omega)).trans fz)
  rw [← hwb, ← hwa] at hw0
  rw [z2, z1] at z0
  have B0 := hid hb0
  have W0 := hid hw0
  have Z0 := hid z0
  obtain ⟨c0, c1, c2⟩ := C0.out _ (Below.refl _ _)
  clear hT hr hrd hre b1 b2 b3 hb0 z1 z2 z0 hw0 fz hwa hwb
  have HDL := hid (show ds.length ≤ 1048576 by omega)
  have HEL := hid (show es.length ≤ 1048576 by omega)
  unfold enc8 at *
  have a255 : (a.toNat : Int) < 256 := by have := a.isLt; omega
  have g255 : (g.toNat : Int) < 256 := by have := g.isLt; omega
  by_cases hm : rr.length ≤ 8
  · have TT := hid (TK.out _ B0.out hm)
    clear TB TK hm
    go_enter Tryz.func3, Tryz.ntmps3
    go_upto_region 1 with fail
    rw [W0.out]
    go_wp2_with fail
    refine TT.out.mono ?_
    rintro e w1 ⟨av, tv, t, rfl, hTT, hG, -, -, hF, hb1⟩
    have D1 := hid hb1
    have HTT := hid hTT
    have HG := hid hG
    have HF := hid hF
    obtain ⟨nm, ats, rs⟩ := t
    simp only at HTT HF
    have hL5 : ats.length ≤ 5 := hG.2.1
    obtain ⟨ta, tcap, hva, -⟩ := hTT.1.split
    simp only at hva
    subst hva
    obtain ⟨tr, rcap, hvt, -⟩ := RdR.split hTT.2
    simp only at hvt
    subst hvt
    obtain ⟨av, hav⟩ : ∃ av : Value, Value.slice ta ats.length tcap = av := ⟨_, rfl⟩
    obtain ⟨tv, htv⟩ : ∃ tv : Value, Value.slice tr rs.length rcap = tv := ⟨_, rfl⟩
    rw [hav, htv] at HTT HF
    have VA := hid hav
    have VT := hid htv
    have L0 : (0 : Int) ≤ (ats.length : Int) := by omega
    have L8 : (ats.length : Int) < 256 := by omega
    have LW : IntKind.u8.wrap (ats.length : Int) = (ats.length : Int) := by
      rw [IntKind.wrap_u8]; omega
    have hb12 := below_alloc w1 (.cells #[.string nm, .slice ta ats.length tcap, .slice tr rs.length rcap] 35)
    have C3 := hid (fun W h => cells3 (w := w1) (a := .string nm) (b := .slice ta ats.length tcap) (c := .slice tr rs.length rcap) (t := 35) W h)
    obtain ⟨w2, hw2⟩ : ∃ w2 : World, w1.alloc (.cells #[.string nm, .slice ta ats.length tcap, .slice tr rs.length rcap] 35) = w2 := ⟨_, rfl⟩
    rw [hw2] at hb12 C3
    have W2 := hid hw2
    have D2 := hid (D1.out.trans (hb12.mono D1.out.size))
    obtain ⟨tb, htb⟩ : ∃ tb, w1.heap.size = tb := ⟨_, rfl⟩
    rw [htb] at C3
    have HTB := hid htb
    have TB0 := hid (show w.heap.size + 1 < tb by have h1 := D1.out.size; have h2 := Z0.out; omega)
    have T2 := hid (HTT.out.below hb12)
    have HN := hid (show ∃ q : U8, q.toNat = ats.length from ⟨BitVec.ofNat 8 ats.length, by simp; omega⟩)
    clear hTT hG hF hb1 hb12 hw2 htb TT hav htv
    have SG := hid (grownBy_setC w2 ⟨w.heap.size + 1, 0, none⟩ (.int .u8 (ats.length : Int)))
    have M3 := hid (box3_set (v := .int .u8 (ats.length : Int)) (C1.out _ D2.out))
    have SB := hid (show Below w.heap.size w (w2.setCell ⟨w.heap.size + 1, 0, none⟩ (.int .u8 (ats.length : Int))) from (B0.out.trans (D2.out.mono B0.out.size)).setCell (p := ⟨w.heap.size + 1, 0, none⟩) (by simp only; omega) _)
    have T3' := hid (T2.out.setF (x := .int .u8 (ats.length : Int)) (p := ⟨w.heap.size + 1, 0, none⟩) (HF.out _ (by have := Z0.out; simp only; omega)).1 (HF.out _ (by have := Z0.out; simp only; omega)).2.1 (HF.out _ (by have := Z0.out; simp only; omega)).2.2)
    have MC := C1.out _ D2.out
    have mf := FZ.out _ D2.out
    obtain ⟨m0, m1, m2⟩ := MC
    obtain ⟨w3, hw3⟩ : ∃ w3 : World, w2.setCell ⟨w.heap.size + 1, 0, none⟩ (.int .u8 (ats.length : Int)) = w3 := ⟨_, rfl⟩
    rw [hw3] at SG M3 SB T3'
    have W3 := hid hw3
    have CT := hid (fun (W : World) (h : Below w3.heap.size w3 W) => box3_kept (box3_far (C3.out _ (Below.refl _ _)) SG.out (by have := TB0.out; simp only; omega)) h)
    have CM := hid (fun (W : World) (h : Below w3.heap.size w3 W) => box3_kept M3.out h)
    have CD := hid (fun (W : World) (h : Below w3.heap.size w3 W) => box2_kept (box2_far (C2.out _ D2.out) SG.out (by simp only; omega)) h)
    have T3 := hid (fun (W : World) (h : Below w3.heap.size w3 W) => T3'.out.below h)
    have BB := hid (fun (W : World) (h : Below w3.heap.size w3 W) => SB.out.trans (h.mono SB.out.size))
    clear hw3
    go_upto_region 2 with fail
    rw [W2.out, HTB.out]
    obtain ⟨t0, t1, t2⟩ := C3.out _ (Below.refl _ _)
    clear c0 c1 c2
    go_upto_region 3 with fail
    rw [W3.out]
    clear t0 t1 t2 m0 m1 m2 mf
    obtain ⟨m0, m1, m2⟩ := CM.out _ (Below.refl _ _)
    obtain ⟨q, hq⟩ := HN.out
    have hq7 : q.toNat % 7 = ats.length := by rw [hq]; omega
    have OF := hid (MO.out q w3 (BB.out _ (Below.refl _ _)))
    have OFE := hid (show (decide (ds.length ≤ 6) && decide (es.length ≤ 4)) = true → ds.length ≤ 6 ∧ es.length ≤ 4 from fun h => by simpa using h)
    rw [hq7, hq] at OF
    have hw1 := w2_list (fullN ats.length) ds
    have hw2 := w2_list (fullN ats.length) es
    have hl1 := listF_length (fullN ats.length) ds
    have hl2 := listF_length (fullN ats.length) es
    obtain ⟨fs, hfs⟩ : ∃ fs, listF (fullN ats.length) ds = fs := ⟨_, rfl⟩
    obtain ⟨gs, hgs⟩ : ∃ gs, listF (fullN ats.length) es = gs := ⟨_, rfl⟩
    rw [hfs] at OF hw1 hl1
    rw [hgs] at OF hw2 hl2
    have HW1 := hid hw1
    have HW2 := hid hw2
    have HL1 := hid hl1
    have HL2 := hid hl2
    obtain ⟨okb, hokb⟩ : ∃ okb, (decide (ds.length ≤ 6) && decide (es.length ≤ 4)) = okb := ⟨_, rfl⟩
    rw [hokb] at OF OFE
    clear hq hq7 hw1 hw2 hl1 hl2 hfs hgs hokb HN MO
    go_wp2_with fail
    refine OF.out.mono ?_
    rintro e w4 ⟨v1, v2, rfl, hr1, hr2, hb4⟩
    have D4 := hid hb4
    have R1 := hid hr1
    have R2 := hid hr2
    obtain ⟨xo, xcap, rfl, -⟩ := hr1
    obtain ⟨yo, ycap, rfl, -⟩ := hr2
    have AW2 := hid (fun (W : World) (hb : Below w3.heap.size w3 W) => AW.out W (BB.out _ hb))
    clear hb4 OF m0 m1 m2 AW
    go_wp2_with fail
    refine (AW2.out _ D4.out).mono ?_
    rintro e w5 ⟨rfl, hb5⟩
    have D5 := hid (D4.out.trans (hb5.mono D4.out.size))
    have R15 := hid (RdC.below R1.out hb5)
    have R25 := hid (RdC.below R2.out hb5)
    clear hb5 R1 R2
    obtain ⟨t0, t1, t2⟩ := CT.out _ D5.out
    cases okb with
    | false =>
      go_wp2_with fail
      refine (AW2.out _ D5.out).mono ?_
      rintro e w6 ⟨rfl, hb6⟩
      have BF := hid (BB.out _ (D5.out.trans (hb6.mono D5.out.size)))
      clear hb6 t0 t1 t2
      go_wp2_with fail
      go_ret
      exact ⟨rfl, BF.out⟩
    | true =>
      have hds := OFE.out rfl
      have VAL := hid (w2_valid (n := ats.length) (by omega) (show fs.length ≤ 64 by have := HL1.out; omega) HW1.out)
      have FL := hid (show fs.length ≤ 64 ∧ gs.length ≤ 64 by have h1 := HL1.out; have h2 := HL2.out; omega)
      have SA := hid (fun (W : World) (hb : Below w3.heap.size w3 W) (hx : RdF W (.slice xo fs.length xcap) fs) (hy : RdF W (.slice yo gs.length ycap) gs) => rsat_all (nm, ats, rs) av tv _ _ fs gs W (T3.out W hb) (HT.out.below (BB.out W hb)) HG.out.1 (good_okT HG.out) hx hy VAL.out FL.out.1 FL.out.2 HW1.out HW2.out)
      simp only at SA
      rw [← VA.out, ← VT.out] at SA
      clear hds OFE
      go_wp2_with fail
      refine (SA.out _ D5.out R15.out R25.out).mono ?_
      rintro e w6 ⟨rfl, hb6⟩
      have D6 := hid (D5.out.trans (hb6.mono D5.out.size))
      have R16 := hid (RdC.below R15.out hb6)
      have R26 := hid (RdC.below R25.out hb6)
      clear hb6 R15 R25 t0 t1 t2
      cases hsat : satA ats.length rs fs gs with
      | false =>
        clear hsat
        go_wp2_with fail
        go_ret
        exact ⟨rfl, BB.out _ D6.out⟩
      | true =>
        have HSAT := hid hsat
        clear hsat
        have hmn : min ((ats.length : Nat) : Int).toNat 32 = ats.length := by omega
        have LI1 := hid (fun (x : Value) (W : World) (hx : RdD W x [d]) => LI.out ats.length x W hx)
        have LM1 := hid (fun (x : Value) (W : World) (hx : RdD W x [d]) => LM.out ats.length x W hx)
        have hdl1 : listF (fullN ats.length) [d] = [(wd d.1 &&& fullN ats.length, wd d.2 &&& fullN ats.length)] := rfl
        rw [hmn, hdl1] at LI1 LM1
        obtain ⟨f, hf⟩ : ∃ f : F, ((wd d.1 &&& fullN ats.length, wd d.2 &&& fullN ats.length) : F) = f := ⟨_, rfl⟩
        rw [hf] at LI1 LM1
        have F1 := hid (show sub f.1 (fullN ats.length) by rw [← hf]; exact and_sub_right _ _)
        have F2 := hid (show sub f.2 (fullN ats.length) by rw [← hf]; exact and_sub_right _ _)
        have LD := hid (RdC.lit (c := cD) cD_length w6 [d] 31 (by simp) (by decide))
        have BA := hid (below_alloc w6 (.cells ([d].flatMap cD).toArray 31))
        rw [show ([d].flatMap cD).toArray = #[.int .u8 (d.1.toNat : Int), .int .u8 (d.2.toNat : Int)] from rfl] at LD BA
        obtain ⟨d0, d1⟩ := CD.out _ D6.out
        clear hmn hdl1 hf LI LM
        go_wp2_with fail
        refine (LI1.out _ _ LD.out).mono ?_
        rintro e w7 ⟨v7, rfl, ho7, hb7⟩
        have D7 := hid (D6.out.trans ((BA.out.trans (hb7.mono BA.out.size)).mono D6.out.size))
        have R17 := hid (RdC.below R16.out (BA.out.trans (hb7.mono BA.out.size)))
        have R27 := hid (RdC.below R26.out (BA.out.trans (hb7.mono BA.out.size)))
        obtain ⟨zo, zcap, rfl, -, hzc⟩ := RdF.split (RdC.of_owns cF_length ho7 (by simp))
        obtain ⟨zb, zoff, rfl, hzd⟩ := hzc 0 f rfl
        obtain ⟨y0, y1⟩ := hzd w7 (Below.refl _ _)
        simp only [Nat.zero_mul, Nat.add_zero, List.length_singleton] at y0 y1
        have B78 := hid (below_alloc w7 (.cells #[.int .u32 (iv f.1), .int .u32 (iv f.2)] 49))
        have CF := hid (fun (W : World) h => cells2 (w := w7) (a := .int .u32 (iv f.1)) (b := .int .u32 (iv f.2)) (t := 49) W h)
        obtain ⟨w8, hw8⟩ : ∃ w8 : World, w7.alloc (.cells #[.int .u32 (iv f.1), .int .u32 (iv f.2)] 49) = w8 := ⟨_, rfl⟩
        rw [hw8] at B78 CF
        have W8 := hid hw8
        have D8 := hid (D7.out.trans (B78.out.mono D7.out.size))
        have R18 := hid (RdC.below R17.out B78.out)
        have R28 := hid (RdC.below R27.out B78.out)
        obtain ⟨fb, hfb⟩ : ∃ fb, w7.heap.size = fb := ⟨_, rfl⟩
        rw [hfb] at CF
        have HFB := hid hfb
        clear hb7 ho7 hzc hzd hw8 hfb d0 d1 R16 R26 LD BA
        simp only [List.length_singleton]
        go_upto_region 10 with fail
        rw [W8.out, HFB.out]
        clear y0 y1
        have LD := hid (RdC.lit (c := cD) cD_length w8 [d] 31 (by simp) (by decide))
        have BA := hid (below_alloc w8 (.cells ([d].flatMap cD).toArray 31))
        rw [show ([d].flatMap cD).toArray = #[.int .u8 (d.1.toNat : Int), .int .u8 (d.2.toNat : Int)] from rfl] at LD BA
        obtain ⟨d0, d1⟩ := CD.out _ D8.out
        go_wp2_with fail
        refine (LM1.out _ _ LD.out).mono ?_
        rintro e w9 ⟨v9, rfl, ho9, hb9⟩
        have X89 := hid (BA.out.trans (hb9.mono BA.out.size))
        have D9 := hid (D8.out.trans (X89.out.mono D8.out.size))
        have R19 := hid (RdC.below R18.out X89.out)
        have R29 := hid (RdC.below R28.out X89.out)
        obtain ⟨zo, zcap, rfl, -, hzc⟩ := RdF.split (RdC.of_owns cF_length ho9 (by simp))
        obtain ⟨zb, zoff, rfl, hzd⟩ := hzc 0 f rfl
        obtain ⟨y0, y1⟩ := hzd w9 (Below.refl _ _)
        simp only [Nat.zero_mul, Nat.add_zero, List.length_singleton] at y0 y1
        have B9A := hid (below_alloc w9 (.cells #[.int .u32 (iv f.1), .int .u32 (iv f.2)] 51))
        have CG := hid (fun (W : World) h => cells2 (w := w9) (a := .int .u32 (iv f.1)) (b := .int .u32 (iv f.2)) (t := 51) W h)
        obtain ⟨wA, hwA⟩ : ∃ wA : World, w9.alloc (.cells #[.int .u32 (iv f.1), .int .u32 (iv f.2)] 51) = wA := ⟨_, rfl⟩
        rw [hwA] at B9A CG
        have WA := hid hwA
        have DA := hid (D9.out.trans (B9A.out.mono D9.out.size))
        have R1A := hid (RdC.below R19.out B9A.out)
        have R2A := hid (RdC.below R29.out B9A.out)
        obtain ⟨gb, hgb⟩ : ∃ gb, w9.heap.size = gb := ⟨_, rfl⟩
        rw [hgb] at CG
        have HGB := hid hgb
        have CF2 := hid (fun (W : World) (h : Below wA.heap.size wA W) => CF.out W (X89.out.trans ((B9A.out.trans (h.mono B9A.out.size)).mono X89.out.size)))
        clear hb9 ho9 hzc hzd hwA hgb d0 d1 R17 R27 R18 R28 R19 R29 LD BA
        simp only [List.length_singleton]
        go_upto_region 11 with fail
        rw [WA.out, HGB.out]
        clear y0 y1
        have hsh : (f.1 ||| f.2) >>> ats.length = 0#32 := beq_iff_eq.1 ((shrOk_sub (by have := HG.out.2.1; simp only at this; omega)).2 (sub_or.2 ⟨F1.out, F2.out⟩))
        have HSH := hid hsh
        have GG := hid (show ∀ m ∈ gs, (m.1 ||| m.2) >>> ats.length = 0#32 from fun m hm => beq_iff_eq.1 ((shrOk_sub (by have := HG.out.2.1; simp only at this; omega)).2 (sub_or.2 (HW2.out m hm))))
        have I1 := hid (fun (W : World) (h : Below w3.heap.size w3 W) (hx : RdF W (.slice xo fs.length xcap) fs) (hy : RdF W (.slice yo gs.length ycap) gs) => bfd_any ats.length fs gs f _ _ W (HT.out.below (BB.out W h)) hx hy (by omega) VAL.out FL.out.1 FL.out.2 GG.out HSH.out)
        have I2 := hid (fun (W : World) (h : Below w3.heap.size w3 W) (hx : RdF W (.slice xo fs.length xcap) fs) (hy : RdF W (.slice yo gs.length ycap) gs) => bmvd_any ats.length fs gs f _ _ W (HT.out.below (BB.out W h)) hx hy (by omega) VAL.out FL.out.1 FL.out.2 GG.out HSH.out)
        have I3 := hid (fun (W : World) (h : Below w3.heap.size w3 W) => pHolds_any (nm, ats, rs) av tv f W (T3.out W h) (HT.out.below (BB.out W h)) HG.out.1 (good_okT HG.out) F1.out F2.out)
        have I4 := hid (fun (W : World) (h : Below w3.heap.size w3 W) => bholds_any (nm, ats, rs) av tv f W (T3.out W h) (HT.out.below (BB.out W h)) HG.out.1 (good_okT HG.out) F1.out F2.out)
        simp only at I3 I4
        rw [← VA.out, ← VT.out] at I3 I4
        obtain ⟨f0, f1⟩ := CF2.out _ (Below.refl _ _)
        clear hsh
        go_wp2_with fail
        refine (I1.out _ DA.out R1A.out R2A.out).mono ?_
        rintro e wB ⟨ys, hys, rfl, hbB⟩
        have DB := hid (DA.out.trans (hbB.mono DA.out.size))
        have XB := hid hbB
        have R1B := hid (RdC.below R1A.out hbB)
        have R2B := hid (RdC.below R2A.out hbB)
        have HYS := hid hys
        clear hbB hys f0 f1 R1A R2A
        obtain ⟨g0, g1⟩ := CG.out _ XB.out
        go_wp2_with fail
        refine (I2.out _ DB.out R1B.out R2B.out).mono ?_
        rintro e wC ⟨zs, hzs, rfl, hbC⟩
        have DC := hid (DB.out.trans (hbC.mono DB.out.size))
        have XC := hid (XB.out.trans (hbC.mono XB.out.size))
        obtain ⟨P1, P2⟩ := snd_all HG.out HW1.out HW2.out HSAT.out F1.out F2.out HYS.out hzs
        have Q1 := hid P1
        have Q2 := hid P2
        clear hbC hzs g0 g1 R1B R2B P1 P2
        simp only at Q1 Q2
        obtain ⟨t0, t1, t2⟩ := CT.out _ DC.out
        obtain ⟨f0, f1⟩ := CF2.out _ XC.out
        go_wp2_with fail
        refine (I3.out _ DC.out).mono ?_
        rintro e wD ⟨rfl, hbD⟩
        have DD := hid (DC.out.trans (hbD.mono DC.out.size))
        have XD := hid (XC.out.trans (hbD.mono XC.out.size))
        clear hbD t0 t1 t2 f0 f1
        obtain ⟨t0, t1, t2⟩ := CT.out _ DD.out
        obtain ⟨g0, g1⟩ := CG.out _ XD.out
        go_wp2_with fail
        refine (I4.out _ DD.out).mono ?_
        rintro e wE ⟨rfl, hbE⟩
        have BF := hid (BB.out _ (DD.out.trans (hbE.mono DD.out.size)))
        clear hbE t0 t1 t2 g0 g1
        obtain ⟨p1, hp1⟩ : ∃ p1, bfdB fs ys f = p1 := ⟨_, rfl⟩
        obtain ⟨p2, hp2⟩ : ∃ p2, (!(zs.any (cutB f.2))) = p2 := ⟨_, rfl⟩
        obtain ⟨p3, hp3⟩ : ∃ p3, satB rs f = p3 := ⟨_, rfl⟩
        obtain ⟨p4, hp4⟩ : ∃ p4, mvdC ats.length rs f = p4 := ⟨_, rfl⟩
        rw [hp1, hp2, hp3] at Q1
        rw [hp2, hp4] at Q2
        rw [hp1, hp2, hp3, hp4]
        have q1 := Q1.out
        have q2 := Q2.out
        clear hp1 hp2 hp3 hp4 Q1 Q2
        cases p1 <;> cases p2 <;> cases p3 <;> cases p4 <;> (simp only [reduceCtorEq, and_true, and_false, true_and, false_and, forall_const, imp_false, not_true, not_false_eq_true, imp_self, implies_true] at q1 q2) <;> first
          | contradiction
          | skip
        all_goals
          go_wp2_with fail
          go_ret
          exact ⟨rfl, BF.out⟩
  · have TT := hid (TB.out _ B0.out (by omega))
    clear TB TK hm
    go_enter Tryz.func3, Tryz.ntmps3
    go_upto_region 1 with fail
    rw [W0.out]
    go_wp2_with fail
    refine TT.out.mono ?_
    rintro e w1 ⟨rfl, hb1⟩
    have D1 := hid hb1
    have hb12 := below_alloc w1 (.cells #[.string (ByteArray.mk #[]), .slice none 0 0, .slice none 0 0] 35)
    have C3 := hid (fun W h => cells3 (w := w1) (a := .string (ByteArray.mk #[])) (b := .slice none 0 0) (c := .slice none 0 0) (t := 35) W h)
    obtain ⟨w2, hw2⟩ : ∃ w2 : World, w1.alloc (.cells #[.string (ByteArray.mk #[]), .slice none 0 0, .slice none 0 0] 35) = w2 := ⟨_, rfl⟩
    rw [hw2] at hb12 C3
    have W2 := hid hw2
    have D2 := hid (D1.out.trans (hb12.mono D1.out.size))
    obtain ⟨tb, htb⟩ : ∃ tb, w1.heap.size = tb := ⟨_, rfl⟩
    rw [htb] at C3
    have HTB := hid htb
    have TB0 := hid (show w.heap.size + 1 < tb by have h1 := D1.out.size; have h2 := Z0.out; omega)
    have LW : IntKind.u8.wrap (0 : Int) = 0 := by
      rw [IntKind.wrap_u8]; rfl
    have SG := hid (grownBy_setC w2 ⟨w.heap.size + 1, 0, none⟩ (.int .u8 0))
    have M3 := hid (box3_set (v := .int .u8 0) (C1.out _ D2.out))
    have SB := hid (show Below w.heap.size w (w2.setCell ⟨w.heap.size + 1, 0, none⟩ (.int .u8 0)) from (B0.out.trans (D2.out.mono B0.out.size)).setCell (p := ⟨w.heap.size + 1, 0, none⟩) (by simp only; omega) _)
    have MC := C1.out _ D2.out
    have mf := FZ.out _ D2.out
    obtain ⟨m0, m1, m2⟩ := MC
    obtain ⟨w3, hw3⟩ : ∃ w3 : World, w2.setCell ⟨w.heap.size + 1, 0, none⟩ (.int .u8 0) = w3 := ⟨_, rfl⟩
    rw [hw3] at SG M3 SB
    have W3 := hid hw3
    have CT := hid (fun (W : World) (h : Below w3.heap.size w3 W) => box3_kept (box3_far (C3.out _ (Below.refl _ _)) SG.out (by have := TB0.out; simp only; omega)) h)
    have CM := hid (fun (W : World) (h : Below w3.heap.size w3 W) => box3_kept M3.out h)
    have BB := hid (fun (W : World) (h : Below w3.heap.size w3 W) => SB.out.trans (h.mono SB.out.size))
    clear hb1 hb12 hw2 htb hw3 TT
    go_upto_region 2 with fail
    rw [W2.out, HTB.out]
    obtain ⟨t0, t1, t2⟩ := C3.out _ (Below.refl _ _)
    clear c0 c1 c2
    go_upto_region 3 with fail
    rw [W3.out]
    clear t0 t1 t2 m0 m1 m2 mf
    obtain ⟨m0, m1, m2⟩ := CM.out _ (Below.refl _ _)
    have OF := hid (MO.out (0#8) w3 (BB.out _ (Below.refl _ _)))
    rw [show (0#8).toNat % 7 = 0 from rfl, show ((0#8).toNat : Int) = 0 from rfl, show ((0 : Nat) : Int) = 0 from rfl] at OF
    obtain ⟨fs, hfs⟩ : ∃ fs, listF (fullN 0) ds = fs := ⟨_, rfl⟩
    obtain ⟨gs, hgs⟩ : ∃ gs, listF (fullN 0) es = gs := ⟨_, rfl⟩
    rw [hfs, hgs] at OF
    obtain ⟨okb, hokb⟩ : ∃ okb, (decide (ds.length ≤ 6) && decide (es.length ≤ 4)) = okb := ⟨_, rfl⟩
    rw [hokb] at OF
    clear hfs hgs hokb MO LI LM
    go_wp2_with fail
    refine OF.out.mono ?_
    rintro e w4 ⟨v1, v2, rfl, hr1, hr2, hb4⟩
    have D4 := hid hb4
    obtain ⟨xo, xcap, rfl, -⟩ := hr1
    obtain ⟨yo, ycap, rfl, -⟩ := hr2
    have AW2 := hid (fun (W : World) (hb : Below w3.heap.size w3 W) => AW.out W (BB.out _ hb))
    clear hb4 OF m0 m1 m2 AW
    go_wp2_with fail
    refine (AW2.out _ D4.out).mono ?_
    rintro e w5 ⟨rfl, hb5⟩
    have D5 := hid (D4.out.trans (hb5.mono D4.out.size))
    obtain ⟨t0, t1, t2⟩ := CT.out _ D5.out
    clear hb5
    go_wp2_with fail
    refine (AW2.out _ D5.out).mono ?_
    rintro e w6 ⟨rfl, hb6⟩
    have BF := hid (BB.out _ (D5.out.trans (hb6.mono D5.out.size)))
    clear hb6 t0 t1 t2
    go_wp2_with fail
    go_ret
    exact ⟨rfl, BF.out⟩

end Go.Proofs.YtcfcmalaabmceaaGreatDoor
