/- Texts that belong together, in one file. -/
import Derived.Test.YtgahpgmagfngfaaGreatDoorGPtA
import Derived.Test.YtgahpgmagfngfaaGreatDoorKmE
/- The walk of partition.of. -/
namespace Go.Proofs.YtgahpgmagfngfaaGreatDoor
open Go.RowKit
set_option linter.unusedVariables false

theorem bld_below {B b : Nat} {p : Value} {bs : List Value} {w w' : World} (h : Lib.BuilderAt TB 5 B b p bs w) (hb : Below w.heap.size w w') : Lib.BuilderAt TB 5 B b p bs w' := by
  obtain ⟨h1, v, h2, h3, h4⟩ := h
  exact ⟨h1, v, (hb.block b (Array.getElem?_eq_some_iff.1 h2).1).trans h2, own_below h3 hb, h4⟩
theorem isb_below {B b : Nat} {bs : List Value} {w w' : World} (h : Lib.IsBuilder TB 5 B b bs w) (hb : Below w.heap.size w w') : Lib.IsBuilder TB 5 B b bs w' := by
  rcases h with h | h
  · exact .inl (bld_below h hb)
  · exact .inr (bld_below h hb)
theorem isb_new (w : World) : Lib.IsBuilder TB 5 w.heap.size w.heap.size [] (w.alloc (.cells #[.pointer none, .slice none 0 0] TB)) :=
  .inl ⟨Nat.le_refl _, .slice none 0 0, heap_alloc_new w _, World.ownsRow_nil _ _ _ _, by simp [Value.ownBlock]⟩
theorem infoStrB : (Tryz.prog.info? 9).map (fun i => (i.zero, i.size, i.bytes)) = some (some (.string (ByteArray.mk #[])), 1, 16) := by kernel_rfl
theorem undStrsB : Tryz.prog.underlying 45 = some (.slice 9) := by kernel_rfl
theorem strCells_byte (x : List UInt8) : Lib.strCells ⟨x.toArray⟩ = Lib.byteCells x := by unfold Lib.strCells Lib.byteCells; rfl
def ks0 : KS := ⟨ByteArray.mk #[], Nat.zero_le _⟩

set_option maxHeartbeats 6400000 in
set_option maxRecDepth 100000 in
theorem pof_any (t : T3) (av rv : Value) (s : S) (w : World) (ht : RdT w av rv t) (hT : Tab w) (hbits : ∀ i, t.2.1.length ≤ i → s.getLsbD i = false) (h16 : t.2.1.length ≤ 32) (h1000 : t.2.2.length ≤ 1000)
    (hrows : ∀ r ∈ t.2.2, r.2.2.length = t.2.1.length) (hok : ∀ r ∈ t.2.2, ∀ x ∈ r.2.2, okV x) :
    Calls Tryz.prog 136 #[.agg #[.string t.1, av, rv], .int .u32 (iv s)] w fun e w' => ∃ (v' : Value) (gs : List Gp), e = .returned (.agg #[.int .i64 (t.2.2.length : Int), v']) ∧ RdG w' v' gs ∧ gs.map (·.2) = clsK (t.2.2.map fun r => mkKS (kyB r.2.2 (memN s 32))) ∧ FarG w.heap.size v' gs ∧ Below w.heap.size w w' := by
  have hb0 := below_alloc w (.cells #[.string t.1, av, rv] 48)
  have C3 := hid (fun W h => cells3 (w := w) (a := .string t.1) (b := av) (c := rv) (t := 48) W h)
  have T0 := hid (ht.below hb0)
  obtain ⟨w0, hw0⟩ : ∃ w0 : World, w.alloc (.cells #[.string t.1, av, rv] 48) = w0 := ⟨_, rfl⟩
  rw [hw0] at hb0 C3 T0
  have B0 := hid hb0
  have W0 := hid hw0
  have hsz0 := hb0.size
  clear hb0 hw0
  obtain ⟨z0, z1⟩ := cells2 (w := w0) (a := .int .i64 0) (b := .slice none 0 0) (t := 165) _ (Below.refl _ _)
  have zf : ∀ j, (w0.alloc (.cells #[.int .i64 0, .slice none 0 0] 165)).frozen? ⟨w0.heap.size, j, none⟩ = false := fun j => by simp
  have hb1 := below_alloc w0 (.cells #[.int .i64 0, .slice none 0 0] 165)
  obtain ⟨w1, hw1⟩ : ∃ w1 : World, w0.alloc (.cells #[.int .i64 0, .slice none 0 0] 165) = w1 := ⟨_, rfl⟩
  have hs1 : w1.heap.size = w0.heap.size + 1 := by rw [← hw1]; simp
  rw [hw1] at z0 z1 zf hb1
  have q0 : w0.heap.size = w.heap.size + 1 := by rw [← W0.out]; simp
  rw [q0] at z0 z1 zf hs1
  have HS1 := hid hs1
  have HZ := hid (And.intro z0 (And.intro z1 zf))
  have W1 := hid hw1
  have D1 := hid hb1
  have HT1 := hid ((hT.below B0.out).below hb1)
  have T1 := hid (T0.out.below hb1)
  clear z0 z1 zf hb1 hw1 q0 hs1
  have MM := hid (amembers_any s w1 HT1.out)
  have KY := hid (fun (x : V3) (hx : okV x) (W : World) => key_any x hx W)
  obtain ⟨nm, ats, rs⟩ := t
  have HR := hid (show ∀ r ∈ rs, r.2.2.length = ats.length from hrows)
  have HOK := hid (show ∀ r ∈ rs, ∀ x ∈ r.2.2, okV x from hok)
  have HMS := hid (show ∀ a ∈ memN s 32, a < ats.length from fun a ha => by
    by_cases h : a < ats.length
    · exact h
    · have := (mem_memN.1 ha).2
      rw [hbits a (by show ats.length ≤ a; omega)] at this; cases this)
  have HML := hid (memN_length s 32)
  replace h1000 : rs.length ≤ 1000 := h1000
  have HRL := hid h1000
  show Calls _ _ _ _ fun e w' => ∃ (v' : Value) (gs : List Gp), e = .returned (.agg #[.int .i64 (rs.length : Int), v']) ∧ RdG w' v' gs ∧ gs.map (·.2) = clsK (rs.map fun r => mkKS (kyB r.2.2 (memN s 32))) ∧ FarG w.heap.size v' gs ∧ Below w.heap.size w w'
  generalize memN s 32 = ms at *
  obtain ⟨KL, hKL⟩ : ∃ KL : List KS, (rs.map fun r => mkKS (kyB r.2.2 ms)) = KL := ⟨_, rfl⟩
  rw [hKL]
  have KLA := hid (show ∀ (k : Nat) (r : Row3), rs[k]? = some r → KL[k]? = some (mkKS (kyB r.2.2 ms)) from fun k r h => by rw [← hKL, List.getElem?_map, h]; rfl)
  have KLL := hid (show KL.length = rs.length by rw [← hKL, List.length_map])
  have GC := hid (fun (v : Value) (W : World) (hv : RdE valS W v KL) => groupsS_any KL v W hv (by have := KLL.out; have := HRL.out; omega))
  obtain ⟨F, hF⟩ : ∃ F : Nat → Value, F = fun j => valS (KL.getD j ks0) := ⟨_, rfl⟩
  have FA := hid (show ∀ (k : Nat) (r : Row3), rs[k]? = some r → F k = .string (mkKS (kyB r.2.2 ms)).1 from fun k r h => by rw [hF]; show valS (KL.getD k ks0) = _; rw [getD_at _ (KLA.out k r h)]; rfl)
  have FE := hid (show (List.range rs.length).map F = KL.map valS by rw [hF, show (fun j => valS (KL.getD j ks0)) = valS ∘ (fun j => KL.getD j ks0) from rfl, ← List.map_map, range_getD ks0 KLL.out.symm])
  obtain ⟨ro, rcap, rfl, -, hrc⟩ := RdR.split T1.out.2
  have RC := hid hrc
  obtain ⟨i0, hi, hz0, hz1, hz2⟩ := info_parts infoStrB
  have I0 := hid hi
  have I1 := hid hz0
  have I2 := hid hz1
  have I3 := hid (show i0.bytes * rs.length ≤ 281474976710656 by rw [hz2]; omega)
  obtain ⟨t10, t11, t12⟩ := C3.out _ D1.out
  clear hbits h16 hrows hok ht hT hKL hF hrc hi hz0 hz1 hz2 h1000
  go_enter Tryz.func136, Tryz.ntmps136
  go_upto_region 1 with fail
  rw [W0.out, W1.out]
  go_wp2_with fail
  refine MM.out.mono ?_
  rintro e w2 ⟨v2, rfl, ho2, hb2⟩
  have D2 := hid (D1.out.trans (hb2.mono D1.out.size))
  have E2 := hid hb2
  obtain ⟨t20, t21, t22⟩ := C3.out _ D2.out
  have R2 := RdE.of_owns ho2 (by have := HML.out; omega)
  obtain ⟨mo, mcap, rfl, -, hmc⟩ := R2.split
  have MC := hid hmc
  clear ho2 hb2 R2 hmc t10 t11 t12
  unfold encI at MC
  go_wp2_with (at_make; refine wpList_make_full _ rfl _ _ 45 rfl w2.heap.size 9 i0 (.string (ByteArray.mk #[])) 1 undStrsB I0.out I1.out I2.out _ _ _ _ rs.length rfl rfl (by simp) (by simp) I3.out (by have := HRL.out; unfold maxLen; omega) (Nat.le_refl _) ?_)
  intro w3 hown hgrow
  have hb3 : Below w2.heap.size w2 w3 := ⟨hgrow.os, hgrow.tape, hgrow.output, hgrow.size, fun k hk => hgrow.block k hk (fun e => by cases e)⟩
  have E3 := hid (E2.out.trans (hb3.mono E2.out.size))
  have D3 := hid (D1.out.trans (E3.out.mono D1.out.size))
  have MC3 := hid (fun (k a : Nat) (h : ms[k]? = some a) => show ∃ b off, mo = some ⟨b, off, none⟩ ∧ ∀ W, Below w2.heap.size w3 W → W.cell? ⟨b, off + k, none⟩ = some (.int .i64 (a : Int)) from by
    obtain ⟨b, off, e1, e2⟩ := MC.out k a h
    exact ⟨b, off, e1, fun W hW => e2 W (hb3.trans hW)⟩)
  have O3 := hid (show w3.ownsRow w2.heap.size 9 1 (.slice (some ⟨w2.heap.size, 0, none⟩) rs.length rs.length) rs.length (fillL rs.length (.string (ByteArray.mk #[])) F 0) by
    rw [fillL_zero]; first | exact hown | simpa [toList_madeCells_one, Value.cells] using hown)
  obtain ⟨t30, t31, t32⟩ := C3.out _ D3.out
  obtain ⟨kb, hkb⟩ : ∃ kb, w2.heap.size = kb := ⟨_, rfl⟩
  rw [hkb] at O3 MC3
  rw [hkb]
  have HKB := hid (show w1.heap.size ≤ kb by rw [← hkb]; exact E2.out.size)
  have HK3 := hid (show kb < w3.heap.size from by rcases O3.out.2 with ⟨h, _⟩ | ⟨g, cap, cur, hv, _, hg, _⟩; · cases h
                                                  · cases hv; exact (Array.getElem?_eq_some_iff.1 hg).1)
  clear hown hgrow hb3 MC t20 t21 t22 hkb
  go_wp2_with fail
  -- w3: all that stands when the rows are walked; only the keys' row is written below it
  go_loopw [23] (fun i wr => ∃ k : Nat, k ≤ rs.length ∧ i = .int .i64 k ∧ wr.ownsRow kb 9 1 (.slice (some ⟨kb, 0, none⟩) rs.length rs.length) rs.length (fillL rs.length (.string (ByteArray.mk #[])) F k) ∧ Hid (KeptX w3.heap.size kb w3 wr) ∧ w3.heap.size ≤ wr.heap.size) (fun i _ => rs.length - (intOf i).toNat)
  case atStart => exact ⟨0, Nat.zero_le _, rfl, O3.out, hid (KeptX.refl _ _ _), Nat.le_refl _⟩
  case round =>
    obtain ⟨wo, rfl⟩ : ∃ wo : World, wo = wr := ⟨_, rfl⟩
    obtain ⟨k, hk, rfl, hown, HKX, hM3⟩ := hrel
    have k0 : (0 : Int) ≤ (k : Int) := by omega
    have k9 : (k : Int) ≤ 1000 := by have := HRL.out; omega
    have BW1 := hid (show Below w1.heap.size w1 wo from E3.out.trans (HKX.out.below.mono HKB.out))
    have DW := hid (show Below w0.heap.size w0 wo from D1.out.trans (BW1.out.mono D1.out.size))
    by_cases hlt : k < rs.length
    · obtain ⟨⟨rid, u2, xs⟩, hx⟩ := get_some hlt
      obtain ⟨⟨b, off, rfl, hce⟩, hrv⟩ := RC.out k (rid, u2, xs) hx
      obtain ⟨e0, e1⟩ := hce wo BW1.out
      have HRV := hid (hrv wo BW1.out)
      simp only at e0 e1
      obtain ⟨uo, ucap, hu, -, huc⟩ := RdV.split HRV.out
      simp only at hu
      subst hu
      have UC := hid huc
      have FK := hid (FA.out k _ hx)
      have OKX := hid (HOK.out _ (List.mem_of_getElem? hx))
      have LX := hid (show xs.length = ats.length from HR.out _ (List.mem_of_getElem? hx))
      have HLT := hid hlt
      have HO := hid hown
      have HM3 := hid hM3
      have HKBW := hid (show kb < wo.heap.size from Nat.lt_of_lt_of_le HK3.out hM3)
      clear hx hce hrv huc hown hM3
      go_upto_region 7 with fail
      have ha1 := below_alloc wo (.cells #[.int .i64 rid, .slice uo xs.length ucap] 87)
      have CR := hid (fun (W : World) (h : Below (wo.alloc (.cells #[.int .i64 rid, .slice uo xs.length ucap] 87)).heap.size (wo.alloc (.cells #[.int .i64 rid, .slice uo xs.length ucap] 87)) W) => cells2 (w := wo) (a := .int .i64 rid) (b := .slice uo xs.length ucap) (t := 87) W h)
      obtain ⟨wa, hwa⟩ : ∃ wa : World, wo.alloc (.cells #[.int .i64 rid, .slice uo xs.length ucap] 87) = wa := ⟨_, rfl⟩
      have hsa : wa.heap.size = wo.heap.size + 1 := by rw [← hwa]; simp
      rw [hwa] at ha1 CR
      have hbn := isb_new wa
      have hbb := below_alloc wa (.cells #[.pointer none, .slice none 0 0] TB)
      obtain ⟨wb, hwb⟩ : ∃ wb : World, wa.alloc (.cells #[.pointer none, .slice none 0 0] TB) = wb := ⟨_, rfl⟩
      have hsb : wb.heap.size = wa.heap.size + 1 := by rw [← hwb]; simp
      rw [hwb] at hbn hbb
      rw [hwa, hwb]
      obtain ⟨bb, hbbe⟩ : ∃ bb, wo.heap.size + 1 = bb := ⟨_, rfl⟩
      rw [hsa, hbbe] at hbn hbb hsb
      rw [hsa, hbbe] at CR
      rw [hbbe]
      have CRB := hid (fun (W : World) (h : Below bb wb W) => CR.out W (hbb.trans h))
      have WAB := hid (show Below wo.heap.size wo wb from ha1.trans (hbb.mono (by omega)))
      have HBB := hid hbbe
      have SB := hid hsb
      have ISB := hid hbn
      clear hbn hbb hsb hsa hwa hwb ha1 CR e0 e1 hbbe
      go_wp2_with fail
      go_loopw [30] (fun j wq => ∃ jn : Nat, jn ≤ ms.length ∧ j = .int .i64 jn ∧ Hid (Lib.IsBuilder TB 5 bb bb (Lib.byteCells (kyB xs (ms.take jn))) wq) ∧ Below bb wb wq) (fun j _ => ms.length - (intOf j).toNat)
      case atStart => exact ⟨0, Nat.zero_le _, rfl, hid (by rw [List.take_zero]; exact ISB.out), Below.refl _ _⟩
      case round =>
        obtain ⟨jn, hjk, rfl, IB, hq⟩ := hrel
        have j0 : (0 : Int) ≤ (jn : Int) := by omega
        have hjb : (jn : Int) ≤ 32 := by have := HML.out; omega
        have HQ := hid hq
        have WQ := hid (show Below wo.heap.size wo wr from WAB.out.trans (hq.mono (by have := HBB.out; omega)))
        have HMX := hid (show Below kb w3 wr from HKX.out.below.trans (WQ.out.mono (Nat.le_of_lt HKBW.out)))
        have HBQ := hid (show bb ≤ wr.heap.size by have h1 := hq.size; have h2 := SB.out; omega)
        by_cases hlj : jn < ms.length
        · obtain ⟨a, ha⟩ := get_some hlj
          obtain ⟨mb, moff, rfl, hmd⟩ := MC3.out jn a ha
          have g0 := hmd wr HMX.out
          have hal : a < xs.length := by rw [LX.out]; exact HMS.out a (List.mem_of_getElem? ha)
          have hai : (a : Int) < (xs.length : Int) := by omega
          have a0 : (0 : Int) ≤ (a : Int) := by omega
          obtain ⟨x, hx⟩ := get_some hal
          obtain ⟨vb, voff, rfl, hvd⟩ := UC.out a x hx
          obtain ⟨x0, x1, x2⟩ := hvd wr WQ.out
          obtain ⟨q0, q1⟩ := CRB.out wr hq
          have HK := hid (KY.out x (OKX.out x (List.mem_of_getElem? hx)) wr)
          have NXT := hid (kyB_next (j := jn) ha hx)
          have LEN := hid (show (kyB xs (ms.take jn)).length ≤ 12896 from kyB_length (fun y hy => (OKX.out y hy).1) (fun z hz => by rw [LX.out]; exact HMS.out z (List.mem_of_mem_take hz)) (by have := List.length_take_le jn ms; have := HML.out; omega))
          have LE2 := hid (keyB_length x (OKX.out x (List.mem_of_getElem? hx)).1)
          have HLJ := hid hlj
          clear hmd ha hx hvd hal hlj hq
          go_wp2_with fail
          refine HK.out.mono ?_
          rintro e w7 ⟨rfl, hb7⟩
          have WR7 := hid (bwrite_any bb bb (Lib.byteCells (kyB xs (ms.take jn))) ⟨(keyB x).toArray⟩ w7 (isb_below IB.out hb7) (by rw [Lib.byteCells_length]; have h1 := LEN.out; have h2 := LE2.out; show (kyB xs (ms.take jn)).length + (strB (keyB x)).size ≤ 1000000; rw [strB_size]; omega) (by have := HBQ.out; have := hb7.size; omega))
          have Q7 := hid (HQ.out.trans (hb7.mono HBQ.out))
          obtain ⟨sb, hsb⟩ : ∃ sb : ByteArray, (⟨(keyB x).toArray⟩ : ByteArray) = sb := ⟨_, rfl⟩
          rw [hsb] at WR7
          rw [hsb]
          have HSB := hid hsb
          clear hb7 hsb q0 q1 x0 x1 x2 g0
          go_wp2_with fail
          refine WR7.out.mono ?_
          rintro e w8 ⟨rfl, hbd, hb8⟩
          have IB8 := hid (show Lib.IsBuilder TB 5 bb bb (Lib.byteCells (kyB xs (ms.take (jn + 1)))) w8 from .inr (by rw [NXT.out, Lib.byteCells_append, ← strCells_byte (keyB x), HSB.out]; exact hbd))
          have Q8 := hid (Q7.out.trans hb8)
          clear hbd hb8
          go_wp2_with fail
          go_roundw
          case rel => exact ⟨jn + 1, by have := HLJ.out; omega, by go_num, IB8, Q8.out⟩
          case measure => have := HLJ.out; simp [intOf]; omega
        · have hje : jn = ms.length := by omega
          subst hje
          rw [List.take_length] at IB
          have LEN := hid (show (kyB xs ms).length ≤ 12896 from kyB_length (fun y hy => (OKX.out y hy).1) (fun z hz => by rw [LX.out]; exact HMS.out z hz) HML.out)
          have KV := hid (show F k = .string ⟨(kyB xs ms).toArray⟩ by rw [FK.out, mkKS_val (Nat.le_trans LEN.out (by decide))]; rfl)
          have ST8 := hid (bstring_any bb bb (kyB xs ms) wr IB.out HBQ.out)
          clear hlj hq hjk IB
          obtain ⟨sb, hsb⟩ : ∃ sb : ByteArray, (⟨(kyB xs ms).toArray⟩ : ByteArray) = sb := ⟨_, rfl⟩
          rw [hsb] at ST8 KV
          have kn : (k : Int) < (rs.length : Int) := by have := HLT.out; omega
          clear hsb
          go_wp2_with fail
          refine ST8.out.mono ?_
          rintro e w8 ⟨rfl, hb8⟩
          have W8 := hid (show Below wo.heap.size wo w8 from WQ.out.trans (hb8.mono (by have := HBB.out; omega)))
          have O8 := hid (own_below HO.out W8.out)
          have hcell : w8.cell? ⟨kb, k, none⟩ = some (.string (ByteArray.mk #[])) := by
            rw [O8.out.cellAt k (by have := HLT.out; omega), fillL_at HLT.out, if_neg (by omega)]
          have hfz : w8.frozen? ⟨kb, k, none⟩ = false := O8.out.frozenAt _
          have HX8 := hid (HKX.out.later W8.out HM3.out (Nat.le_of_lt HKBW.out))
          clear hb8
          go_wp2_with fail
          have ST := O8.out.stored k (.string sb)
          rw [← KV.out, fillL_set] at ST
          rw [← KV.out]
          go_roundw
          case rel => exact ⟨k + 1, by have := HLT.out; omega, by go_num, ST.1, hid (HX8.out.set (F k)), by have h1 := W8.out.size; have h2 := HM3.out; simp; omega⟩
          case measure => have := HLT.out; simp [intOf]; omega
    · have hke : rs.length ≤ k := by omega
      rw [fillL_all hke, FE.out] at hown
      have RK := hid (show RdE valS wo (.slice (some ⟨kb, 0, none⟩) rs.length rs.length) KL from by
        have := RdE.of_owns (f := valS) (xs := KL) (by rw [KLL.out]; exact hown) (by have := KLL.out; have := HRL.out; omega)
        exact this)
      have GCK := hid (fun (W : World) (h : Below wo.heap.size wo W) => GC.out _ W (RK.out.below h))
      have CD := hid (fun (W : World) (h : Below wo.heap.size wo W) => C3.out W (DW.out.trans (h.mono DW.out.size)))
      have ZD := hid (fun (W : World) (h : Below wo.heap.size wo W) => show (W.cell? ⟨w.heap.size + 1, 0, none⟩ = some (.int .i64 0) ∧ W.cell? ⟨w.heap.size + 1, 1, none⟩ = some (.slice none 0 0)) ∧ (W.frozen? ⟨w.heap.size + 1, 0, none⟩ = false ∧ W.frozen? ⟨w.heap.size + 1, 1, none⟩ = false) from by
        have hlt1 : w.heap.size + 1 < w1.heap.size := by have := HS1.out; omega
        have hb := BW1.out.trans (h.mono BW1.out.size)
        exact ⟨⟨(hb.cell (p := ⟨w.heap.size + 1, 0, none⟩) hlt1).trans HZ.out.1, (hb.cell (p := ⟨w.heap.size + 1, 1, none⟩) hlt1).trans HZ.out.2.1⟩, (hb.frozen (p := ⟨w.heap.size + 1, 0, none⟩) hlt1).trans (HZ.out.2.2 0), (hb.frozen (p := ⟨w.heap.size + 1, 1, none⟩) hlt1).trans (HZ.out.2.2 1)⟩)
      obtain ⟨y0, y1, y2⟩ := CD.out wo (Below.refl _ _)
      have HW1 := hid (show w.heap.size + 1 < wo.heap.size by have h1 := BW1.out.size; have h2 := HS1.out; omega)
      have BFW := hid (B0.out.trans (DW.out.mono hsz0))
      clear hown hM3 hk hke
      go_wp2_with fail
      go_region_law ((go_simp; go_at_call 162; refine (GCK.out _ (below_drewN wo.heap.size wo 1)).mono ?_; rintro e w9 ⟨v9, gs, rfl, hrd, hgm, hfg, hb9⟩; have hL := (below_drewN wo.heap.size wo 1).trans hb9; obtain ⟨d0, d1, d2⟩ := CD.out _ hL; obtain ⟨⟨zz0, zz1⟩, zf0, zf1⟩ := ZD.out _ hL; obtain ⟨o9, cap9, hv9, -⟩ := hrd.1.split; subst hv9; have RG9 := hid hrd; have GM9 := hid hgm; have FG9 := hid (show FarG wo.heap.size _ gs from fun j hj => hfg j hj); have BL9 := hid hL; clear hrd hgm hfg hb9 hL))
      all_goals
        obtain ⟨wf, hwf⟩ : ∃ wf : World, (w9.setCell ⟨w.heap.size + 1, 0, none⟩ (.int .i64 (rs.length : Int))).setCell ⟨w.heap.size + 1, 1, none⟩ (.slice o9 gs.length cap9) = wf := ⟨_, rfl⟩
        have r := set2p zz0 zz1 hwf
        have QG : RdG wf (.slice o9 gs.length cap9) gs := by
          obtain ⟨f1, f2⟩ := FG9.out (w.heap.size + 1) HW1.out
          rw [← hwf]
          exact ⟨RdE.setFar (p := ⟨w.heap.size + 1, 1, none⟩) (RdE.setFar (p := ⟨w.heap.size + 1, 0, none⟩) RG9.out.1 f1) f1, fun g hg => RdE.setFar (p := ⟨w.heap.size + 1, 1, none⟩) (RdE.setFar (p := ⟨w.heap.size + 1, 0, none⟩) (RG9.out.2 g hg) (f2 g hg)) (f2 g hg)⟩
        have QB : Below w.heap.size w wf := by rw [← hwf]; exact ((BFW.out.trans (BL9.out.mono BFW.out.size)).setCell (p := ⟨w.heap.size + 1, 0, none⟩) (by simp) _).setCell (p := ⟨w.heap.size + 1, 1, none⟩) (by simp) _
        have QF : FarG w.heap.size (.slice o9 gs.length cap9) gs := fun j hj => FG9.out j (by have := HW1.out; omega)
        go_wp2_with fail
        try rw [hwf]
        exact bodyPost_ret (v := .agg #[.int .i64 (rs.length : Int), .slice o9 gs.length cap9]) (by simp [results, Tryz.results136, go_sem, r.1, r.2]) rfl ⟨_, gs, rfl, QG, GM9.out, QF, QB⟩

end Go.Proofs.YtgahpgmagfngfaaGreatDoor


/- The walks of partition.Valid, labels, both, Rank. -/
namespace Go.Proofs.YtgahpgmagfngfaaGreatDoor
open Go.RowKit
set_option linter.unusedVariables false

theorem undBoolsP : Tryz.prog.underlying 230 = some (.slice 4) := by kernel_rfl
theorem infoBoolP : (Tryz.prog.info? 4).map (fun i => (i.zero, i.size, i.bytes)) = some (some (.bool false), 1, 1) := by kernel_rfl
def encO (b : Bool) : Value := .bool b
theorem RdG.split {w : World} {v : Value} {gs : List Gp} (h : RdG w v gs) : ∃ ao cap, v = .slice ao gs.length cap ∧ gs.length ≤ 35184372088832 ∧
    ∀ (q : Nat) (g : Gp), gs[q]? = some g → (∃ b off, ao = some ⟨b, off, none⟩ ∧ ∀ W, Below w.heap.size w W → W.cell? ⟨b, off + q, none⟩ = some g.1) ∧ ∃ ao2 cap2, g.1 = .slice ao2 g.2.length cap2 ∧ ∀ (j : Nat) (x : Int), g.2[j]? = some x → ∃ b off, ao2 = some ⟨b, off, none⟩ ∧ ∀ W, Below w.heap.size w W → W.cell? ⟨b, off + j, none⟩ = some (.int .i64 x) := by
  obtain ⟨ao, cap, e, hl, hc⟩ := h.1.split
  refine ⟨ao, cap, e, hl, fun q g hg => ⟨hc q g hg, ?_⟩⟩
  obtain ⟨ao2, cap2, e2, -, hc2⟩ := (h.2 g (List.mem_of_getElem? hg)).split
  exact ⟨ao2, cap2, e2, fun j x hx => hc2 j x hx⟩

set_option maxHeartbeats 3200000 in
set_option maxRecDepth 100000 in
theorem pvalid_any (n : Nat) (gs : List Gp) (cv : Value) (w : World) (hv : RdG w cv gs) (hok : okQ n (gs.map (·.2))) :
    Calls Tryz.prog 140 #[.agg #[.int .i64 (n : Int), cv]] w fun e w' => e = .returned (.bool true) ∧ Below w.heap.size w w' := by
  obtain ⟨co, ccap, rfl, -, hgc⟩ := hv.split
  have hb0 := below_alloc w (.cells #[.int .i64 (n : Int), .slice co gs.length ccap] 165)
  have C2 := hid (fun W h => cells2 (w := w) (a := .int .i64 (n : Int)) (b := .slice co gs.length ccap) (t := 165) W h)
  obtain ⟨w0, hw0⟩ : ∃ w0 : World, w.alloc (.cells #[.int .i64 (n : Int), .slice co gs.length ccap] 165) = w0 := ⟨_, rfl⟩
  rw [hw0] at hb0 C2
  have B0 := hid hb0
  have W0 := hid hw0
  have GC := hid hgc
  have OK := hid hok
  have n9 : (n : Int) ≤ 1000 := by have := hok.le; omega
  have n0 : (0 : Int) ≤ (n : Int) := by omega
  have HN := hid hok.le
  have HG := hid (show gs.length ≤ n by have := hok.num; rwa [List.length_map] at this)
  obtain ⟨i0, hi, hz0, hz1, hz2⟩ := info_parts infoBoolP
  have I0 := hid hi
  have I1 := hid hz0
  have I2 := hid hz1
  have I3 := hid (show i0.bytes * n ≤ 281474976710656 by rw [hz2]; omega)
  obtain ⟨c0, c1⟩ := C2.out _ (Below.refl _ _)
  clear hv hb0 hw0 hgc hok hi hz0 hz1 hz2
  obtain ⟨cls, hcls⟩ : ∃ cls, gs.map (·.2) = cls := ⟨_, rfl⟩
  rw [hcls] at OK
  have CA := hid (fun (q : Nat) (g : Gp) (h : gs[q]? = some g) => show cls[q]? = some g.2 by rw [← hcls, List.getElem?_map, h]; rfl)
  have CLN := hid (show cls.length = gs.length by rw [← hcls, List.length_map])
  clear hcls
  go_enter Tryz.func140, Tryz.ntmps140
  go_upto_region 1 with fail
  rw [W0.out]
  go_wp2_with (at_make; refine wpList_make_full _ rfl _ _ 230 rfl w0.heap.size 4 i0 (.bool false) 1 undBoolsP I0.out I1.out I2.out _ _ _ _ n rfl rfl (by simp) (by simp) I3.out (by have := HN.out; unfold maxLen; omega) (Nat.le_refl _) ?_)
  intro w1 hown hgrow
  have hb1 : Below w0.heap.size w0 w1 := ⟨hgrow.os, hgrow.tape, hgrow.output, hgrow.size, fun k hk => hgrow.block k hk (fun e => by cases e)⟩
  have B1 := hid hb1
  obtain ⟨sb, hsb⟩ : ∃ sb, w0.heap.size = sb := ⟨_, rfl⟩
  have O1 := hid (show w1.ownsRow sb 4 1 (.slice (some ⟨sb, 0, none⟩) n n) n ((seenR n (cls.take 0)).map encO) by
    rw [← hsb]
    have e : (seenR n (cls.take 0)).map encO = (List.replicate n (.bool false)) := by
      unfold seenR
      apply List.ext_getElem?
      intro j
      rw [List.getElem?_map, List.getElem?_map, List.getElem?_replicate]
      by_cases hj : j < n
      · rw [List.getElem?_range hj, if_pos hj]; rfl
      · rw [List.getElem?_eq_none (l := List.range n) (by simp; omega), if_neg hj]; rfl
    rw [e]
    first | exact hown | simpa [toList_madeCells_one, Value.cells] using hown)
  obtain ⟨d0, d1⟩ := C2.out _ hb1
  have HSB := hid hsb
  rw [hsb]
  clear hown hgrow hb1 hsb c0 c1
  go_wp2_with fail
  go_loopw [4, 24] (fun fv i wr => ∃ q : Nat, q ≤ gs.length ∧ i = .int .i64 q ∧ fv = .int .i64 (firstC cls q) ∧ wr.ownsRow sb 4 1 (.slice (some ⟨sb, 0, none⟩) n n) n ((seenR n (cls.take q)).map encO) ∧ Below sb w0 wr) (fun _ i _ => gs.length - (intOf i).toNat)
  case atStart => exact ⟨0, Nat.zero_le _, rfl, rfl, O1.out, by rw [← HSB.out]; exact B1.out⟩
  case round =>
    obtain ⟨wo, rfl⟩ : ∃ wo : World, wo = wr := ⟨_, rfl⟩
    obtain ⟨q, hq, rfl, rfl, hown, hnx⟩ := hrel
    have q0 : (0 : Int) ≤ (q : Int) := by omega
    have q9 : (q : Int) ≤ 1000 := by have := HG.out; have := HN.out; omega
    have BW := hid (show Below w.heap.size w wo from B0.out.trans (hnx.mono (by have := HSB.out; have := B0.out.size; omega)))
    have HSW := hid (show sb ≤ wo.heap.size by have h1 := HSB.out; have h2 := hnx.size; omega)
    by_cases hlt : q < gs.length
    · obtain ⟨⟨g1, g2⟩, hg⟩ := get_some hlt
      obtain ⟨⟨b, off, rfl, hce⟩, ao2, cap2, hgf, hcc⟩ := GC.out q (g1, g2) hg
      simp only at hgf
      subst hgf
      have e0 := hce wo BW.out
      have CQ := hid (CA.out q _ hg)
      have h2l : 2 ≤ g2.length := OK.out.ok.two g2 (List.mem_of_getElem? CQ.out)
      obtain ⟨x0, hx0⟩ := get_some (show 0 < g2.length by omega)
      obtain ⟨xb, xoff, rfl, hxc⟩ := hcc 0 x0 hx0
      have f0 := hxc wo BW.out
      simp only [Nat.add_zero] at f0
      have HFL := first_lt OK.out.ok CQ.out hx0
      have HFN := hid (first_next CQ.out hx0)
      have HCC := hid hcc
      have HLT := hid hlt
      have HO := hid hown
      have l2 : ((g2.length : Int) < 2) = False := eq_false (by omega)
      have l3 : decide ((g2.length : Int) < 2) = false := decide_eq_false (by omega)
      have l4 : decide (x0 ≤ firstC cls q) = false := decide_eq_false (by omega)
      have l5 : ¬ x0 ≤ firstC cls q := by omega
      have l6 : (0 : Int) < (g2.length : Int) := by omega
      have HNX := hid hnx
      have GLEN := hid (show g2.length ≤ 1000 by have h1 := OK.out.len g2 (List.mem_of_getElem? CQ.out); have h2 := HN.out; omega)
      clear hg hce hcc hx0 hxc hown hnx h2l hlt l2
      generalize firstC cls q = fq at *
      go_wp2_with fail
      go_loopw [7, 43] (fun bv j wr => ∃ jn : Nat, jn ≤ g2.length ∧ j = .int .i64 jn ∧ bv = .int .i64 (befC g2 jn) ∧ wr.ownsRow sb 4 1 (.slice (some ⟨sb, 0, none⟩) n n) n ((seenR n (preC cls q jn)).map encO) ∧ Below sb w0 wr) (fun _ j _ => g2.length - (intOf j).toNat)
      case atStart => exact ⟨0, Nat.zero_le _, rfl, rfl, by rw [show seenR n (preC cls q 0) = seenR n (cls.take q) from List.map_congr_left fun j _ => seenB_start cls q j]; exact HO.out, HNX.out⟩
      case round =>
        obtain ⟨jn, hj, rfl, rfl, hown, hnx⟩ := hrel
        have j0 : (0 : Int) ≤ (jn : Int) := by omega
        have j9 : (jn : Int) ≤ 1000 := by have := GLEN.out; omega
        by_cases hlj : jn < g2.length
        · obtain ⟨x, hx⟩ := get_some hlj
          obtain ⟨i, rfl, hin⟩ := okP_mem OK.out.ok CQ.out hx
          obtain ⟨ib, ioff, hie, hic⟩ := HCC.out jn _ hx
          simp only [Option.some.injEq, Addr.mk.injEq, and_true] at hie
          obtain ⟨rfl, rfl⟩ := hie
          have e1 := hic wr (B0.out.trans (hnx.mono (by have := HSB.out; have := B0.out.size; omega)))
          have HBL := bef_lt (OK.out.ok.asc g2 (List.mem_of_getElem? CQ.out)) hx (by omega)
          have HBN := hid (bef_next hx)
          have SN := hid (seen_not OK.out.ok CQ.out hx)
          have SS := hid (seen_set OK.out.ok CQ.out hx)
          have i0' : (0 : Int) ≤ (i : Int) := by omega
          have m1 : decide ((i : Int) ≤ befC g2 jn) = false := decide_eq_false (by omega)
          have m2 : ¬ (i : Int) ≤ befC g2 jn := by omega
          have m3 : decide ((i : Int) ≥ (n : Int)) = false := decide_eq_false (by omega)
          have m5 : (i : Int) < (n : Int) := by omega
          have hcell : wr.cell? ⟨sb, i, none⟩ = some (.bool false) := by
            rw [hown.cellAt i (by omega), List.getElem?_map, seenR_at hin, SN.out]; rfl
          have hfz : wr.frozen? ⟨sb, i, none⟩ = false := hown.frozenAt _
          obtain ⟨d0, d1⟩ := C2.out wr (by rw [HSB.out]; exact hnx)
          have HO2 := hid hown
          have HNX2 := hid hnx
          have HLJ := hid hlj
          clear hx hin hic hown hnx hlj
          generalize befC g2 jn = bq at *
          go_wp2_with fail
          have ST := HO2.out.stored i (.bool true)
          have e : (((seenR n (preC cls q jn)).map encO).set i (.bool true)) = (seenR n (preC cls q (jn + 1))).map encO := by rw [← SS.out, List.map_set]; rfl
          rw [e] at ST
          go_roundw
          case rel => exact ⟨jn + 1, by have := HLJ.out; omega, by go_num, by rw [HBN.out], ST.1, HNX2.out.grown ST.2 (by have := HNX2.out.size; have := HSB.out; omega) (fun j hj => by cases hj; exact Nat.le_refl _)⟩
          case measure => have := HLJ.out; simp [intOf]; omega
        · have hpe := preC_end CQ.out (show g2.length ≤ jn by omega)
          rw [hpe] at hown
          have HO2 := hid hown
          have HNX2 := hid hnx
          clear hpe hown hnx
          go_wp2_with fail
          go_roundw
          case rel => exact ⟨q + 1, by have := HLT.out; omega, by go_num, by rw [HFN.out], HO2.out, HNX2.out⟩
          case measure => have := HLT.out; simp [intOf]; omega
    · have BF := hid BW.out
      clear hown hnx
      go_wp2_with fail
      go_ret
      exact ⟨rfl, BF.out⟩

end Go.Proofs.YtgahpgmagfngfaaGreatDoor


/- The walks of partition.labels, both, Rank. -/
namespace Go.Proofs.YtgahpgmagfngfaaGreatDoor
open Go.RowKit
set_option linter.unusedVariables false

def fL (j : Nat) : Int := -1 - (j : Int)
set_option maxHeartbeats 3200000 in
set_option maxRecDepth 100000 in
theorem plabels_any (n : Nat) (gs : List Gp) (cv : Value) (w : World) (hv : RdG w cv gs) (hok : okQ n (gs.map (·.2))) :
    Calls Tryz.prog 138 #[.agg #[.int .i64 (n : Int), cv]] w fun e w' => ∃ v', e = .returned v' ∧ w'.ownsRow w.heap.size 3 1 v' n ((labR n (gs.map (·.2))).map encJ) ∧ Below w.heap.size w w' := by
  obtain ⟨co, ccap, rfl, -, hgc⟩ := hv.split
  have hb0 := below_alloc w (.cells #[.int .i64 (n : Int), .slice co gs.length ccap] 165)
  have C2 := hid (fun W h => cells2 (w := w) (a := .int .i64 (n : Int)) (b := .slice co gs.length ccap) (t := 165) W h)
  obtain ⟨w0, hw0⟩ : ∃ w0 : World, w.alloc (.cells #[.int .i64 (n : Int), .slice co gs.length ccap] 165) = w0 := ⟨_, rfl⟩
  rw [hw0] at hb0 C2
  have B0 := hid hb0
  have W0 := hid hw0
  have GC := hid hgc
  have OK := hid hok
  have n9 : (n : Int) ≤ 1000 := by have := hok.le; omega
  have n0 : (0 : Int) ≤ (n : Int) := by omega
  have HN := hid hok.le
  have HG := hid (show gs.length ≤ n by have := hok.num; rwa [List.length_map] at this)
  obtain ⟨i0, hi, hz0, hz1, hz2⟩ := info_parts infoPJ
  have I0 := hid hi
  have I1 := hid hz0
  have I2 := hid hz1
  have I3 := hid (show i0.bytes * n ≤ 281474976710656 by rw [hz2]; omega)
  obtain ⟨c0, c1⟩ := C2.out _ (Below.refl _ _)
  clear hv hb0 hw0 hgc hok hi hz0 hz1 hz2
  obtain ⟨cls, hcls⟩ : ∃ cls, gs.map (·.2) = cls := ⟨_, rfl⟩
  rw [hcls] at OK
  rw [hcls]
  have CA := hid (fun (q : Nat) (g : Gp) (h : gs[q]? = some g) => show cls[q]? = some g.2 by rw [← hcls, List.getElem?_map, h]; rfl)
  have CLN := hid (show cls.length = gs.length by rw [← hcls, List.length_map])
  clear hcls
  go_enter Tryz.func138, Tryz.ntmps138
  go_upto_region 1 with fail
  rw [W0.out]
  go_wp2_with (at_make; refine wpList_make_full _ rfl _ _ 37 rfl w0.heap.size 3 i0 (.int .i64 0) 1 undPJ I0.out I1.out I2.out _ _ _ _ n rfl rfl (by simp) (by simp) I3.out (by have := HN.out; unfold maxLen; omega) (Nat.le_refl _) ?_)
  intro w1 hown hgrow
  have hb1 : Below w0.heap.size w0 w1 := ⟨hgrow.os, hgrow.tape, hgrow.output, hgrow.size, fun k hk => hgrow.block k hk (fun e => by cases e)⟩
  have B1 := hid hb1
  obtain ⟨sb, hsb⟩ : ∃ sb, w0.heap.size = sb := ⟨_, rfl⟩
  have O1 := hid (show w1.ownsRow sb 3 1 (.slice (some ⟨sb, 0, none⟩) n n) n ((fillL n 0 fL 0).map encJ) by
    rw [← hsb, fillL_zero, List.map_replicate]
    first | exact hown | simpa [toList_madeCells_one, Value.cells, encJ] using hown)
  obtain ⟨d0, d1⟩ := C2.out _ hb1
  have HSB := hid hsb
  rw [hsb]
  clear hown hgrow hb1 hsb c0 c1
  go_wp2_with fail
  go_loopw [14] (fun i wr => ∃ k : Nat, k ≤ n ∧ i = .int .i64 k ∧ wr.ownsRow sb 3 1 (.slice (some ⟨sb, 0, none⟩) n n) n ((fillL n 0 fL k).map encJ) ∧ Below sb w0 wr) (fun i _ => n - (intOf i).toNat)
  case atStart => exact ⟨0, Nat.zero_le _, rfl, O1.out, by rw [← HSB.out]; exact B1.out⟩
  case round =>
    obtain ⟨k, hk, rfl, hown, hnx⟩ := hrel
    have k0 : (0 : Int) ≤ (k : Int) := by omega
    by_cases hlt : k < n
    · have hcell : wr.cell? ⟨sb, k, none⟩ = some (.int .i64 0) := by
        rw [hown.cellAt k (by omega), List.getElem?_map, fillL_at hlt, if_neg (by omega)]; rfl
      have hfz : wr.frozen? ⟨sb, k, none⟩ = false := hown.frozenAt _
      have HO := hid hown
      have HNX := hid hnx
      have kn : (k : Int) < (n : Int) := by omega
      have k9 : (k : Int) ≤ 1000 := by omega
      clear hown hnx
      go_wp2_with fail
      have ST := HO.out.stored k (.int .i64 (-1 - (k : Int)))
      have e : ((fillL n 0 fL k).map encJ).set k (.int .i64 (-1 - (k : Int))) = (fillL n 0 fL (k + 1)).map encJ := by rw [← fillL_set, List.map_set]; rfl
      rw [e] at ST
      go_roundw
      case rel => exact ⟨k + 1, by omega, by go_num, ST.1, HNX.out.grown ST.2 (by have := HNX.out.size; have := HSB.out; omega) (fun j hj => by cases hj; exact Nat.le_refl _)⟩
      case measure => simp [intOf]; omega
    · have hke : n ≤ k := by omega
      rw [fillL_all hke] at hown
      have O2 := hid (show wr.ownsRow sb 3 1 (.slice (some ⟨sb, 0, none⟩) n n) n ((labR n (cls.take 0)).map encJ) from hown)
      have NX2 := hid hnx
      obtain ⟨d0, d1⟩ := C2.out wr (by rw [HSB.out]; exact hnx)
      clear hown hnx
      go_wp2_with fail
      go_loopw [26] (fun i wr => ∃ q : Nat, q ≤ gs.length ∧ i = .int .i64 q ∧ wr.ownsRow sb 3 1 (.slice (some ⟨sb, 0, none⟩) n n) n ((labR n (cls.take q)).map encJ) ∧ Below sb w0 wr) (fun i _ => gs.length - (intOf i).toNat)
      case atStart => exact ⟨0, Nat.zero_le _, rfl, O2.out, NX2.out⟩
      case round =>
        obtain ⟨wo, rfl⟩ : ∃ wo : World, wo = wr := ⟨_, rfl⟩
        obtain ⟨q, hq, rfl, hown, hnx⟩ := hrel
        have q0 : (0 : Int) ≤ (q : Int) := by omega
        have q9 : (q : Int) ≤ 1000 := by have := HG.out; have := HN.out; omega
        have BW := hid (show Below w.heap.size w wo from B0.out.trans (hnx.mono (by have := HSB.out; have := B0.out.size; omega)))
        by_cases hlt : q < gs.length
        · obtain ⟨⟨g1, g2⟩, hg⟩ := get_some hlt
          obtain ⟨⟨b, off, rfl, hce⟩, ao2, cap2, hgf, hcc⟩ := GC.out q (g1, g2) hg
          simp only at hgf
          subst hgf
          have e0 := hce wo BW.out
          have CQ := hid (CA.out q _ hg)
          have HCC := hid hcc
          have HLT := hid hlt
          have HO := hid hown
          have HNX := hid hnx
          have GLEN := hid (show g2.length ≤ 1000 by have h1 := OK.out.len g2 (List.mem_of_getElem? CQ.out); have h2 := HN.out; omega)
          clear hg hce hcc hown hnx hlt
          go_wp2_with fail
          go_loopw [33] (fun j wr => ∃ jn : Nat, jn ≤ g2.length ∧ j = .int .i64 jn ∧ wr.ownsRow sb 3 1 (.slice (some ⟨sb, 0, none⟩) n n) n ((labR n (preC cls q jn)).map encJ) ∧ Below sb w0 wr) (fun j _ => g2.length - (intOf j).toNat)
          case atStart => exact ⟨0, Nat.zero_le _, rfl, by rw [show labR n (preC cls q 0) = labR n (cls.take q) from List.map_congr_left fun j _ => labP_start cls q j]; exact HO.out, HNX.out⟩
          case round =>
            obtain ⟨jn, hj, rfl, hown, hnx⟩ := hrel
            have j0 : (0 : Int) ≤ (jn : Int) := by omega
            have j9 : (jn : Int) ≤ 1000 := by have := GLEN.out; omega
            by_cases hlj : jn < g2.length
            · obtain ⟨x, hx⟩ := get_some hlj
              obtain ⟨i, rfl, hin⟩ := okP_mem OK.out.ok CQ.out hx
              obtain ⟨ib, ioff, rfl, hic⟩ := HCC.out jn _ hx
              have e1 := hic wr (B0.out.trans (hnx.mono (by have := HSB.out; have := B0.out.size; omega)))
              have SS := hid (lab_set OK.out.ok CQ.out hx)
              have i0' : (0 : Int) ≤ (i : Int) := by omega
              have m5 : (i : Int) < (n : Int) := by omega
              obtain ⟨lb, hlb⟩ : ∃ lb, labP (preC cls q jn) i = lb := ⟨_, rfl⟩
              have hcell : wr.cell? ⟨sb, i, none⟩ = some (.int .i64 lb) := by
                rw [hown.cellAt i (by omega), List.getElem?_map, labR_at hin, hlb]; rfl
              have hfz : wr.frozen? ⟨sb, i, none⟩ = false := hown.frozenAt _
              have HO2 := hid hown
              have HNX2 := hid hnx
              have HLJ := hid hlj
              clear hx hin hic hown hnx hlj hlb
              go_wp2_with fail
              have ST := HO2.out.stored i (.int .i64 (q : Int))
              have e : (((labR n (preC cls q jn)).map encJ).set i (.int .i64 (q : Int))) = (labR n (preC cls q (jn + 1))).map encJ := by rw [← SS.out, List.map_set]; rfl
              rw [e] at ST
              go_roundw
              case rel => exact ⟨jn + 1, by have := HLJ.out; omega, by go_num, ST.1, HNX2.out.grown ST.2 (by have := HNX2.out.size; have := HSB.out; omega) (fun j hj => by cases hj; exact Nat.le_refl _)⟩
              case measure => have := HLJ.out; simp [intOf]; omega
            · have hpe := preC_end CQ.out (show g2.length ≤ jn by omega)
              rw [hpe] at hown
              have HO2 := hid hown
              have HNX2 := hid hnx
              clear hpe hown hnx
              go_wp2_with fail
              go_roundw
              case rel => exact ⟨q + 1, by have := HLT.out; omega, by go_num, HO2.out, HNX2.out⟩
              case measure => have := HLT.out; simp [intOf]; omega
        · have hqe : cls.length ≤ q := by rw [CLN.out]; omega
          rw [List.take_of_length_le hqe] at hown
          have BF := hid BW.out
          have FO := hid (own_mono hown (show w.heap.size ≤ sb by rw [← HSB.out]; exact B0.out.size))
          clear hown hnx hqe
          go_wp2_with fail
          go_ret
          exact ⟨_, rfl, FO.out, BF.out⟩

theorem RdG.shape {w : World} {v : Value} {gs : List Gp} (h : RdG w v gs) : ∃ o cap, v = .slice o gs.length cap := by
  obtain ⟨o, cap, e, -⟩ := h.split
  exact ⟨o, cap, e⟩

set_option maxRecDepth 100000 in
theorem pboth_any (n : Nat) (gs hs : List Gp) (cv dv : Value) (w : World) (hv : RdG w cv gs) (hu : RdG w dv hs) (hok : okQ n (gs.map (·.2))) (hok2 : okQ n (hs.map (·.2))) :
    Calls Tryz.prog 137 #[.agg #[.int .i64 (n : Int), cv], .agg #[.int .i64 (n : Int), dv]] w fun e w' => e = .returned (.int .i64 0) ∧ Below w.heap.size w w' := by
  obtain ⟨co, ccap, rfl⟩ := hv.shape
  obtain ⟨do_, dcap, rfl⟩ := hu.shape
  have hb0 := below_alloc w (.cells #[.int .i64 (n : Int), .slice co gs.length ccap] 165)
  have C2 := hid (fun W h => cells2 (w := w) (a := .int .i64 (n : Int)) (b := .slice co gs.length ccap) (t := 165) W h)
  obtain ⟨w0, hw0⟩ : ∃ w0 : World, w.alloc (.cells #[.int .i64 (n : Int), .slice co gs.length ccap] 165) = w0 := ⟨_, rfl⟩
  have q0 : w0.heap.size = w.heap.size + 1 := by rw [← hw0]; simp
  rw [hw0] at hb0 C2
  have hb1 := below_alloc w0 (.cells #[.int .i64 (n : Int), .slice do_ hs.length dcap] 165)
  have D2 := hid (fun W h => cells2 (w := w0) (a := .int .i64 (n : Int)) (b := .slice do_ hs.length dcap) (t := 165) W h)
  obtain ⟨w1, hw1⟩ : ∃ w1 : World, w0.alloc (.cells #[.int .i64 (n : Int), .slice do_ hs.length dcap] 165) = w1 := ⟨_, rfl⟩
  rw [hw1] at hb1 D2
  have hs1 := hb1.size
  have W0 := hid hw0
  have W1 := hid hw1
  rw [q0] at D2
  have B1 := hid (hb0.trans (hb1.mono hb0.size))
  have CC := hid (fun W (h : Below w1.heap.size w1 W) => C2.out W ((hb1).trans (h.mono hs1)))
  have DD := hid (fun W (h : Below w1.heap.size w1 W) => D2.out W (h.mono (Nat.le_refl _)))
  have V1 := hid (fun W (h : Below w1.heap.size w1 W) => pvalid_any n gs _ W (hv.below (B1.out.trans (h.mono B1.out.size))) hok)
  have V2 := hid (fun W (h : Below w1.heap.size w1 W) => pvalid_any n hs _ W (hu.below (B1.out.trans (h.mono B1.out.size))) hok2)
  obtain ⟨c0, c1⟩ := CC.out _ (Below.refl _ _)
  obtain ⟨d0, d1⟩ := DD.out _ (Below.refl _ _)
  clear hv hu hok hok2 hb0 hb1 hw0 hw1 C2 D2 hs1 q0
  go_enter Tryz.func137, Tryz.ntmps137
  go_upto_region 1 with fail
  rw [W0.out, W1.out]
  go_wp2_with fail
  refine (V1.out _ (Below.refl _ _)).mono ?_
  rintro e w2 ⟨rfl, hb2⟩
  obtain ⟨c0', c1'⟩ := CC.out _ hb2
  obtain ⟨d0', d1'⟩ := DD.out _ hb2
  have H2 := hid hb2
  clear hb2 c0 c1 d0 d1
  go_wp2_with fail
  refine (V2.out _ H2.out).mono ?_
  rintro e w3 ⟨rfl, hb3⟩
  have H3 := hid (H2.out.trans (hb3.mono H2.out.size))
  obtain ⟨c0, c1⟩ := CC.out _ H3.out
  obtain ⟨d0, d1⟩ := DD.out _ H3.out
  clear hb3 c0' c1' d0' d1'
  go_wp2_with fail
  go_ret
  exact ⟨rfl, B1.out.trans (H3.out.mono B1.out.size)⟩

set_option maxHeartbeats 1600000 in
set_option maxRecDepth 100000 in
theorem prank_any (n : Nat) (gs : List Gp) (cv : Value) (w : World) (hv : RdG w cv gs) (hok : okQ n (gs.map (·.2))) :
    Calls Tryz.prog 96 #[.agg #[.int .i64 (n : Int), cv]] w fun e w' => e = .returned (.int .i64 (rankP n (gs.map (·.2)))) ∧ Below w.heap.size w w' := by
  have V1 := hid (fun W (h : Below w.heap.size w W) => pvalid_any n gs _ W (hv.below h) hok)
  obtain ⟨co, ccap, rfl, -, hgc⟩ := hv.split
  have hb0 := below_alloc w (.cells #[.int .i64 (n : Int), .slice co gs.length ccap] 165)
  have C2 := hid (fun W h => cells2 (w := w) (a := .int .i64 (n : Int)) (b := .slice co gs.length ccap) (t := 165) W h)
  obtain ⟨w0, hw0⟩ : ∃ w0 : World, w.alloc (.cells #[.int .i64 (n : Int), .slice co gs.length ccap] 165) = w0 := ⟨_, rfl⟩
  rw [hw0] at hb0 C2
  have B0 := hid hb0
  have W0 := hid hw0
  have GC := hid hgc
  have OK := hid hok
  have HN := hid hok.le
  have HG := hid (show gs.length ≤ n by have := hok.num; rwa [List.length_map] at this)
  obtain ⟨c0, c1⟩ := C2.out _ (Below.refl _ _)
  clear hv hb0 hw0 hgc hok
  obtain ⟨cls, hcls⟩ : ∃ cls, gs.map (·.2) = cls := ⟨_, rfl⟩
  rw [hcls] at OK
  rw [hcls]
  have CA := hid (fun (q : Nat) (g : Gp) (h : gs[q]? = some g) => show cls[q]? = some g.2 by rw [← hcls, List.getElem?_map, h]; rfl)
  have CLN := hid (show cls.length = gs.length by rw [← hcls, List.length_map])
  have RB := hid (fun q (h : q ≤ cls.length) => rankQ_bound OK.out q h)
  have RN := hid (fun q (c : List Int) (hc : cls[q]? = some c) => rankQ_next (n := n) hc)
  have R0 := hid (show rankQ n cls 0 = (n : Int) by unfold rankQ rankP; simp)
  have RE := hid (fun q (h : cls.length ≤ q) => show rankQ n cls q = rankP n cls by unfold rankQ; rw [List.take_of_length_le h])
  generalize rankP n cls = RP at *
  generalize rankQ n cls = RQ at *
  clear hcls
  go_enter Tryz.func96, Tryz.ntmps96
  go_upto_region 1 with fail
  rw [W0.out]
  go_wp2_with fail
  refine (V1.out _ B0.out).mono ?_
  rintro e w1 ⟨rfl, hb1⟩
  have B1 := hid (B0.out.trans (hb1.mono B0.out.size))
  obtain ⟨d0, d1⟩ := C2.out _ hb1
  clear c0 c1 hb1
  go_wp2_with fail
  go_loopw [3, 14] (fun nv i wr => ∃ q : Nat, q ≤ gs.length ∧ i = .int .i64 q ∧ nv = .int .i64 (RQ q) ∧ w1 = wr) (fun _ i _ => gs.length - (intOf i).toNat)
  case atStart => exact ⟨0, Nat.zero_le _, rfl, by rw [R0.out], rfl⟩
  case round =>
    obtain ⟨q, hq, rfl, rfl, rfl⟩ := hrel
    have q0 : (0 : Int) ≤ (q : Int) := by omega
    have q9 : (q : Int) ≤ 1000 := by have := HG.out; have := HN.out; omega
    by_cases hlt : q < gs.length
    · obtain ⟨⟨g1, g2⟩, hg⟩ := get_some hlt
      obtain ⟨⟨b, off, rfl, hce⟩, ao2, cap2, hgf, -⟩ := GC.out q (g1, g2) hg
      simp only at hgf
      subst hgf
      have e0 := hce w1 B1.out
      have CQ := CA.out q _ hg
      have GL : g2.length ≤ 1000 := by have h1 := OK.out.len g2 (List.mem_of_getElem? CQ); have h2 := HN.out; omega
      obtain ⟨r1, r2⟩ := RB.out q (by rw [CLN.out]; omega)
      have NX := hid (RN.out q _ CQ)
      have r3 : -1000000 ≤ RQ q := by omega
      have gl0 : (0 : Int) ≤ (g2.length : Int) := by omega
      have HLT := hid hlt
      clear hg hce CQ hlt r1
      obtain ⟨rq, hrq⟩ : ∃ rq, RQ q = rq := ⟨_, rfl⟩
      rw [hrq] at NX r2 r3
      rw [hrq]
      clear hrq
      go_wp2_with fail
      go_roundw
      case rel => exact ⟨q + 1, by have := HLT.out; omega, by go_num, by first | rw [NX.out] | (rw [NX.out]; go_num), by first | rfl | trivial⟩
      case measure => have := HLT.out; simp [intOf]; omega
    · have EE := hid (RE.out q (by rw [CLN.out]; omega))
      go_wp2_with fail
      go_ret
      exact ⟨by first | rfl | exact ret_int EE.out, B1.out⟩

end Go.Proofs.YtgahpgmagfngfaaGreatDoor


/- IndexFunc and ContainsFunc over numbers and over classes at a function value; the walk of partition.Refines. -/
namespace Go.Proofs.YtgahpgmagfngfaaGreatDoor
open Go.RowKit
set_option linter.unusedVariables false

section
variable {α : Type}
end








end Go.Proofs.YtgahpgmagfngfaaGreatDoor

