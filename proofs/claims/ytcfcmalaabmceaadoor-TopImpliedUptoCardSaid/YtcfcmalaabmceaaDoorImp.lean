/- The law TopImplied. -/
import Derived.Test.YtcfcmalaabmceaaDoorAw20
import Derived.Test.YtcfcmalaabmceaaDoorImpL
import Derived.Test.YtcfcmalaabmceaaDoorGFdmB
import Derived.Test.YtcfcmalaabmceaaDoorListD
import Derived.Test.YtcfcmalaabmceaaDoorGTopA
namespace Go.Proofs.YtcfcmalaabmceaaDoor
open Go.RowKit
set_option linter.unusedVariables false
set_option linter.unusedSimpArgs false

theorem dproves_own (m : Nat) (fs : List F) (g : F) (ss : List St3) (v sv : Value) (B : Nat) (W : World) (hm : m ≤ 16) (hv : RdF W v fs) (hval : validF (m : Int) fs = 0) (ho : OwnSt W B sv ss) (st : List Stp) (hmap : ss.map toS = st) (hok : DerOk m fs st)
    (hlast : ∃ r l, st[st.length - 1]? = some (r, l, g)) (hl : st.length ≤ 100000000000) (h0 : 0 < st.length) :
    Calls Tryd.prog 10 #[.int .i64 (m : Int), v, sv, .agg #[.int .u32 (iv g.1), .int .u32 (iv g.2)]] W fun e w' => e = .returned (.bool true) ∧ Below W.heap.size W w' := by
  subst hmap
  rw [List.length_map] at hl h0 hlast
  have RS := RdC.of_owns cS_length ho.rows (by omega)
  have key : ∀ (i : Nat) (s : St3), ss[i]? = some s → rightD m fs (ss.map toS) i (toS s) = true := fun i s hs => hok i (toS s) (by rw [List.getElem?_map, hs]; rfl)
  refine dproves_any m fs ss g v sv W hv RS hval h0 (fun i W' hi hW => ?_) ?_
  · obtain ⟨s, hs⟩ := get_some hi
    have hlen : s.2.2.1.length ≤ 2 := right_len (key i s hs)
    exact dright_any m fs ss v sv i s W' hm (RdC.below hv hW) (RdC.below RS hW) hs (key i s hs) ((RdE.of_owns (ho.frm s (List.mem_of_getElem? hs)) (by omega)).below hW)
  · obtain ⟨r, l, h⟩ := hlast
    rw [List.getElem?_map] at h
    obtain ⟨s, hs, e⟩ := Option.map_eq_some_iff.1 h
    refine ⟨s, hs, ?_⟩
    unfold toS at e
    simp only [Prod.mk.injEq] at e
    exact e.2.2

set_option maxHeartbeats 6400000 in
set_option maxRecDepth 100000 in
theorem tImpliedL (n : U8) (u : Value) (d : D8) (w : World) (hT : Tab w) (h : ArgC cD w u) (hs : SizeLe u 1048576) :
    Calls Tryd.prog 3 #[.agg #[enc8 n, u], .agg #[enc8 d.1, enc8 d.2]] w fun e w' => e = .returned (.bool true) ∧ Below w.heap.size w w' := by
  have AW := hid (fun (W : World) (hb : Below w.heap.size w W) => awake20_any W (hT.below hb))
  have HT := hid hT
  obtain ⟨ao, len, cap, rfl, h⟩ := h
  have hlen := hs _ _ _ rfl
  obtain ⟨ds, hdl, hr⟩ := h (by omega)
  clear hs h
  have b1 := below_alloc w (.cells #[enc8 n, .slice ao len cap] 24)
  have b2 := below_alloc (w.alloc (.cells #[enc8 n, .slice ao len cap] 24)) (.cells #[enc8 d.1, enc8 d.2] 26)
  have hb0 := b1.trans (b2.mono b1.size)
  have z1 : (w.alloc (.cells #[enc8 n, .slice ao len cap] 24)).heap.size = w.heap.size + 1 := by simp
  have c0 : ((w.alloc (.cells #[enc8 n, .slice ao len cap] 24)).alloc (.cells #[enc8 d.1, enc8 d.2] 26)).cell? ⟨(w.alloc (.cells #[enc8 n, .slice ao len cap] 24)).heap.size, 0, none⟩ = some (.int .u8 (d.1.toNat : Int)) := cell_two.1
  have c1 : ((w.alloc (.cells #[enc8 n, .slice ao len cap] 24)).alloc (.cells #[enc8 d.1, enc8 d.2] 26)).cell? ⟨(w.alloc (.cells #[enc8 n, .slice ao len cap] 24)).heap.size, 1, none⟩ = some (.int .u8 (d.2.toNat : Int)) := cell_two.2
  rw [z1] at c0 c1
  obtain ⟨w0, hw0⟩ : ∃ w0 : World, (w.alloc (.cells #[enc8 n, .slice ao len cap] 24)).alloc (.cells #[enc8 d.1, enc8 d.2] 26) = w0 := ⟨_, rfl⟩
  rw [hw0] at hb0 c0 c1
  have H2 := hid (held2 c0 c1)
  have B0 := hid hb0
  have OF := hid (of_any n _ ds w0 (hr.below hb0) (by omega))
  have W0 := hid hw0
  have hfl := listF_length (fullN (n.toNat % 7)) ds
  have hk6 : n.toNat % 7 ≤ 6 := by omega
  have hw2 := w2_list (fullN (n.toNat % 7)) ds
  have LI := hid (fun (x : Value) (W : World) (hx : RdD W x [d]) => list_any ((n.toNat % 7 : Nat) : Int) [d] x W hx (by simp))
  have hmn : min ((n.toNat % 7 : Nat) : Int).toNat 32 = n.toNat % 7 := by omega
  rw [hmn] at LI
  have hdl1 : listF (fullN (n.toNat % 7)) [d] = [(wd d.1 &&& fullN (n.toNat % 7), wd d.2 &&& fullN (n.toNat % 7))] := rfl
  rw [hdl1] at LI
  clear hr hw0 hb0 c0 c1 b1 b2 z1 hmn hdl1
  generalize hk : n.toNat % 7 = k at *
  generalize listF (fullN k) ds = fs at *
  clear hk
  have hfb : fs.length ≤ 1048576 := by omega
  have k0 : (0 : Int) ≤ (k : Int) := by omega
  have k6 : (k : Int) ≤ 6 := by omega
  by_cases hl : ds.length ≤ 6
  · rw [decide_eq_true hl] at OF
    have hval := w2_valid (n := k) (by omega) (show fs.length ≤ 64 by omega) hw2
    obtain ⟨g, hg⟩ : ∃ g : F, ((wd d.1 &&& fullN k, wd d.2 &&& fullN k) : F) = g := ⟨_, rfl⟩
    have hg1 : sub g.1 (fullN k) := by rw [← hg]; exact and_sub_right _ _
    have hg2 : sub g.2 (fullN k) := by rw [← hg]; exact and_sub_right _ _
    rw [hg] at LI
    have HG := hid (And.intro hg1 hg2)
    have HW2 := hid hw2
    have HVAL := hid hval
    have HK6 := hid hk6
    have IM := hid (fun (x : Value) (W : World) (hx : RdF W x fs) => show Calls Tryd.prog 7 #[x, .agg #[.int .u32 (iv g.1), .int .u32 (iv g.2)]] W fun e w' => e = .returned (.bool (impS fs g)) ∧ Below W.heap.size W w' from implies_any fs g x W hx)
    have RF := hid (fun (x : Value) (W : World) (hx : RdF W x fs) => rfd_any k fs g x W hx hk6 hval ((shrOk_sub (by omega)).2 (sub_or_iff.2 ⟨hg1, hg2⟩)))
    have FSL := hid (show fs.length ≤ 1048576 from hfb)
    clear hw2 hl hT hval hg hg1 hg2 hk6 hfl hdl hlen
    unfold enc8 at *
    go_enter Tryd.func3, Tryd.ntmps3
    go_wp2_with fail
    rw [W0.out]
    refine OF.out.mono ?_
    rintro e w1 ⟨v1, rfl, ho1, hb1⟩
    have B1 := hid (B0.out.trans (hb1.mono B0.out.size))
    have X1 := hid hb1
    have R1 := hid (show RdF w1 v1 fs from RdC.of_owns cF_length ho1 (by have := FSL.out; omega))
    obtain ⟨xo, xcap, rfl, -⟩ := R1.out
    clear hb1 ho1 OF
    go_wp2_with fail
    refine (AW.out _ B1.out).mono ?_
    rintro e w2 ⟨rfl, hb2⟩
    have B2 := hid (B1.out.trans (hb2.mono B1.out.size))
    have X2 := hid (X1.out.trans (hb2.mono X1.out.size))
    have R2 := hid (RdC.below R1.out hb2)
    obtain ⟨c0, c1⟩ := (H2.out _ X2.out).2
    clear hb2 R1 X1
    have LD := hid (RdC.lit (c := cD) cD_length w2 [d] 26 (by simp) (by decide))
    have BA := hid (below_alloc w2 (.cells ([d].flatMap cD).toArray 26))
    rw [show ([d].flatMap cD).toArray = #[.int .u8 (d.1.toNat : Int), .int .u8 (d.2.toNat : Int)] from rfl] at LD BA
    go_wp2_with fail
    refine (LI.out _ _ LD.out).mono ?_
    rintro e w3 ⟨v3, rfl, ho3, hb3⟩
    have B3 := hid (B2.out.trans ((BA.out.trans (hb3.mono BA.out.size)).mono B2.out.size))
    have R3 := hid (RdC.below R2.out (BA.out.trans (hb3.mono BA.out.size)))
    obtain ⟨yo, ycap, rfl, -, hyc⟩ := RdF.split (RdC.of_owns cF_length ho3 (by simp))
    obtain ⟨yb, yoff, rfl, hyd⟩ := hyc 0 g rfl
    obtain ⟨y0, y1⟩ := hyd w3 (Below.refl _ _)
    simp only [Nat.zero_mul, Nat.add_zero, List.length_singleton] at y0 y1
    clear hb3 ho3 hyc hyd c0 c1 BA LD R2
    have B34 := hid (below_alloc w3 (.cells #[.int .u32 (iv g.1), .int .u32 (iv g.2)] 34))
    have C2 := hid (fun (W : World) h => cells2 (w := w3) (a := .int .u32 (iv g.1)) (b := .int .u32 (iv g.2)) (t := 34) W h)
    obtain ⟨w4, hw4⟩ : ∃ w4 : World, w3.alloc (.cells #[.int .u32 (iv g.1), .int .u32 (iv g.2)] 34) = w4 := ⟨_, rfl⟩
    rw [hw4] at B34 C2
    have W4 := hid hw4
    have B4 := hid (B3.out.trans (B34.out.mono B3.out.size))
    have R4 := hid (RdC.below R3.out B34.out)
    clear hw4
    simp only [List.length_singleton]
    go_upto_region 5 with fail
    rw [W4.out]
    clear y0 y1
    obtain ⟨c0, c1⟩ := C2.out _ (Below.refl _ _)
    have PY := hid (fun (x : Value) (W : World) (hx : RdF W x fs) (hi : impS fs g = true) => dprove_any k fs g x W hx (by have := HK6.out; omega) HVAL.out HG.out.1 HG.out.2 hi)
    have PNO := hid (fun (x : Value) (W : World) (hx : RdF W x fs) (hi : impS fs g = false) => dprove_no k fs g x W hx (by have := HK6.out; omega) HVAL.out HG.out.1 HG.out.2 hi)
    go_wp2_with fail
    refine (IM.out _ _ R4.out).mono ?_
    rintro e w5 ⟨rfl, hb5⟩
    have D5 := hid hb5
    have R5 := hid (RdC.below R4.out hb5)
    clear hb5 c0 c1 R4
    obtain ⟨c0, c1⟩ := C2.out _ D5.out
    rcases himp : impS fs g with _ | _
    · have HI := hid himp
      have NO := hid (PNO.out _ _ R5.out himp)
      have NS := hid (show ¬ sub g.2 (closeS fs g.1) from by
        unfold impS at himp
        exact of_decide_eq_false himp)
      clear himp PY PNO
      go_wp2_with fail
      refine NO.out.mono ?_
      rintro e w6 ⟨rfl, hb6⟩
      have D6 := hid (D5.out.trans (hb6.mono D5.out.size))
      have R6 := hid (RdC.below R5.out hb6)
      clear hb6 c0 c1 R5 NO
      obtain ⟨c0, c1⟩ := C2.out _ D6.out
      go_wp2_with fail
      refine (RF.out _ _ R6.out).mono ?_
      intro e w7 hp
      obtain ⟨av, tv, rs, rfl, ht, hm⟩ := hp.2.1 HI.out
      have hb7 := hp.2.2
      have D7 := hid (D6.out.trans (hb7.mono D6.out.size))
      have R7 := hid (RdC.below R6.out hb7)
      have hrl := bitRs_len hm
      have hrl2 : rs.length = 2 := hrl
      have hm' := hm
      rw [bit_arm k (by have := HK6.out; omega)] at hm'
      obtain ⟨q5, q6, q7, q8, q9⟩ := arm_tab HK6.out (l := [fullN k, closeS fs g.1]) (by simp) hm'
      have SAT := hid (fun (f : F) (h1 : sub f.1 (fullN k)) (h2 : sub f.2 (fullN k)) => bit_sat (m := k) (by have := HK6.out; omega) hm h1 h2)
      obtain ⟨ao2, acap2, rfl, -⟩ := ht.1.split
      obtain ⟨to2, tcap2, rfl, -⟩ := RdR.split ht.2
      have e2 : (armT k rs).2.2.length = 2 := hrl2
      have E2 := hid e2
      rw [e2] at ht ⊢
      have B78 := hid (below_alloc w7 (.cells #[.string (ByteArray.mk #[116]), .slice ao2 (armT k rs).2.1.length acap2, .slice to2 2 tcap2] 44))
      have C3 := hid (fun W h => cells3 (w := w7) (a := .string (ByteArray.mk #[116])) (b := .slice ao2 (armT k rs).2.1.length acap2) (c := .slice to2 2 tcap2) (t := 44) W h)
      have T7 := hid ht
      have TE := hid (show tabE2 (armT k rs) = 0 by
        unfold tabE2
        rw [if_neg (by simpa using q5), if_neg (by rw [E2.out]; omega)])
      have OK := hid q8
      have NL := hid (show (armT k rs).2.1.length = k from nameN_length (by have := HK6.out; omega))
      clear hp hb7 ht hm hm' hrl hrl2 q5 q6 q7 q8 q9 e2 R6 c0 c1 HI
      obtain ⟨nl, hnl⟩ : ∃ nl, (armT k rs).2.1.length = nl := ⟨_, rfl⟩
      rw [hnl] at B78 C3 T7 NL ⊢
      have HNL := hid hnl
      obtain ⟨w8, hw8⟩ : ∃ w8 : World, w7.alloc (.cells #[.string (ByteArray.mk #[116]), .slice ao2 nl acap2, .slice to2 2 tcap2] 44) = w8 := ⟨_, rfl⟩
      rw [hw8] at B78 C3
      have W8 := hid hw8
      have D8 := hid (D7.out.trans (B78.out.mono D7.out.size))
      have B8 := hid (B4.out.trans (D8.out.mono B4.out.size))
      have R8 := hid (RdC.below R7.out B78.out)
      have T8 := hid (T7.out.below B78.out)
      have HO := hid (fun (f : F) (W : World) (h1 : sub f.1 (fullN k)) (h2 : sub f.2 (fullN k)) (hb : Below w8.heap.size w8 W) => show Calls Tryd.prog 12 #[.agg #[.string (ByteArray.mk #[116]), .slice ao2 nl acap2, .slice to2 2 tcap2], .agg #[.int .u32 (iv f.1), .int .u32 (iv f.2)]] W fun e w' => e = .returned (.tuple #[.bool (satB rs f), .int .i64 0]) ∧ Below W.heap.size W w' from
        pHolds_any (armT k rs) (.slice ao2 nl acap2) (.slice to2 2 tcap2) f W (T8.out.below hb) (HT.out.below (B8.out.trans (hb.mono B8.out.size))) TE.out OK.out (by rw [HNL.out, NL.out]; exact h1) (by rw [HNL.out, NL.out]; exact h2))
      have HF := hid (fun (f : F) (W : World) (hf : f ∈ fs) (hb : Below w8.heap.size w8 W) => show Calls Tryd.prog 12 #[.agg #[.string (ByteArray.mk #[116]), .slice ao2 nl acap2, .slice to2 2 tcap2], .agg #[.int .u32 (iv f.1), .int .u32 (iv f.2)]] W fun e w' => e = .returned (.tuple #[.bool true, .int .i64 0]) ∧ Below W.heap.size W w' from by
        have h := HO.out f W (HW2.out f hf).1 (HW2.out f hf).2 hb
        rw [(SAT.out f (HW2.out f hf).1 (HW2.out f hf).2).2 (fun hs => (closeS_cl fs g.1).2.1 f hf hs)] at h
        exact h)
      have HGO := hid (fun (W : World) (hb : Below w8.heap.size w8 W) => show Calls Tryd.prog 12 #[.agg #[.string (ByteArray.mk #[116]), .slice ao2 nl acap2, .slice to2 2 tcap2], .agg #[.int .u32 (iv g.1), .int .u32 (iv g.2)]] W fun e w' => e = .returned (.tuple #[.bool false, .int .i64 0]) ∧ Below W.heap.size W w' from by
        have h := HO.out g W HG.out.1 HG.out.2 hb
        rw [show satB rs g = false from by
          cases hsb : satB rs g with
          | false => rfl
          | true => exact absurd ((SAT.out g HG.out.1 HG.out.2).1 hsb (closeS_cl fs g.1).1) NS.out] at h
        exact h)
      clear hw8 hnl HO
      go_upto_region 8 with fail
      rw [W8.out]
      obtain ⟨t0, t1, t2⟩ := C3.out _ (Below.refl _ _)
      go_wp2_with fail
      clear t0 t1 t2
      obtain ⟨xo2, xcap2, hxe, -, hxc⟩ := RdF.split R8.out
      simp only [Value.slice.injEq, true_and] at hxe
      obtain ⟨rfl, rfl⟩ := hxe
      have XC := hid hxc
      have fl : (fs.length : Int) ≤ 1048576 := by have := FSL.out; omega
      clear hxc
      go_loopw [92] (fun x wr => ∃ q : Nat, q ≤ fs.length ∧ x = .int .i64 (q : Int) ∧ Below w8.heap.size w8 wr) (fun x _ => fs.length - (intOf x).toNat)
      case atStart => exact ⟨0, Nat.zero_le _, rfl, Below.refl _ _⟩
      case round =>
        obtain ⟨q, hq, rfl, hnx⟩ := hrel
        have q0 : (0 : Int) ≤ (q : Int) := by omega
        by_cases hlt : q < fs.length
        · have hltI : (q : Int) < (fs.length : Int) := by omega
          obtain ⟨f, hf⟩ := get_some hlt
          obtain ⟨fb, foff, rfl, hfd⟩ := XC.out q f hf
          obtain ⟨e0, e1⟩ := hfd wr hnx
          have MF := hid (List.mem_of_getElem? hf)
          have BX := hid (below_alloc wr (.cells #[.int .u32 (iv f.1), .int .u32 (iv f.2)] 34))
          have F2 := hid (fun (W : World) h => cells2 (w := wr) (a := .int .u32 (iv f.1)) (b := .int .u32 (iv f.2)) (t := 34) W h)
          obtain ⟨w9, hw9⟩ : ∃ w9 : World, wr.alloc (.cells #[.int .u32 (iv f.1), .int .u32 (iv f.2)] 34) = w9 := ⟨_, rfl⟩
          rw [hw9] at BX F2
          have W9 := hid hw9
          have D9 := hid (hnx.trans (BX.out.mono hnx.size))
          have HLT := hid hlt
          clear hf hfd hw9 hnx hlt
          go_upto_region 15 with fail
          rw [W9.out]
          clear e0 e1
          obtain ⟨z0, z1⟩ := F2.out _ (Below.refl _ _)
          obtain ⟨t0, t1, t2⟩ := C3.out _ D9.out
          go_wp2_with fail
          refine (HF.out f _ MF.out D9.out).mono ?_
          rintro e w10 ⟨rfl, hb10⟩
          have D10 := hid (D9.out.trans (hb10.mono D9.out.size))
          clear hb10 z0 z1 t0 t1 t2
          go_wp2_with fail
          go_roundw
          case rel => exact ⟨q + 1, by have := HLT.out; omega, by go_num, D10.out⟩
          case measure => have := HLT.out; simp [intOf]; omega
        · have hltI : ¬ (q : Int) < (fs.length : Int) := by omega
          have D9 := hid hnx
          obtain ⟨t0, t1, t2⟩ := C3.out _ D9.out
          obtain ⟨c0, c1⟩ := C2.out _ (D8.out.trans (hnx.mono D8.out.size))
          clear hnx hlt
          go_wp2_with fail
          refine (HGO.out _ D9.out).mono ?_
          rintro e w10 ⟨rfl, hb10⟩
          have BF := hid (B8.out.trans ((D9.out.trans (hb10.mono D9.out.size)).mono B8.out.size))
          clear hb10 t0 t1 t2 c0 c1
          go_wp2_with fail
          go_ret
          exact ⟨rfl, BF.out⟩
    · have HI := hid himp
      have PV := hid (PY.out _ _ R5.out himp)
      have him : sub g.2 (closeS fs g.1) := by
        unfold impS at himp
        exact of_decide_eq_true himp
      obtain ⟨ok1, ok2, ok3⟩ := proveD_right HG.out.1 HG.out.2 (fun f hf => HW2.out f hf) him
      have OK1 := hid ok1
      have OK2 := hid ok2
      have OK3 := hid ok3
      clear himp PY PNO him ok1 ok2 ok3
      go_wp2_with fail
      refine PV.out.mono ?_
      rintro e w6 ⟨v6, sts, rfl, ho6, hm6, hb6⟩
      have D6 := hid (D5.out.trans (hb6.mono D5.out.size))
      have R6 := hid (RdC.below R5.out hb6)
      have O6 := hid ho6
      have M6 := hid hm6
      have PL := hid (show (proveD fs g).length ≤ 100000000000 by have h1 := proveD_length fs g; have h2 := traceS_length fs g.1; omega)
      have PP := hid (show 0 < (proveD fs g).length by have h1 := proveD_length fs g; omega)
      have SL := hid (show sts.length = (proveD fs g).length by rw [← hm6, List.length_map])
      obtain ⟨gb, gcap, hve, -, -⟩ := ho6.rows.form (by have h1 := SL.out; have h2 := PP.out; omega)
      subst hve
      clear hb6 ho6 hm6 c0 c1 R5 PV
      obtain ⟨c0, c1⟩ := C2.out _ D6.out
      go_wp2_with fail
      refine (RF.out _ _ R6.out).mono ?_
      intro e w7 hp
      obtain rfl := hp.1 HI.out
      have hb7 := hp.2.2
      have D7 := hid (D6.out.trans (hb7.mono D6.out.size))
      have R7 := hid (RdC.below R6.out hb7)
      have O7 := hid (O6.out.below hb7)
      have B78 := hid (below_alloc w7 (.cells #[.string (ByteArray.mk #[]), .slice none 0 0, .slice none 0 0] 44))
      obtain ⟨w8, hw8⟩ : ∃ w8 : World, w7.alloc (.cells #[.string (ByteArray.mk #[]), .slice none 0 0, .slice none 0 0] 44) = w8 := ⟨_, rfl⟩
      rw [hw8] at B78
      have W8 := hid hw8
      have D8 := hid (D7.out.trans (B78.out.mono D7.out.size))
      have B8 := hid (B4.out.trans (D8.out.mono B4.out.size))
      have R8 := hid (RdC.below R7.out B78.out)
      have O8 := hid (O7.out.below B78.out)
      clear hp hb7 hw8 c0 c1 R6 R7 O6 O7
      obtain ⟨st, hst⟩ : ∃ st, proveD fs g = st := ⟨_, rfl⟩
      rw [hst] at OK1 OK2 OK3 M6 PL PP SL
      have PR := hid (fun (ss : List St3) (sv : Value) (B : Nat) (W : World) (hb : Below w8.heap.size w8 W) (ho : OwnSt W B sv ss) (hm : ss.map toS = st) => dproves_own k fs g ss (.slice xo fs.length xcap) sv B W (by have := HK6.out; omega) (RdC.below R8.out hb) HVAL.out ho st hm OK1.out OK3.out PL.out PP.out)
      have PN := hid (fun (W : World) (hb : Below w8.heap.size w8 W) => show Calls Tryd.prog 11 #[.slice (some ⟨gb, 0, none⟩) sts.length gcap] W fun e w' => ∃ (v' : Value) (ss : List St3), e = .returned v' ∧ OwnSt w' W.heap.size v' ss ∧ ss.map toS = st ∧ Below W.heap.size W w' from by
        have ho := O8.out.below hb
        have key : ∀ (i : Nat) (s : Stp), (sts.map toS)[i]? = some s → rightD k fs st i s = true := fun i s hs => OK1.out i s (by rw [← M6.out]; exact hs)
        have hlen : ∀ s ∈ sts, s.2.2.1.length ≤ 2 := fun s hs => by
          obtain ⟨i, hi, e⟩ := List.getElem_of_mem hs
          have h1 : (sts.map toS)[i]? = some (toS s) := by rw [List.getElem?_map, List.getElem?_eq_getElem hi, e]; rfl
          exact right_len (key i _ h1)
        refine (dprune_any sts _ W (RdC.of_owns cS_length ho.rows (by have h1 := SL.out; have h2 := PL.out; omega)) (fun s hs => RdE.of_owns (ho.frm s hs) (by have := hlen s hs; omega)) hlen (fun i s hs hr q hq => right_lt (key i s hs) hr hq) (by rw [M6.out]; exact OK2.out) (by have h1 := SL.out; have h2 := PL.out; omega)).mono fun e w' ⟨v', ss, he, h1, h2, h3⟩ => ⟨v', ss, he, h1, by rw [h2, M6.out], h3⟩)
      have P1 := hid (fun (W : World) (hb : Below w8.heap.size w8 W) => PR.out sts _ _ W hb (O8.out.below hb) M6.out)
      have HS := hid (fun (W : World) (h : Below w8.heap.size w8 W) => show Below w8.heap.size w8 W ∧ W.cell? ⟨w3.heap.size, 0, none⟩ = some (.int .u32 (iv g.1)) ∧ W.cell? ⟨w3.heap.size, 1, none⟩ = some (.int .u32 (iv g.2)) from And.intro h (C2.out W (D8.out.trans (h.mono D8.out.size))))
      clear hst
      go_upto_region 8 with fail
      rw [W8.out]
      obtain ⟨c0, c1⟩ := (HS.out _ (Below.refl _ _)).2
      go_wp2_with fail
      go_region_held3 (fun W => Below w8.heap.size w8 W ∧ W.cell? ⟨w3.heap.size, 0, none⟩ = some (.int .u32 (iv g.1)) ∧ W.cell? ⟨w3.heap.size, 1, none⟩ = some (.int .u32 (iv g.2)))
        (first | exact HS.out _ (below_drewN' (Below.refl _ _) _) | exact HS.out _ (Below.refl _ _).drew | exact HS.out _ (Below.refl _ _) | exact HS.out _ (by assumption))
        (first
          | (go_at_call 10; have hS := And.left ‹Below w8.heap.size w8 _ ∧ _ ∧ _›; with_reducible refine (P1.out _ hS).mono ?_; rintro e wa ⟨rfl, hba⟩; have hLa := hS.trans (hba.mono hS.size); clear hba hS)
          | (go_at_call 11; have hS := And.left ‹Below w8.heap.size w8 _ ∧ _ ∧ _›; refine (PN.out _ hS).mono ?_; rintro e wb ⟨vb, ss, rfl, hob, hmb, hbb⟩; have hLb := hS.trans (hbb.mono hS.size); clear hbb hS)
          | (go_at_call 10; have hS := And.left ‹Below w8.heap.size w8 _ ∧ _ ∧ _›; refine (PR.out ss _ _ _ hS (by first | exact hob | exact hob.below (Below.refl _ _).drew) hmb).mono ?_; rintro e wc ⟨rfl, hbc⟩; have hLc := hS.trans (hbc.mono hS.size); clear hbc hS))
      all_goals
        have BF := hid (B8.out.trans (hLc.mono B8.out.size))
        clear hLa hLb hLc hob
        go_wp2_with fail
        go_ret
        exact ⟨rfl, BF.out⟩
  · rw [decide_eq_false hl] at OF
    unfold enc8 at *
    clear hl hT hfl hdl hlen hk6 hw2
    go_enter Tryd.func3, Tryd.ntmps3
    go_wp2_with fail
    rw [W0.out]
    refine OF.out.mono ?_
    rintro e w1 ⟨v1, rfl, ho1, hb1⟩
    have B1 := hid (B0.out.trans (hb1.mono B0.out.size))
    obtain ⟨xo, xcap, rfl, -⟩ := (show RdF w1 v1 fs from RdC.of_owns cF_length ho1 (by omega))
    clear hb1 ho1 OF
    go_wp2_with fail
    refine (AW.out _ B1.out).mono ?_
    rintro e w2 ⟨rfl, hb2⟩
    have B2 := hid (B1.out.trans (hb2.mono B1.out.size))
    clear hb2
    go_wp2_with fail
    refine (AW.out _ B2.out).mono ?_
    rintro e w3 ⟨rfl, hb3⟩
    have B3 := hid (B2.out.trans (hb3.mono B2.out.size))
    clear hb3
    go_wp2_with fail
    go_ret
    exact ⟨rfl, B3.out⟩

end Go.Proofs.YtcfcmalaabmceaaDoor
