/- The law TopCertified. -/
import Derived.Test.YtalejolehccclaaGreatDoorGTopA
import Derived.Test.YtalejolehccclaaGreatDoorTopK
import Derived.Test.YtalejolehccclaaGreatDoorGTab30
import Derived.Test.YtalejolehccclaaGreatDoorGKm3
namespace Go.Proofs.YtalejolehccclaaGreatDoor
open Go.RowKit
set_option linter.unusedVariables false

set_option maxHeartbeats 3200000 in
set_option maxRecDepth 100000 in
theorem tCertifiedL (a g : U8) (rr : List RcR) (rv : Value) (w : World) (hT : Tab w) (hr : RdRc w rv rr) :
    Calls Tryz.prog 4 #[.agg #[.int .u8 (a.toNat : Int), .int .u8 (g.toNat : Int), rv]] w fun e w' => e = .returned (.bool true) ∧ Below w.heap.size w w' := by
  have TB := hid (fun (W : World) (h : RdRc W rv rr) (hm : 8 < rr.length) => table_big a g rr rv 8 W h hm)
  have TK := hid (fun (W : World) (h : RdRc W rv rr) (hm : rr.length ≤ 8) => table_ok a g rr rv 8 W h hm (Nat.le_refl _))
  generalize (a.toNat : Int) = ai at *
  generalize (g.toNat : Int) = gi at *
  have hb0 := below_alloc w (.cells #[.int .u8 ai, .int .u8 gi, rv] 47)
  obtain ⟨q0, q1, q2⟩ := cells3 (w := w) (a := .int .u8 ai) (b := .int .u8 gi) (c := rv) (t := 47) _ (Below.refl _ _)
  have RR := hid (hr.below hb0)
  obtain ⟨w0, hw0⟩ : ∃ w0 : World, w.alloc (.cells #[.int .u8 ai, .int .u8 gi, rv] 47) = w0 := ⟨_, rfl⟩
  rw [hw0] at hb0 RR q0 q1 q2
  have B0 := hid hb0
  have W0 := hid hw0
  have HT0 := hid (hT.below hb0)
  obtain ⟨ro, rcap, hv, hrl, hrc⟩ := RR.out.split
  subst hv
  clear hb0 hw0 hrc hr hT
  by_cases hm : rr.length ≤ 8
  · replace TK := hid (fun (W : World) (h : RdRc W (.slice ro rr.length rcap) rr) => TK.out W h hm)
    clear TB
    go_enter Tryz.func4, Tryz.ntmps4
    go_wp2_with fail
    rw [W0.out]
    go_wp2_with fail
    refine (TK.out _ RR.out).mono ?_
    rintro e w1 ⟨av, tv, t, rfl, hTT, hG, -, -, -, hb1⟩
    have KE := hid (good_kE hG)
    have OKT := hid (good_okT hG)
    have CKA := hid (kchk_all KE.out (good_wits hG))
    have HK2 := hid hG.1
    have HKB := hid (keyN_bound (show t.2.1.length ≤ 16 by have := hG.2.1; omega) (pairsS t.2.2))
    have HWB := hid (good_wits hG)
    have KL1 := hid (show kallL t = keyN t.2.1.length (pairsS t.2.2) from if_pos KE.out)
    have KL2 := hid (show kmaxL t = witsL t.2.2 from if_pos KE.out)
    have SL := hid (show setsL t = cntL (pairsS t.2.2) from if_pos HK2.out)
    obtain ⟨ao, acap, hva, -⟩ := hTT.1.split
    obtain ⟨to, tcap, hvt, -⟩ := RdR.split hTT.2
    have hb2 := below_alloc w1 (.cells #[.string t.1, av, tv] 32)
    have C3 := hid (fun W h => cells3 (w := w1) (a := .string t.1) (b := av) (c := tv) (t := 32) W h)
    have T2 := hid (hTT.below hb2)
    obtain ⟨w2, hw2⟩ : ∃ w2 : World, w1.alloc (.cells #[.string t.1, av, tv] 32) = w2 := ⟨_, rfl⟩
    rw [hw2] at hb2 C3 T2
    have W2 := hid hw2
    have D2 := hid (hb1.trans (hb2.mono hb1.size))
    have HT2 := hid (HT0.out.below D2.out)
    have AW := hid (fun (W : World) (h : Below w2.heap.size w2 W) => awake34_any W (HT2.out.below h))
    have KA := hid (fun (W : World) (h : Below w2.heap.size w2 W) => kall_any t av tv W (T2.out.below h))
    have KM := hid (fun (W : World) (h : Below w2.heap.size w2 W) => kmaximal_any t av tv W (T2.out.below h))
    have AS := hid (fun (W : World) (h : Below w2.heap.size w2 W) => asetsR t av tv W (T2.out.below h))
    have KC := hid (fun (kv wv : Value) (W : World) (h : Below w2.heap.size w2 W) (hk : RdE enc W kv (keyN t.2.1.length (pairsS t.2.2))) (hw : RdW W wv (witsL t.2.2)) => kcheckC_any t av tv _ kv _ wv W (T2.out.below h) hk hw (by have := HKB.out; omega) (HT2.out.below h) (fun _ => OKT.out))
    have OFX := hid (fun (x : W3) (hx : x ∈ witsL t.2.2) (W : World) (h : Below w2.heap.size w2 W) => show Calls Tryz.prog 19 #[.agg #[.string t.1, av, tv], .int .i64 x.2.1, .int .i64 x.2.2] W fun e w' => e = .returned (.tuple #[.int .u32 (iv x.1), .int .i64 0]) ∧ Below W.heap.size W w' from by
      have h1 := aof_any t av tv x.2.1 x.2.2 W (T2.out.below h)
      rw [(wits_of HK2.out hx).1] at h1
      exact h1)
    have ANY := hid (fun (x : W3) (hx : x ∈ witsL t.2.2) => (wits_of HK2.out hx).2)
    rw [KL1.out, KE.out] at KA
    rw [KL2.out, KE.out] at KM
    rw [SL.out, HK2.out] at AS
    rw [CKA.out] at KC
    generalize keyN t.2.1.length (pairsS t.2.2) = ky at *
    generalize witsL t.2.2 = wl at *
    generalize cntL (pairsS t.2.2) = cs at *
    obtain ⟨nm, ats, rs⟩ := t
    simp only at hva hvt
    subst hva hvt
    obtain ⟨t100, t101, t102⟩ := C3.out _ (Below.refl _ _)
    have D10 := hid (Below.refl w2.heap.size w2)
    clear hb1 hb2 hw2 hTT hG TK q0 q1 q2 CKA KL1 KL2 SL
    go_wp2_with fail
    rw [W2.out]
    go_wp2_with fail
    refine (AW.out _ D10.out).mono ?_
    rintro e w11 ⟨rfl, hb11⟩
    have D11 := hid (D10.out.trans (hb11.mono D10.out.size))
    obtain ⟨t110, t111, t112⟩ := C3.out _ D11.out
    clear hb11 t100 t101 t102
    go_wp2_with fail
    refine (KA.out _ D11.out).mono ?_
    rintro e w12 ⟨v12, rfl, ho12, -, hb12⟩
    have D12 := hid (D11.out.trans (hb12.mono D11.out.size))
    have O12 := hid ho12
    clear ho12
    obtain ⟨t120, t121, t122⟩ := C3.out _ D12.out
    clear hb12 t110 t111 t112
    have R12 := hid (RdE.of_owns O12.out (by have := HKB.out; omega))
    obtain ⟨ko, kcap, rfl, -⟩ := R12.out.split
    go_wp2_with fail
    refine (KM.out _ D12.out).mono ?_
    rintro e w13 ⟨v13, rfl, ho13, -, hb13⟩
    have D13 := hid (D12.out.trans (hb13.mono D12.out.size))
    replace R12 := hid (R12.out.below hb13)
    have O13 := hid ho13
    clear ho13
    obtain ⟨t130, t131, t132⟩ := C3.out _ D13.out
    clear hb13 t120 t121 t122
    have R13 := hid (show RdW w13 v13 wl from RdC.of_owns cW_length O13.out (by have := HWB.out; omega))
    obtain ⟨wo, wcap, rfl, -⟩ := RdW.split R13.out
    have S13 := hid (fun (W : World) (h : Below w13.heap.size w13 W) => show RdW W (.slice wo wl.length wcap) wl from RdC.below R13.out h)
    go_wp2_with fail
    refine (AS.out _ D13.out).mono ?_
    rintro e w14 ⟨v14, rfl, hr14, hb14⟩
    have D14 := hid (D13.out.trans (hb14.mono D13.out.size))
    have R14 := hid hr14
    have Q14 := hid (S13.out _ hb14)
    have K14 := hid (R12.out.below hb14)
    obtain ⟨t140, t141, t142⟩ := C3.out _ D14.out
    clear hb14 hr14 t130 t131 t132
    go_wp2_with fail
    refine (KC.out _ _ _ D14.out K14.out Q14.out).mono ?_
    rintro e w15 ⟨rfl, hb15⟩
    have D15 := hid (D14.out.trans (hb15.mono D14.out.size))
    have R15 := hid (RdC.below R14.out hb15)
    have Q15 := hid (show RdW w15 (.slice wo wl.length wcap) wl from RdC.below Q14.out hb15)
    obtain ⟨so, scap, rfl, -⟩ := RdCt.split R15.out
    obtain ⟨wo', wcap', he, -, hwc⟩ := RdW.split Q15.out
    cases he
    have WC := hid hwc
    have WLB := hid (show wl.length ≤ 200 from HWB.out)
    clear hb15 hwc t140 t141 t142
    have sz15 := D15.out.size
    go_wp2_with fail
    go_loopw [61] (fun i wr => ∃ j : Nat, j ≤ wl.length ∧ i = .int .i64 j ∧ Below w15.heap.size w15 wr) (fun i _ => wl.length - (intOf i).toNat)
    case atStart => exact ⟨0, Nat.zero_le _, rfl, Below.refl _ _⟩
    case round =>
      obtain ⟨j, hj, rfl, hnx⟩ := hrel
      have hsz := hnx.size
      have j0 : (0 : Int) ≤ (j : Int) := by omega
      have j1 : (j : Int) ≤ 200 := by have := WLB.out; omega
      by_cases hlt : j < wl.length
      · obtain ⟨x, hx⟩ := get_some hlt
        obtain ⟨b, off, rfl, hd⟩ := WC.out j x hx
        obtain ⟨e0, e1, e2⟩ := hd wr hnx
        have MX := hid (List.mem_of_getElem? hx)
        have HLT := hid hlt
        have hb1 := below_alloc wr (.cells #[.int .u32 (iv x.1), .int .i64 x.2.1, .int .i64 x.2.2] 60)
        have CX := hid (fun W h => cells3 (w := wr) (a := .int .u32 (iv x.1)) (b := .int .i64 x.2.1) (c := .int .i64 x.2.2) (t := 60) W h)
        have N1 := hid (hnx.trans (hb1.mono hsz))
        have D1 := hid (D15.out.trans (N1.out.mono sz15))
        obtain ⟨t0, t1, t2⟩ := C3.out _ D1.out
        obtain ⟨x0, x1, x2⟩ := CX.out _ (Below.refl _ _)
        obtain ⟨wx, hwx⟩ : ∃ wx : World, wr.alloc (.cells #[.int .u32 (iv x.1), .int .i64 x.2.1, .int .i64 x.2.2] 60) = wx := ⟨_, rfl⟩
        have WX := hid hwx
        clear hd hx hlt hnx hb1 hwx
        go_wp2_with fail
        rw [WX.out] at CX N1 D1 ⊢
        clear t0 t1 t2 x0 x1 x2 e0 e1 e2
        refine (OFX.out x MX.out _ D1.out).mono ?_
        rintro e w5 ⟨rfl, hb5⟩
        have N5 := hid (N1.out.trans (hb5.mono N1.out.size))
        have hb6 := below_alloc w5 (.cells #[.int .u32 (iv x.1)] 58)
        have N6 := hid (N5.out.trans (hb6.mono N5.out.size))
        have sc : (w5.alloc (.cells #[.int .u32 (iv x.1)] 58)).cell? ⟨w5.heap.size, 0, none⟩ = some (.int .u32 (iv x.1)) := by simp
        obtain ⟨x0, x1, x2⟩ := CX.out _ (hb5.trans (hb6.mono hb5.size))
        have CT := hid (containsCt_any x.1 w5.heap.size cs _ _ (RdC.below R15.out N6.out) sc)
        rw [ANY.out x MX.out] at CT
        clear hb5 hb6
        go_wp2_with fail
        refine CT.out.mono ?_
        rintro e w7 ⟨rfl, hb7⟩
        have N7 := hid (N6.out.trans (hb7.mono N6.out.size))
        clear hb7 sc x0 x1 x2
        go_wp2_with fail
        go_roundw
        case rel => exact ⟨j + 1, by have := HLT.out; omega, by go_num, N7.out⟩
        case measure => have := HLT.out; simp [intOf]; omega
      · have BF := hid (B0.out.trans ((D2.out.trans ((D15.out.trans (hnx.mono sz15)).mono D2.out.size)).mono B0.out.size))
        clear hnx
        go_wp2_with fail
        go_ret
        exact ⟨rfl, BF.out⟩
  · replace TB := hid (fun (W : World) (h : RdRc W (.slice ro rr.length rcap) rr) => TB.out W h (by omega))
    clear TK
    go_enter Tryz.func4, Tryz.ntmps4
    go_wp2_with fail
    rw [W0.out]
    go_wp2_with fail
    refine (TB.out _ RR.out).mono ?_
    rintro e w1 ⟨rfl, hb1⟩
    have B1 := hid ((B0.out.trans (hb1.mono B0.out.size)).alloc (Nat.le_trans B0.out.size hb1.size) (.cells #[.string (ByteArray.mk #[]), .slice none 0 0, .slice none 0 0] 32))
    have HT1 := hid ((HT0.out.below hb1).below (below_alloc w1 (.cells #[.string (ByteArray.mk #[]), .slice none 0 0, .slice none 0 0] 32)))
    clear hb1
    go_wp2_with fail
    refine (awake34_any _ HT1.out).mono ?_
    rintro e w2 ⟨rfl, hb2⟩
    have B2 := hid (B1.out.trans (hb2.mono B1.out.size))
    replace HT1 := hid (HT1.out.below hb2)
    clear hb2
    go_wp2_with fail
    refine (awake34_any _ HT1.out).mono ?_
    rintro e w3 ⟨rfl, hb3⟩
    have B3 := hid (B2.out.trans (hb3.mono B2.out.size))
    clear hb3
    go_wp2_with fail
    go_ret
    exact ⟨rfl, B3.out⟩

end Go.Proofs.YtalejolehccclaaGreatDoor
