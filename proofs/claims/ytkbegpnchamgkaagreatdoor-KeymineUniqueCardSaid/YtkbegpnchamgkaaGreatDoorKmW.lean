/- The law KeymineUnique. -/
import Derived.Test.YtkbegpnchamgkaaGreatDoorKmU
import Derived.Test.YtkbegpnchamgkaaGreatDoorKmR4
namespace Go.Proofs.YtkbegpnchamgkaaGreatDoor
open Go.RowKit
set_option linter.unusedVariables false

@[go_sem] theorem wrap_u8k (b : U8) : IntKind.u32.wrap (b.toNat : Int) = (b.toNat : Int) := by
  rw [IntKind.wrap_u32]; have := b.isLt; omega

set_option maxHeartbeats 3200000 in
set_option maxRecDepth 100000 in
theorem kmUniqueL (a g : U8) (rr : List RcR) (rv : Value) (u8 : U8) (w : World) (hT : Tab w) (hr : RdRc w rv rr) :
    Calls Tryz.prog 3 #[.agg #[.int .u8 (a.toNat : Int), .int .u8 (g.toNat : Int), rv], .int .u8 (u8.toNat : Int)] w fun e w' => e = .returned (.bool true) ∧ Below w.heap.size w w' := by
  have TB := hid (fun (W : World) (h : RdRc W rv rr) (hm : 8 < rr.length) => table_big a g rr rv 8 W h hm)
  have TK := hid (fun (W : World) (h : RdRc W rv rr) (hm : rr.length ≤ 8) => table_ok a g rr rv 8 W h hm (Nat.le_refl _))
  generalize (a.toNat : Int) = ai at *
  generalize (g.toNat : Int) = gi at *
  have hb0 := below_alloc w (.cells #[.int .u8 ai, .int .u8 gi, rv] 24)
  obtain ⟨q0, q1, q2⟩ := cells3 (w := w) (a := .int .u8 ai) (b := .int .u8 gi) (c := rv) (t := 24) _ (Below.refl _ _)
  have RR := hid (hr.below hb0)
  obtain ⟨w0, hw0⟩ : ∃ w0 : World, w.alloc (.cells #[.int .u8 ai, .int .u8 gi, rv] 24) = w0 := ⟨_, rfl⟩
  rw [hw0] at hb0 RR q0 q1 q2
  have B0 := hid hb0
  have W0 := hid hw0
  have HT0 := hid (hT.below hb0)
  obtain ⟨ro, rcap, hv, hrl, hrc⟩ := RR.out.split
  subst hv
  clear hb0 hw0 hrc hr hT
  by_cases hm : rr.length ≤ 8
  · replace TK := hid (fun (W : World) (h : RdRc W (.slice ro rr.length rcap) rr) => TK.out W h hm)
    clear TB
    go_enter Tryz.func3, Tryz.ntmps3
    go_wp2_with fail
    rw [W0.out]
    go_wp2_with fail
    refine (TK.out _ RR.out).mono ?_
    rintro e w1 ⟨av, tv, t, rfl, hTT, hG, -, -, -, hb1⟩
    have KE := hid (good_kE hG)
    have OKT := hid (good_okT hG)
    have CKA := hid (kchk_all KE.out (good_wits hG))
    have HK2 := hid hG.1
    have HKB := hid (keyN_bound (show t.2.1.length ≤ 16 by have := hG.2.1; omega) (pairsS t.2.2))
    have HWB := hid (good_wits hG)
    have KL1 := hid (show kallL t = keyN t.2.1.length (pairsS t.2.2) from if_pos KE.out)
    have KL2 := hid (show kmaxL t = witsL t.2.2 from if_pos KE.out)
    obtain ⟨ao, acap, hva, -⟩ := hTT.1.split
    obtain ⟨to, tcap, hvt, -⟩ := RdR.split hTT.2
    have hb2 := below_alloc w1 (.cells #[.string t.1, av, tv] 28)
    have C3 := hid (fun W h => cells3 (w := w1) (a := .string t.1) (b := av) (c := tv) (t := 28) W h)
    have T2 := hid (hTT.below hb2)
    obtain ⟨w2, hw2⟩ : ∃ w2 : World, w1.alloc (.cells #[.string t.1, av, tv] 28) = w2 := ⟨_, rfl⟩
    rw [hw2] at hb2 C3 T2
    have W2 := hid hw2
    have D2 := hid (hb1.trans (hb2.mono hb1.size))
    have HT2 := hid (HT0.out.below D2.out)
    have AW := hid (fun (W : World) (h : Below w2.heap.size w2 W) => awake29_any W (HT2.out.below h))
    have FU := hid (fun (W : World) => full_any (t.2.1.length : Int) W)
    have hm16 : t.2.1.length ≤ 16 := (tabE2_ok hG.1).1
    rw [Int.toNat_natCast, show min t.2.1.length 32 = t.2.1.length by omega] at FU
    unfold enc at FU
    obtain ⟨fu, hfu⟩ : ∃ fu, fullN t.2.1.length = fu := ⟨_, rfl⟩
    have SUB := hid (show sub (BitVec.setWidth 32 u8 &&& fu) (fullN t.2.1.length) by rw [hfu]; exact and_sub_right _ _)
    rw [hfu] at FU
    obtain ⟨st, hst⟩ : ∃ st, BitVec.setWidth 32 u8 &&& fu = st := ⟨_, rfl⟩
    rw [hst] at SUB
    have KES := hid (kE_set KE.out SUB.out)
    have UQ := hid (fun (W : World) (h : Below w2.heap.size w2 W) => kunique_any t av tv st W (T2.out.below h) (HT2.out.below h) (fun _ => OKT.out))
    have DU := hid (fun (W : World) (h : Below w2.heap.size w2 W) => kdup_any t av tv st W (T2.out.below h) (HT2.out.below h) (fun _ => OKT.out))
    have RU := hid (fun (W : World) (h : Below w2.heap.size w2 W) => runique_any t av tv st W (T2.out.below h) HK2.out SUB.out)
    have RD := hid (fun (W : World) (h : Below w2.heap.size w2 W) => rkdup_any t av tv st W (T2.out.below h) HK2.out)
    have BU := hid (big_uni KES.out)
    rw [show kuB t st = uniB (pairsS t.2.2) st from kE_unq KE.out KES.out, KES.out] at UQ
    rw [show dupL t st = bigG (lK t.2.2 st) from if_pos KES.out, KES.out] at DU
    have PR := hid (fun (v u : Value) (gs hs : List Gp) (W : World) (hv : RdG W v gs) (hu : RdG W u hs) (he : gs.map (·.2) = hs.map (·.2)) => gpairs_any gs hs v u W hv hu he)
    generalize uniB (pairsS t.2.2) st = ub at *
    generalize bigG (lK t.2.2 st) = bg at *
    have HST := hid hst
    obtain ⟨nm, ats, rs⟩ := t
    simp only at hva hvt
    subst hva hvt
    obtain ⟨t100, t101, t102⟩ := C3.out _ (Below.refl _ _)
    have D10 := hid (Below.refl w2.heap.size w2)
    clear hb1 hb2 hw2 hTT hG TK q0 q1 q2 CKA KL1 KL2 hst hfu SUB KES hm16
    go_wp2_with fail
    rw [W2.out]
    go_wp2_with fail
    refine (AW.out _ D10.out).mono ?_
    rintro e w11 ⟨rfl, hb11⟩
    have D11 := hid (D10.out.trans (hb11.mono D10.out.size))
    obtain ⟨t110, t111, t112⟩ := C3.out _ D11.out
    clear hb11 t100 t101 t102
    go_wp2_with fail
    refine (FU.out _).mono ?_
    rintro e w' ⟨rfl, rfl⟩
    go_wp2_with fail
    rw [HST.out]
    refine (UQ.out _ D11.out).mono ?_
    rintro e w12 ⟨rfl, hb12⟩
    have D12 := hid (D11.out.trans (hb12.mono D11.out.size))
    obtain ⟨t120, t121, t122⟩ := C3.out _ D12.out
    clear hb12 t110 t111 t112
    go_wp2_with fail
    refine (DU.out _ D12.out).mono ?_
    rintro e w13 ⟨v13, gs, rfl, hrg, hgs, hgl, hb13⟩
    have D13 := hid (D12.out.trans (hb13.mono D12.out.size))
    obtain ⟨go, gcap, rfl, -⟩ := hrg.1.split
    have RG := hid hrg
    have HGS := hid hgs
    have UL := hid (show ((gs.length : Int) == 0) = ub by
      rw [← BU.out, ← hgs]
      cases gs with
      | nil => rfl
      | cons a l => exact beq_eq_false_iff_ne.2 (by rw [List.length_cons]; omega))
    obtain ⟨t130, t131, t132⟩ := C3.out _ D13.out
    clear hb13 hrg hgs hgl t120 t121 t122
    go_wp2_with fail
    refine (RU.out _ D13.out).mono ?_
    rintro e w14 ⟨rfl, hb14⟩
    have D14 := hid (D13.out.trans (hb14.mono D13.out.size))
    replace RG := hid (RG.out.below hb14)
    obtain ⟨t140, t141, t142⟩ := C3.out _ D14.out
    have ul := UL.out
    have bb : (ub == ub) = true := by cases ub <;> rfl
    clear hb14 t130 t131 t132
    go_wp2_with fail
    refine (RD.out _ D14.out).mono ?_
    rintro e w15 ⟨v15, hs, rfl, hrh, hhs, -, hb15⟩
    have D15 := hid (D14.out.trans (hb15.mono D14.out.size))
    replace RG := hid (RG.out.below hb15)
    have CP := hid (PR.out _ _ gs hs w15 RG.out hrh (by rw [HGS.out, hhs]))
    clear hb15 hrh hhs t140 t141 t142
    go_wp2_with fail
    refine CP.out.mono ?_
    rintro e w16 ⟨rfl, hb16⟩
    have BF := hid (B0.out.trans ((D2.out.trans ((D15.out.trans (hb16.mono D15.out.size)).mono D2.out.size)).mono B0.out.size))
    clear hb16
    go_wp2_with fail
    go_ret
    exact ⟨rfl, BF.out⟩
  · replace TB := hid (fun (W : World) (h : RdRc W (.slice ro rr.length rcap) rr) => TB.out W h (by omega))
    clear TK
    go_enter Tryz.func3, Tryz.ntmps3
    go_wp2_with fail
    rw [W0.out]
    go_wp2_with fail
    refine (TB.out _ RR.out).mono ?_
    rintro e w1 ⟨rfl, hb1⟩
    have B1 := hid ((B0.out.trans (hb1.mono B0.out.size)).alloc (Nat.le_trans B0.out.size hb1.size) (.cells #[.string (ByteArray.mk #[]), .slice none 0 0, .slice none 0 0] 28))
    have HT1 := hid ((HT0.out.below hb1).below (below_alloc w1 (.cells #[.string (ByteArray.mk #[]), .slice none 0 0, .slice none 0 0] 28)))
    clear hb1
    go_wp2_with fail
    refine (awake29_any _ HT1.out).mono ?_
    rintro e w2 ⟨rfl, hb2⟩
    have B2 := hid (B1.out.trans (hb2.mono B1.out.size))
    replace HT1 := hid (HT1.out.below hb2)
    clear hb2
    go_wp2_with fail
    refine (awake29_any _ HT1.out).mono ?_
    rintro e w3 ⟨rfl, hb3⟩
    have B3 := hid (B2.out.trans (hb3.mono B2.out.size))
    clear hb3
    go_wp2_with fail
    go_ret
    exact ⟨rfl, B3.out⟩

end Go.Proofs.YtkbegpnchamgkaaGreatDoor
