/- The law KeymineLess. -/
import Derived.Test.YtkbegpnchamgkaaDoorKmG
import Derived.Test.YtkbegpnchamgkaaDoorKmK
namespace Go.Proofs.YtkbegpnchamgkaaDoor
open Go.RowKit
set_option linter.unusedVariables false

set_option maxHeartbeats 3200000 in
set_option maxRecDepth 100000 in
theorem kmLessL (a g : U8) (rr : List RcR) (rv : Value) (u8 : U8) (ids : List Int) (iv : Value) (w : World) (hT : Tab w) (hr : RdRc w rv rr) (hi : RdE encJ w iv ids) :
    Calls Tryd.prog 4 #[.agg #[.int .u8 (a.toNat : Int), .int .u8 (g.toNat : Int), rv], .int .u8 (u8.toNat : Int), iv] w fun e w' => e = .returned (.bool true) ∧ Below w.heap.size w w' := by
  have TB := hid (fun (W : World) (h : RdRc W rv rr) (hm : 8 < rr.length) => table_big a g rr rv 8 W h hm)
  have TK := hid (fun (W : World) (h : RdRc W rv rr) (hm : rr.length ≤ 8) => table_ok a g rr rv 8 W h hm (Nat.le_refl _))
  generalize (a.toNat : Int) = ai at *
  generalize (g.toNat : Int) = gi at *
  have hb0 := below_alloc w (.cells #[.int .u8 ai, .int .u8 gi, rv] 24)
  obtain ⟨q0, q1, q2⟩ := cells3 (w := w) (a := .int .u8 ai) (b := .int .u8 gi) (c := rv) (t := 24) _ (Below.refl _ _)
  have RR := hid (hr.below hb0)
  have HI0 := hid (hi.below hb0)
  obtain ⟨w0, hw0⟩ : ∃ w0 : World, w.alloc (.cells #[.int .u8 ai, .int .u8 gi, rv] 24) = w0 := ⟨_, rfl⟩
  rw [hw0] at hb0 RR HI0 q0 q1 q2
  have B0 := hid hb0
  have W0 := hid hw0
  have HT0 := hid (hT.below hb0)
  obtain ⟨ro, rcap, hv, hrl, hrc⟩ := RR.out.split
  subst hv
  obtain ⟨io, icap, rfl, -, -⟩ := hi.split
  clear hb0 hw0 hrc hr hT hi
  by_cases hm : rr.length ≤ 8
  · replace TK := hid (fun (W : World) (h : RdRc W (.slice ro rr.length rcap) rr) => TK.out W h hm)
    clear TB
    go_enter Tryd.func4, Tryd.ntmps4
    go_wp2_with fail
    rw [W0.out]
    go_wp2_with fail
    refine (TK.out _ RR.out).mono ?_
    rintro e w1 ⟨av, tv, t, rfl, hTT, hG, -, -, -, hb1⟩
    have KE := hid (good_kE hG)
    have OKT := hid (good_okT hG)
    have CKA := hid (kchk_all KE.out (good_wits hG))
    have HK2 := hid hG.1
    have HKB := hid (keyN_bound (show t.2.1.length ≤ 16 by have := hG.2.1; omega) (pairsS t.2.2))
    have HWB := hid (good_wits hG)
    have KL1 := hid (show kallL t = keyN t.2.1.length (pairsS t.2.2) from if_pos KE.out)
    have KL2 := hid (show kmaxL t = witsL t.2.2 from if_pos KE.out)
    obtain ⟨ao, acap, hva, -⟩ := hTT.1.split
    obtain ⟨tq, tcap, hvt, -⟩ := RdR.split hTT.2
    have hb2 := below_alloc w1 (.cells #[.string t.1, av, tv] 28)
    have C3 := hid (fun W h => cells3 (w := w1) (a := .string t.1) (b := av) (c := tv) (t := 28) W h)
    have T2 := hid (hTT.below hb2)
    obtain ⟨w2, hw2⟩ : ∃ w2 : World, w1.alloc (.cells #[.string t.1, av, tv] 28) = w2 := ⟨_, rfl⟩
    rw [hw2] at hb2 C3 T2
    have W2 := hid hw2
    have D2 := hid (hb1.trans (hb2.mono hb1.size))
    have HT2 := hid (HT0.out.below D2.out)
    have AW := hid (fun (W : World) (h : Below w2.heap.size w2 W) => awake29_any W (HT2.out.below h))
    have FU := hid (fun (W : World) => full_any (t.2.1.length : Int) W)
    have hm16 : t.2.1.length ≤ 16 := (tabE2_ok hG.1).1
    rw [Int.toNat_natCast, show min t.2.1.length 32 = t.2.1.length by omega] at FU
    unfold enc at FU
    obtain ⟨fu, hfu⟩ : ∃ fu, fullN t.2.1.length = fu := ⟨_, rfl⟩
    have SUB := hid (show sub (BitVec.setWidth 32 u8 &&& fu) (fullN t.2.1.length) by rw [hfu]; exact and_sub_right _ _)
    rw [hfu] at FU
    obtain ⟨st, hst⟩ : ∃ st, BitVec.setWidth 32 u8 &&& fu = st := ⟨_, rfl⟩
    rw [hst] at SUB
    have KES := hid (kE_set KE.out SUB.out)
    have UQ := hid (fun (W : World) (h : Below w2.heap.size w2 W) => kunique_any t av tv st W (T2.out.below h) (HT2.out.below h) (fun _ => OKT.out))
    rw [show kuB t st = uniB (pairsS t.2.2) st from kE_unq KE.out KES.out, KES.out] at UQ
    have GD := hid hG
    have HI2 := hid (HI0.out.below D2.out)
    have SB2 := hid SUB
    have KB := hid (fun (W : World) (h : Below w2.heap.size w2 W) => kbest_any t av tv W (T2.out.below h))
    have BS := hid (show bestS t = match keyN t.2.1.length (pairsS t.2.2) with
      | [] => (0#32, 4)
      | s :: _ => (s, 0) from by unfold bestS; rw [if_neg (by rw [KE.out]; simp)]; rfl)
    have HST := hid hst
    obtain ⟨nm, ats, rs⟩ := t
    simp only at hva hvt
    subst hva hvt
    have KP := hid (fun (W : World) (h : Below w2.heap.size w2 W) => rkeep_any nm ats ids _ _ _ rs W (T2.out.below h).1 (T2.out.below h).2 (HI2.out.below h) (by have : ats.length ≤ 16 := hm16; omega) (by have : rs.length ≤ 8 := GD.out.2.2.1; omega) (fun r hr => by have h1 := ((tabE2_ok GD.out.1).2.2 r hr).1; have h2 : r.2.2.length = ats.length := h1; have : ats.length ≤ 16 := hm16; omega))
    obtain ⟨t100, t101, t102⟩ := C3.out _ (Below.refl _ _)
    have D10 := hid (Below.refl w2.heap.size w2)
    by_cases hl20 : ids.length ≤ 20
    · have dl : decide ((ids.length : Int) > 20) = false := decide_eq_false (by omega)
      clear hb1 hb2 hw2 hTT hG TK q0 q1 q2 CKA KL1 KL2 hst hfu SUB KES hm16 hl20
      obtain ⟨il, hil⟩ : ∃ il : Nat, ids.length = il := ⟨_, rfl⟩
      rw [hil] at dl KP
      rw [hil]
      clear hil
      go_wp2_with fail
      rw [W2.out]
      go_wp2_with fail
      refine (AW.out _ D10.out).mono ?_
      rintro e w11 ⟨rfl, hb11⟩
      have D11 := hid (D10.out.trans (hb11.mono D10.out.size))
      obtain ⟨t110, t111, t112⟩ := C3.out _ D11.out
      clear hb11 t100 t101 t102
      go_wp2_with fail
      refine (FU.out _).mono ?_
      rintro e w' ⟨rfl, rfl⟩
      go_wp2_with fail
      rw [HST.out]
      refine (KP.out _ D11.out).mono ?_
      rintro e w12 ⟨av', rv', rs', rfl, hT', hc', hb12⟩
      have PG := hid (part_good GD.out hc')
      have PKE := hid (good_kE PG.out)
      have POK := hid (good_okT PG.out)
      have PKES := hid (kE_set PKE.out SB2.out)
      have HU := hid (part_uni GD.out hc' SB2.out)
      have HBB := hid (show (bestS (nm, ats, rs)).2 = 4 ∨ ∃ s s', bestS (nm, ats, rs) = (s, 0) ∧ bestS (nm, ats, rs') = (s', 0) ∧ pop s' ≤ pop s by
        have e1 := BS.out
        cases hk : keyN ats.length (pairsS rs) with
        | nil => refine .inl ?_; rw [e1]; show (match keyN ats.length (pairsS rs) with | [] => ((0#32 : S), (4 : Int)) | s :: _ => (s, 0)).2 = 4; rw [hk]
        | cons s l =>
          obtain ⟨s', l', h1, h2⟩ := part_best GD.out hc' (s := s) (l := l) hk
          refine .inr ⟨s, s', ?_, ?_, h2⟩
          · rw [e1]; show (match keyN ats.length (pairsS rs) with | [] => ((0#32 : S), (4 : Int)) | s :: _ => (s, 0)) = (s, 0); rw [hk]
          · unfold bestS; rw [if_neg (by rw [PKE.out]; simp)]; show (match keyN ats.length (pairsS rs') with | [] => ((0#32 : S), (4 : Int)) | s :: _ => (s, 0)) = (s', 0); rw [h1])
      obtain ⟨ao', acap', rfl, -, -⟩ := hT'.1.split
      obtain ⟨ro', rcap', rfl, -, -⟩ := RdR.split hT'.2
      simp only at hT'
      have D12 := hid (D11.out.trans (hb12.mono D11.out.size))
      have hbp := below_alloc w12 (.cells #[.string nm, .slice ao' ats.length acap', .slice ro' rs'.length rcap'] 28)
      obtain ⟨r0, r1, r2⟩ := C3.out _ (D12.out.trans (hbp.mono D12.out.size))
      have CP3 := hid (fun W h => cells3 (w := w12) (a := .string nm) (b := .slice ao' ats.length acap') (c := .slice ro' rs'.length rcap') (t := 28) W h)
      have T13 := hid (hT'.below hbp)
      obtain ⟨w13, hw13⟩ : ∃ w13 : World, w12.alloc (.cells #[.string nm, .slice ao' ats.length acap', .slice ro' rs'.length rcap'] 28) = w13 := ⟨_, rfl⟩
      rw [hw13] at hbp CP3 T13
      have W13 := hid hw13
      have D13 := hid (D12.out.trans (hbp.mono D12.out.size))
      have HT13 := hid (HT2.out.below D13.out)
      have UQ2 := hid (fun (W : World) (h : Below w13.heap.size w13 W) => kunique_any (nm, ats, rs') _ _ st W (T13.out.below h) (HT13.out.below h) (fun _ => POK.out))
      rw [show kuB (nm, ats, rs') st = uniB (pairsS rs') st from kE_unq PKE.out PKES.out, PKES.out] at UQ2
      have KB2 := hid (fun (W : World) (h : Below w13.heap.size w13 W) => kbest_any (nm, ats, rs') _ _ W (T13.out.below h))
      generalize bestS (nm, ats, rs) = bt at *
      generalize bestS (nm, ats, rs') = bt2 at *
      generalize uniB (pairsS (nm, ats, rs).2.2) st = ub at *
      generalize uniB (pairsS rs') st = vb at *
      have E13 := hid (Below.refl w13.heap.size w13)
      clear hb12 hT' hc' hbp t110 t111 t112 hw13
      go_wp2_with fail
      rw [W13.out]
      clear r0 r1 r2
      refine (UQ.out _ D13.out).mono ?_
      rintro e w14 ⟨rfl, hb14⟩
      have D14 := hid (D13.out.trans (hb14.mono D13.out.size))
      have E14 := hid (E13.out.trans (hb14.mono E13.out.size))
      obtain ⟨p0, p1, p2⟩ := CP3.out _ E14.out
      clear hb14
      go_wp2_with fail
      refine (UQ2.out _ E14.out).mono ?_
      rintro e w15 ⟨rfl, hb15⟩
      have D15 := hid (D14.out.trans (hb15.mono D14.out.size))
      have E15 := hid (E14.out.trans (hb15.mono E14.out.size))
      obtain ⟨t150, t151, t152⟩ := C3.out _ D15.out
      clear hb15 p0 p1 p2
      go_wp2_with fail
      refine (KB.out _ D15.out).mono ?_
      rintro e w16 ⟨rfl, hb16⟩
      have D16 := hid (D15.out.trans (hb16.mono D15.out.size))
      have E16 := hid (E15.out.trans (hb16.mono E15.out.size))
      obtain ⟨p0, p1, p2⟩ := CP3.out _ E16.out
      clear hb16 t150 t151 t152
      go_wp2_with fail
      refine (KB2.out _ E16.out).mono ?_
      rintro e w17 ⟨rfl, hb17⟩
      have BF := hid (B0.out.trans ((D2.out.trans ((D16.out.trans (hb17.mono D16.out.size)).mono D2.out.size)).mono B0.out.size))
      have bu : ub = false ∨ (ub = true ∧ vb = true) := by
        cases ub with
        | false => exact .inl rfl
        | true => exact .inr ⟨rfl, HU.out rfl⟩
      obtain ⟨b1, c1⟩ := bt
      obtain ⟨b2, c2⟩ := bt2
      have SZ1 := hid (fun W => size_any b1 W)
      have SZ2 := hid (fun W => size_any b2 W)
      unfold enc at SZ1 SZ2
      have HB3 := hid (show c1 = 4 ∨ (c1 = 0 ∧ c2 = 0 ∧ pop b2 ≤ pop b1) from by
        rcases HBB.out with h | ⟨s, s', h1, h2, h3⟩
        · exact .inl h
        · cases h1; cases h2; exact .inr ⟨rfl, rfl, h3⟩)
      clear hb17 p0 p1 p2 HBB HU KB KB2 UQ UQ2 BS
      rcases bu with rfl | ⟨rfl, rfl⟩ <;> rcases HB3.out with rfl | ⟨rfl, rfl, hp⟩
      case' inl.inr => have HP := hid hp; clear hp
      case' inr.inr => have HP := hid hp; clear hp
      case inl.inl => go_wp2_with fail; go_ret; exact ⟨rfl, BF.out⟩
      case inr.inl => go_wp2_with fail; go_ret; exact ⟨rfl, BF.out⟩
      all_goals
        go_wp2_with fail
        refine (SZ2.out _).mono ?_
        rintro e w18 ⟨rfl, hb18⟩
        have B18 := hid (BF.out.trans (hb18.mono BF.out.size))
        clear hb18
        go_wp2_with fail
        refine (SZ1.out _).mono ?_
        rintro e w19 ⟨rfl, hb19⟩
        have B19 := hid (B18.out.trans (hb19.mono B18.out.size))
        have dp : decide ((pop b2 : Int) ≤ (pop b1 : Int)) = true := decide_eq_true (by have := HP.out; omega)
        clear hb19
        generalize pop b2 = q2 at *
        generalize pop b1 = q1 at *
        go_wp2_with fail
        go_ret
        exact ⟨by first | rfl | (refine ret_bool ?_; simpa using dp), B19.out⟩
    · have dl : decide ((ids.length : Int) > 20) = true := decide_eq_true (by omega)
      clear hb1 hb2 hw2 hTT hG TK q0 q1 q2 CKA KL1 KL2 hst hfu SUB KES hm16 hl20
      obtain ⟨il, hil⟩ : ∃ il : Nat, ids.length = il := ⟨_, rfl⟩
      rw [hil] at dl
      rw [hil]
      clear hil
      go_wp2_with fail
      rw [W2.out]
      go_wp2_with fail
      refine (AW.out _ D10.out).mono ?_
      rintro e w11 ⟨rfl, hb11⟩
      have D11 := hid (D10.out.trans (hb11.mono D10.out.size))
      obtain ⟨t110, t111, t112⟩ := C3.out _ D11.out
      clear hb11 t100 t101 t102
      go_wp2_with fail
      refine (AW.out _ D11.out).mono ?_
      rintro e w12 ⟨rfl, hb12⟩
      have D12 := hid (D11.out.trans (hb12.mono D11.out.size))
      obtain ⟨t120, t121, t122⟩ := C3.out _ D12.out
      clear hb12 t110 t111 t112
      have BF := hid (B0.out.trans ((D2.out.trans (D12.out.mono D2.out.size)).mono B0.out.size))
      go_wp2_with fail
      go_ret
      exact ⟨rfl, BF.out⟩
  · replace TB := hid (fun (W : World) (h : RdRc W (.slice ro rr.length rcap) rr) => TB.out W h (by omega))
    clear TK
    go_enter Tryd.func4, Tryd.ntmps4
    go_wp2_with fail
    rw [W0.out]
    go_wp2_with fail
    refine (TB.out _ RR.out).mono ?_
    rintro e w1 ⟨rfl, hb1⟩
    have B1 := hid ((B0.out.trans (hb1.mono B0.out.size)).alloc (Nat.le_trans B0.out.size hb1.size) (.cells #[.string (ByteArray.mk #[]), .slice none 0 0, .slice none 0 0] 28))
    have HT1 := hid ((HT0.out.below hb1).below (below_alloc w1 (.cells #[.string (ByteArray.mk #[]), .slice none 0 0, .slice none 0 0] 28)))
    clear hb1
    go_wp2_with fail
    refine (awake29_any _ HT1.out).mono ?_
    rintro e w2 ⟨rfl, hb2⟩
    have B2 := hid (B1.out.trans (hb2.mono B1.out.size))
    replace HT1 := hid (HT1.out.below hb2)
    clear hb2
    go_wp2_with fail
    refine (awake29_any _ HT1.out).mono ?_
    rintro e w3 ⟨rfl, hb3⟩
    have B3 := hid (B2.out.trans (hb3.mono B2.out.size))
    clear hb3
    go_wp2_with fail
    go_ret
    exact ⟨rfl, B3.out⟩

end Go.Proofs.YtkbegpnchamgkaaDoor
