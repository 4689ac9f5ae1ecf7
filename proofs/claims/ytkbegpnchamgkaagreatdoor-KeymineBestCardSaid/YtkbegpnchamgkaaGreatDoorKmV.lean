/- The law KeymineBest. -/
import Derived.Test.YtkbegpnchamgkaaGreatDoorKmU
namespace Go.Proofs.YtkbegpnchamgkaaGreatDoor
open Go.RowKit
set_option linter.unusedVariables false

set_option maxHeartbeats 3200000 in
set_option maxRecDepth 100000 in
theorem kmBestL (a g : U8) (rr : List RcR) (rv : Value) (w : World) (hT : Tab w) (hr : RdRc w rv rr) :
    Calls Tryz.prog 6 #[.agg #[.int .u8 (a.toNat : Int), .int .u8 (g.toNat : Int), rv]] w fun e w' => e = .returned (.bool true) ∧ Below w.heap.size w w' := by
  have TB := hid (fun (W : World) (h : RdRc W rv rr) (hm : 8 < rr.length) => table_big a g rr rv 8 W h hm)
  have TK := hid (fun (W : World) (h : RdRc W rv rr) (hm : rr.length ≤ 8) => table_ok a g rr rv 8 W h hm (Nat.le_refl _))
  generalize (a.toNat : Int) = ai at *
  generalize (g.toNat : Int) = gi at *
  have hb0 := below_alloc w (.cells #[.int .u8 ai, .int .u8 gi, rv] 24)
  obtain ⟨q0, q1, q2⟩ := cells3 (w := w) (a := .int .u8 ai) (b := .int .u8 gi) (c := rv) (t := 24) _ (Below.refl _ _)
  have RR := hid (hr.below hb0)
  obtain ⟨w0, hw0⟩ : ∃ w0 : World, w.alloc (.cells #[.int .u8 ai, .int .u8 gi, rv] 24) = w0 := ⟨_, rfl⟩
  rw [hw0] at hb0 RR q0 q1 q2
  have B0 := hid hb0
  have W0 := hid hw0
  have HT0 := hid (hT.below hb0)
  obtain ⟨ro, rcap, hv, hrl, hrc⟩ := RR.out.split
  subst hv
  clear hb0 hw0 hrc hr hT
  by_cases hm : rr.length ≤ 8
  · replace TK := hid (fun (W : World) (h : RdRc W (.slice ro rr.length rcap) rr) => TK.out W h hm)
    clear TB
    go_enter Tryz.func6, Tryz.ntmps6
    go_wp2_with fail
    rw [W0.out]
    go_wp2_with fail
    refine (TK.out _ RR.out).mono ?_
    rintro e w1 ⟨av, tv, t, rfl, hTT, hG, -, -, -, hb1⟩
    have KE := hid (good_kE hG)
    have OKT := hid (good_okT hG)
    have CKA := hid (kchk_all KE.out (good_wits hG))
    have HK2 := hid hG.1
    have HKB := hid (keyN_bound (show t.2.1.length ≤ 16 by have := hG.2.1; omega) (pairsS t.2.2))
    have HWB := hid (good_wits hG)
    have KL1 := hid (show kallL t = keyN t.2.1.length (pairsS t.2.2) from if_pos KE.out)
    have KL2 := hid (show kmaxL t = witsL t.2.2 from if_pos KE.out)
    obtain ⟨ao, acap, hva, -⟩ := hTT.1.split
    obtain ⟨to, tcap, hvt, -⟩ := RdR.split hTT.2
    have hb2 := below_alloc w1 (.cells #[.string t.1, av, tv] 28)
    have C3 := hid (fun W h => cells3 (w := w1) (a := .string t.1) (b := av) (c := tv) (t := 28) W h)
    have T2 := hid (hTT.below hb2)
    obtain ⟨w2, hw2⟩ : ∃ w2 : World, w1.alloc (.cells #[.string t.1, av, tv] 28) = w2 := ⟨_, rfl⟩
    rw [hw2] at hb2 C3 T2
    have W2 := hid hw2
    have D2 := hid (hb1.trans (hb2.mono hb1.size))
    have HT2 := hid (HT0.out.below D2.out)
    have AW := hid (fun (W : World) (h : Below w2.heap.size w2 W) => awake29_any W (HT2.out.below h))
    have KB := hid (fun (W : World) (h : Below w2.heap.size w2 W) => kbest_any t av tv W (T2.out.below h))
    have RA := hid (fun (W : World) (h : Below w2.heap.size w2 W) => rkall_any t av tv W (T2.out.below h) HK2.out)
    have BS := hid (show bestS t = match keyN t.2.1.length (pairsS t.2.2) with
      | [] => (0#32, 4)
      | s :: _ => (s, 0) from by unfold bestS; rw [if_neg (by rw [KE.out]; simp)]; rfl)
    generalize keyN t.2.1.length (pairsS t.2.2) = ky at *
    generalize bestS t = bs at *
    obtain ⟨nm, ats, rs⟩ := t
    simp only at hva hvt
    subst hva hvt
    obtain ⟨t100, t101, t102⟩ := C3.out _ (Below.refl _ _)
    have D10 := hid (Below.refl w2.heap.size w2)
    clear hb1 hb2 hw2 hTT hG TK q0 q1 q2 CKA KL1 KL2
    cases ky with
    | nil =>
      replace BS : Hid (bs = (0#32, 4)) := BS
      rw [BS.out] at KB
      go_wp2_with fail
      rw [W2.out]
      go_wp2_with fail
      refine (AW.out _ D10.out).mono ?_
      rintro e w11 ⟨rfl, hb11⟩
      have D11 := hid (D10.out.trans (hb11.mono D10.out.size))
      obtain ⟨t110, t111, t112⟩ := C3.out _ D11.out
      clear hb11 t100 t101 t102
      go_wp2_with fail
      refine (KB.out _ D11.out).mono ?_
      rintro e w12 ⟨rfl, hb12⟩
      have D12 := hid (D11.out.trans (hb12.mono D11.out.size))
      obtain ⟨t120, t121, t122⟩ := C3.out _ D12.out
      clear hb12 t110 t111 t112
      go_wp2_with fail
      refine (RA.out _ D12.out).mono ?_
      rintro e w13 ⟨v13, rfl, ho13, -, hb13⟩
      have D13 := hid (D12.out.trans (hb13.mono D12.out.size))
      have O13 := hid ho13
      clear ho13
      obtain ⟨t130, t131, t132⟩ := C3.out _ D13.out
      clear hb13 t120 t121 t122
      obtain ⟨ko, kcap, rfl, -⟩ := (RdE.of_owns O13.out (by simp)).split
      have BF := hid (B0.out.trans ((D2.out.trans (D13.out.mono D2.out.size)).mono B0.out.size))
      go_wp2_with fail
      go_ret
      exact ⟨rfl, BF.out⟩
    | cons s ss =>
      replace BS : Hid (bs = (s, 0)) := BS
      rw [BS.out] at KB
      go_wp2_with fail
      rw [W2.out]
      go_wp2_with fail
      refine (AW.out _ D10.out).mono ?_
      rintro e w11 ⟨rfl, hb11⟩
      have D11 := hid (D10.out.trans (hb11.mono D10.out.size))
      obtain ⟨t110, t111, t112⟩ := C3.out _ D11.out
      clear hb11 t100 t101 t102
      go_wp2_with fail
      refine (KB.out _ D11.out).mono ?_
      rintro e w12 ⟨rfl, hb12⟩
      have D12 := hid (D11.out.trans (hb12.mono D11.out.size))
      obtain ⟨t120, t121, t122⟩ := C3.out _ D12.out
      clear hb12 t110 t111 t112
      go_wp2_with fail
      refine (RA.out _ D12.out).mono ?_
      rintro e w13 ⟨v13, rfl, ho13, -, hb13⟩
      have D13 := hid (D12.out.trans (hb13.mono D12.out.size))
      have O13 := hid ho13
      clear ho13
      obtain ⟨t130, t131, t132⟩ := C3.out _ D13.out
      clear hb13 t120 t121 t122
      obtain ⟨ko, kcap, rfl, -, hc⟩ := (RdE.of_owns O13.out (by have := HKB.out; omega)).split
      obtain ⟨b, off, rfl, hd⟩ := hc 0 s rfl
      have e0 : w13.cell? ⟨b, off, none⟩ = some (.int .u32 (iv s)) := hd w13 (Below.refl _ _)
      have hz : (((s :: ss).length : Int) == 0) = false := beq_eq_false_iff_ne.2 (by rw [List.length_cons]; omega)
      have hp : (0 : Int) < ((s :: ss).length : Int) := by rw [List.length_cons]; omega
      obtain ⟨m, hm2⟩ : ∃ m, (s :: ss).length = m := ⟨_, rfl⟩
      rw [hm2] at hz hp
      rw [hm2]
      have BF := hid (B0.out.trans ((D2.out.trans (D13.out.mono D2.out.size)).mono B0.out.size))
      clear hc hd hm2
      go_wp2_with fail
      go_ret
      exact ⟨by first | rfl | (refine ret_bool ?_; simp), BF.out⟩
  · replace TB := hid (fun (W : World) (h : RdRc W (.slice ro rr.length rcap) rr) => TB.out W h (by omega))
    clear TK
    go_enter Tryz.func6, Tryz.ntmps6
    go_wp2_with fail
    rw [W0.out]
    go_wp2_with fail
    refine (TB.out _ RR.out).mono ?_
    rintro e w1 ⟨rfl, hb1⟩
    have B1 := hid ((B0.out.trans (hb1.mono B0.out.size)).alloc (Nat.le_trans B0.out.size hb1.size) (.cells #[.string (ByteArray.mk #[]), .slice none 0 0, .slice none 0 0] 28))
    have HT1 := hid ((HT0.out.below hb1).below (below_alloc w1 (.cells #[.string (ByteArray.mk #[]), .slice none 0 0, .slice none 0 0] 28)))
    clear hb1
    go_wp2_with fail
    refine (awake29_any _ HT1.out).mono ?_
    rintro e w2 ⟨rfl, hb2⟩
    have B2 := hid (B1.out.trans (hb2.mono B1.out.size))
    replace HT1 := hid (HT1.out.below hb2)
    clear hb2
    go_wp2_with fail
    refine (awake29_any _ HT1.out).mono ?_
    rintro e w3 ⟨rfl, hb3⟩
    have B3 := hid (B2.out.trans (hb3.mono B2.out.size))
    clear hb3
    go_wp2_with fail
    go_ret
    exact ⟨rfl, B3.out⟩

end Go.Proofs.YtkbegpnchamgkaaGreatDoor
