/- The law FdmineFollows. -/
import Derived.Test.YthoidncbbcpnnaaGreatDoorFdmY
import Derived.Test.YthoidncbbcpnnaaGreatDoorKmG
import Derived.Test.YthoidncbbcpnnaaGreatDoorAfter
namespace Go.Proofs.YthoidncbbcpnnaaGreatDoor
open Go.RowKit
set_option linter.unusedVariables false

theorem good_fE {t : T3} (h : GoodT t) : fE t = 0 := by
  have h1 := tabE2_tab h.1
  unfold fE
  rw [if_neg (by simpa using h1), if_neg (by have := h.2.1; have := h.2.2.1; omega)]

attribute [local irreducible] Go.wpQuiet
set_option maxHeartbeats 6400000 in
set_option maxRecDepth 100000 in
theorem fFollowsL (a g : U8) (rr : List RcR) (rv : Value) (l r : U8) (w : World) (hT : Tab w) (hr : RdRc w rv rr) :
    Calls Tryz.prog 8 #[.agg #[.int .u8 (a.toNat : Int), .int .u8 (g.toNat : Int), rv], .int .u8 (l.toNat : Int), .int .u8 (r.toNat : Int)] w fun e w' => e = .returned (.bool true) ∧ Below w.heap.size w w' := by
  have TB := hid (fun (W : World) (h : RdRc W rv rr) (hm : 8 < rr.length) => table_big a g rr rv 8 W h hm)
  have TK := hid (fun (W : World) (h : RdRc W rv rr) (hm : rr.length ≤ 8) => table_ok a g rr rv 8 W h hm (Nat.le_refl _))
  generalize (a.toNat : Int) = ai at *
  generalize (g.toNat : Int) = gi at *
  have hb0 := below_alloc w (.cells #[.int .u8 ai, .int .u8 gi, rv] 46)
  have C0 := hid (fun (W : World) h => (⟨(cells3 (w := w) (a := .int .u8 ai) (b := .int .u8 gi) (c := rv) (t := 46) W h).1, (cells3 (w := w) (a := .int .u8 ai) (b := .int .u8 gi) (c := rv) (t := 46) W h).2.1⟩ : W.cell? ⟨w.heap.size, 0, none⟩ = some (.int .u8 ai) ∧ W.cell? ⟨w.heap.size, 1, none⟩ = some (.int .u8 gi)))
  obtain ⟨q00, q01, q02⟩ := cells3 (w := w) (a := .int .u8 ai) (b := .int .u8 gi) (c := rv) (t := 46) _ (Below.refl _ _)
  have RR := hid (hr.below hb0)
  obtain ⟨w0, hw0⟩ : ∃ w0 : World, w.alloc (.cells #[.int .u8 ai, .int .u8 gi, rv] 46) = w0 := ⟨_, rfl⟩
  rw [hw0] at hb0 RR q00 q01 q02 C0
  have B0 := hid hb0
  have W0 := hid hw0
  have HT0 := hid (hT.below hb0)
  obtain ⟨ro, rcap, hv, hrl, hrc⟩ := RR.out.split
  subst hv
  have l0 : (l.toNat : Int) < 256 := by have := l.isLt; omega
  have r0 : (r.toNat : Int) < 256 := by have := r.isLt; omega
  have q10 := q00
  have q11 := q01
  clear hb0 hw0 hrc hr hT
  by_cases hm : rr.length ≤ 8
  · replace TK := hid (fun (W : World) (h : RdRc W (.slice ro rr.length rcap) rr) => TK.out W h hm)
    clear TB
    go_enter Tryz.func8, Tryz.ntmps8
    go_wp2_with fail
    rw [W0.out]
    go_wp2_with fail
    refine (TK.out _ RR.out).mono ?_
    rintro e w1 ⟨av, tv, t, rfl, hTT, hG, -, -, -, hb1⟩
    have GT := hid hG
    have OKT := hid (good_okT hG)
    have FE := hid (good_fE hG)
    obtain ⟨ao, acap, hva, -⟩ := hTT.1.split
    obtain ⟨to, tcap, hvt, -⟩ := RdR.split hTT.2
    have hb2 := below_alloc w1 (.cells #[.string t.1, av, tv] 25)
    have C3 := hid (fun W h => cells3 (w := w1) (a := .string t.1) (b := av) (c := tv) (t := 25) W h)
    have T2 := hid (hTT.below hb2)
    obtain ⟨w2, hw2⟩ : ∃ w2 : World, w1.alloc (.cells #[.string t.1, av, tv] 25) = w2 := ⟨_, rfl⟩
    rw [hw2] at hb2 C3 T2
    have W2 := hid hw2
    have D2 := hid (hb1.trans (hb2.mono hb1.size))
    have HT2 := hid (HT0.out.below D2.out)
    have CC := hid (fun (W : World) (h : Below w2.heap.size w2 W) => C0.out W (D2.out.trans (h.mono D2.out.size)))
    have AW := hid (fun (W : World) (h : Below w2.heap.size w2 W) => awake28_any W (HT2.out.below h))
    have FA := hid (fun (W : World) (h : Below w2.heap.size w2 W) => fall_any t av tv W (T2.out.below h) (HT2.out.below h) (fun _ => OKT.out))
    rw [FE.out] at FA
    have h32 : t.2.1.length ≤ 16 := by have := GT.out.2.1; omega
    have FU := hid (fun (W : World) => full_any (t.2.1.length : Int) W)
    rw [show min ((t.2.1.length : Int)).toNat 32 = t.2.1.length by omega] at FU
    simp only [enc_eq] at FU
    have LF := hid (show sub (wd l &&& fullN t.2.1.length) (fullN t.2.1.length) from fun i hi hb => by rw [BitVec.getLsbD_and, Bool.and_eq_true] at hb; exact hb.2)
    have RF := hid (show sub (wd r &&& fullN t.2.1.length) (fullN t.2.1.length) from fun i hi hb => by rw [BitVec.getLsbD_and, Bool.and_eq_true] at hb; exact hb.2)
    have IM := hid (fun (v : Value) (W : World) (hv : RdF W v (allR t)) => refImplies_any (allR t) (wd l &&& fullN t.2.1.length, wd r &&& fullN t.2.1.length) v W hv)
    have SA := hid (fun (W : World) (h : Below w2.heap.size w2 W) => rsat8_any t (wd l &&& fullN t.2.1.length, wd r &&& fullN t.2.1.length) av tv W (T2.out.below h) GT.out.1 LF.out RF.out)
    rw [← all_follows FE.out LF.out RF.out] at SA
    simp only [enc_eq] at IM
    obtain ⟨fu, hfu⟩ : ∃ fu, fullN t.2.1.length = fu := ⟨_, rfl⟩
    rw [hfu] at FU IM SA
    clear hfu h32 LF RF
    generalize impS (allR t) (wd l &&& fu, wd r &&& fu) = ck at *
    have hck : (ck == ck) = true := by simp
    generalize allR t = ar at *
    clear GT OKT FE
    obtain ⟨nm, ats, rs⟩ := t
    simp only at hva hvt
    subst hva hvt
    obtain ⟨t100, t101, t102⟩ := C3.out _ (Below.refl _ _)
    obtain ⟨y100, y101⟩ := CC.out _ (Below.refl _ _)
    have D10 := hid (Below.refl w2.heap.size w2)
    clear hb1 hb2 hw2 hTT hG TK q00 q01 q02 q10 q11
    go_wp2_with fail
    rw [W2.out]
    go_wp2_with fail
    refine (AW.out _ D10.out).mono ?_
    rintro e w11 ⟨rfl, hb11⟩
    have D11 := hid (D10.out.trans (hb11.mono D10.out.size))
    obtain ⟨t110, t111, t112⟩ := C3.out _ D11.out
    obtain ⟨y110, y111⟩ := CC.out _ D11.out
    clear hb11 t100 t101 t102 y100 y101
    go_wp2_with fail
    refine (FU.out _).mono ?_
    rintro e w' ⟨rfl, rfl⟩
    have hba := below_alloc w11 (.cells #[.int .u32 (iv (BitVec.setWidth 32 l &&& fu)), .int .u32 (iv (BitVec.setWidth 32 r &&& fu))] 56)
    have hb12 := D11.out.trans (hba.mono D11.out.size)
    have hcf := fun (W : World) h => cells2 (w := w11) (a := .int .u32 (iv (BitVec.setWidth 32 l &&& fu))) (b := .int .u32 (iv (BitVec.setWidth 32 r &&& fu))) (t := 56) W h
    obtain ⟨t120, t121, t122⟩ := C3.out _ hb12
    obtain ⟨w12, hw12⟩ : ∃ w12 : World, w11.alloc (.cells #[.int .u32 (iv (BitVec.setWidth 32 l &&& fu)), .int .u32 (iv (BitVec.setWidth 32 r &&& fu))] 56) = w12 := ⟨_, rfl⟩
    have W12 := hid hw12
    have D12 := hid (show Below w2.heap.size w2 w12 by rw [← hw12]; exact hb12)
    have CF := hid (show ∀ W : World, Below w12.heap.size w12 W → W.cell? ⟨w11.heap.size, 0, none⟩ = some (.int .u32 (iv (BitVec.setWidth 32 l &&& fu))) ∧ W.cell? ⟨w11.heap.size, 1, none⟩ = some (.int .u32 (iv (BitVec.setWidth 32 r &&& fu))) by rw [← hw12]; exact hcf)
    clear hba hb12 hcf hw12 t110 t111 t112 y110 y111
    go_wp2_with fail
    rw [W12.out]
    clear t120 t121 t122
    refine (FA.out _ D12.out).mono ?_
    rintro e w13 ⟨v13, rfl, hr13, hb13⟩
    have D13 := hid (D12.out.trans (hb13.mono D12.out.size))
    have R13 := hid hr13
    have sz13 := D13.out.size
    obtain ⟨t130, t131, t132⟩ := C3.out _ D13.out
    obtain ⟨f130, f131⟩ := CF.out _ hb13
    have m0 := fun z : After w13 => After.cell t130 z
    have m1 := fun z : After w13 => After.cell t131 z
    have m2 := fun z : After w13 => After.cell t132 z
    have m3 := fun z : After w13 => After.cell f130 z
    have m4 := fun z : After w13 => After.cell f131 z
    have I1 := hid (fun (z : After w13) => Calls.after z (IM.out v13 z.world (RdC.below R13.out z.below)))
    have I2 := hid (fun (z : After w13) => Calls.after z (SA.out z.world (D13.out.trans (z.below.mono sz13))))
    clear hr13 hb13
    go_wp2_with fail
    refine wp_region_after (by kernel_rfl) (by kernel_rfl) ?_
    repeat (any_goals (quiet_step (first | exact I1.out _ | exact I2.out _)))
    refine wpQuiet_nil ?_
    intro wz hbz
    have BF := hid (B0.out.trans ((D2.out.trans ((D13.out.trans (hbz.mono sz13)).mono D2.out.size)).mono B0.out.size))
    clear hbz m0 m1 m2 m3 m4 I1 I2 t130 t131 t132 f130 f131
    go_wp2_with fail
    go_ret
    exact ⟨by first | rfl | simp, BF.out⟩
  · replace TB := hid (fun (W : World) (h : RdRc W (.slice ro rr.length rcap) rr) => TB.out W h (by omega))
    clear TK
    go_enter Tryz.func8, Tryz.ntmps8
    go_wp2_with fail
    rw [W0.out]
    go_wp2_with fail
    refine (TB.out _ RR.out).mono ?_
    rintro e w1 ⟨rfl, hb1⟩
    have B1 := hid ((B0.out.trans (hb1.mono B0.out.size)).alloc (Nat.le_trans B0.out.size hb1.size) (.cells #[.string (ByteArray.mk #[]), .slice none 0 0, .slice none 0 0] 25))
    have HT1 := hid ((HT0.out.below hb1).below (below_alloc w1 (.cells #[.string (ByteArray.mk #[]), .slice none 0 0, .slice none 0 0] 25)))
    clear hb1
    go_wp2_with fail
    refine (awake28_any _ HT1.out).mono ?_
    rintro e w2 ⟨rfl, hb2⟩
    have B2 := hid (B1.out.trans (hb2.mono B1.out.size))
    replace HT1 := hid (HT1.out.below hb2)
    clear hb2
    go_wp2_with fail
    refine (awake28_any _ HT1.out).mono ?_
    rintro e w3 ⟨rfl, hb3⟩
    have B3 := hid (B2.out.trans (hb3.mono B2.out.size))
    clear hb3
    go_wp2_with fail
    go_ret
    exact ⟨rfl, B3.out⟩

end Go.Proofs.YthoidncbbcpnnaaGreatDoor
