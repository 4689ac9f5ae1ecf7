/- The law KeymineCovers. -/
import Derived.Test.YtkbegpnchamgkaaDoorKmG
import Derived.Test.YtkbegpnchamgkaaDoorGSort
namespace Go.Proofs.YtkbegpnchamgkaaDoor
open Go.RowKit
set_option linter.unusedVariables false

@[go_sem] theorem wrap_u8c (b : U8) : IntKind.u32.wrap (b.toNat : Int) = (b.toNat : Int) := by
  rw [IntKind.wrap_u32]; have := b.isLt; omega

/-! Plain. -/
theorem uni_keys {m : Nat} {ps : List S} {s : S} (hs : sub s (fullN m)) : (keyN m ps).any (fun k => decide (sub k s)) = uniB ps s := by
  rw [Bool.eq_iff_iff, List.any_eq_true, uniB_iff]
  constructor
  · rintro ⟨k, hk, h⟩
    rw [decide_eq_true_iff] at h
    have h2 := (keyN_iff.1 (((keyN_ord m ps).2 k).1 hk)).2.1
    exact fun p hp => not_sub_up h (h2 p hp)
  · intro h
    obtain ⟨k, hk, hks⟩ := keyN_in hs h
    exact ⟨k, hk, by rw [decide_eq_true_iff]; exact hks⟩
theorem uni_wits {rs : List Row3} {s : S} : (witsL rs).any (fun x => decide (sub s x.1)) = !uniB (pairsS rs) s := by
  have e : (witsL rs).any (fun x => decide (sub s x.1)) = (keepS upR (pairsS rs)).any (fun p => decide (sub s p)) := by
    rw [← witsL_sets, List.any_map]; rfl
  rw [e]
  cases hu : uniB (pairsS rs) s with
  | true =>
    have h := maxs_all.2 (uniB_iff.1 hu)
    rw [Bool.not_true, List.any_eq_false]
    intro p hp
    rw [decide_eq_true_iff]
    exact h p hp
  | false =>
    rw [Bool.not_false, List.any_eq_true]
    apply Classical.byContradiction
    intro hno
    have : uniB (pairsS rs) s = true := uniB_iff.2 (maxs_all.1 fun p hp h => hno ⟨p, hp, by rw [decide_eq_true_iff]; exact h⟩)
    rw [this] at hu; cases hu

theorem cov1_any (st : S) (b : Nat) (x : S) (w : World) (hc : w.cell? ⟨b, 0, none⟩ = some (enc st)) :
    Calls Tryd.prog 13 (#[enc x] ++ #[.pointer (some ⟨b, 0, none⟩)]) w fun e w' => e = .returned (.bool (decide (sub x st))) ∧ w = w' := by
  show Calls Tryd.prog 13 #[enc x, .pointer (some ⟨b, 0, none⟩)] w _
  have SB := hid (sub_any x st w)
  unfold enc at hc SB ⊢
  go_enter Tryd.func13, Tryd.ntmps13
  go_wp2_with fail
  refine SB.out.mono ?_
  rintro e w' ⟨rfl, rfl⟩
  go_wp2_with fail
  go_ret
  exact ⟨rfl, rfl⟩
theorem cov2_any (st : S) (b : Nat) (x : W3) (w : World) (hc : w.cell? ⟨b, 0, none⟩ = some (enc st)) :
    Calls Tryd.prog 16 (#[.agg #[.int .u32 (iv x.1), .int .i64 x.2.1, .int .i64 x.2.2]] ++ #[.pointer (some ⟨b, 0, none⟩)]) w fun e w' => e = .returned (.bool (decide (sub st x.1))) ∧ Below w.heap.size w w' := by
  show Calls Tryd.prog 16 #[.agg #[.int .u32 (iv x.1), .int .i64 x.2.1, .int .i64 x.2.2], .pointer (some ⟨b, 0, none⟩)] w _
  have hb := below_alloc w (.cells #[.int .u32 (iv x.1), .int .i64 x.2.1, .int .i64 x.2.2] 49)
  obtain ⟨c0, c1, c2⟩ := cells3 (w := w) (a := .int .u32 (iv x.1)) (b := .int .i64 x.2.1) (c := .int .i64 x.2.2) (t := 49) _ (Below.refl _ _)
  have hc' := (hb.cell (p := ⟨b, 0, none⟩) (World.block_lt_of_cell? _ _ hc)).trans hc
  have SB := hid (sub_any st x.1 (w.alloc (.cells #[.int .u32 (iv x.1), .int .i64 x.2.1, .int .i64 x.2.2] 49)))
  have HB := hid hb
  unfold enc at hc' SB
  clear hc hb
  go_enter Tryd.func16, Tryd.ntmps16
  go_wp2_with fail
  refine SB.out.mono ?_
  rintro e w' ⟨rfl, rfl⟩
  go_wp2_with fail
  go_ret
  exact ⟨rfl, HB.out⟩
def WPost (p : W3 → Bool) (xs : List W3) (w : World) (e : Ending) (w' : World) : Prop :=
  Below w.heap.size w w' ∧ ((e = .returned (.int .i64 (-1)) ∧ xs.any p = false) ∨ ∃ k : Nat, e = .returned (.int .i64 (k : Int)) ∧ xs.any p = true)
theorem indexW_any (st : S) (b : Nat) (xs : List W3) (v : Value) (w : World) (hv : RdW w v xs) (hc : w.cell? ⟨b, 0, none⟩ = some (enc st)) :
    Calls Tryd.prog 33 #[v, .func (.func 16) #[] #[.pointer (some ⟨b, 0, none⟩)]] w (WPost (fun x => decide (sub st x.1)) xs w) := by
  obtain ⟨ao, cap, rfl, hl, hd⟩ := RdW.split hv
  have HD := hid hd
  have hbl := World.block_lt_of_cell? _ _ hc
  have F2 := hid (fun (x : W3) (W : World) (h : Below w.heap.size w W) => cov2_any st b x W ((h.cell (p := ⟨b, 0, none⟩) hbl).trans hc))
  have eg := enters _ _ _ Tryd.func16 (by kernel_rfl) rfl
  clear hd hv hc hbl
  go_enter Tryd.func33, Tryd.ntmps33
  go_wp2_with fail
  go_loopw [8] (fun i wr => ∃ k : Nat, k ≤ xs.length ∧ i = .int .i64 k ∧ Hid ((xs.take k).any (fun x => decide (sub st x.1)) = false) ∧ Below w.heap.size w wr) (fun i _ => xs.length - (intOf i).toNat)
  case atStart => exact ⟨0, Nat.zero_le _, rfl, hid rfl, Below.refl _ _⟩
  case round =>
    obtain ⟨k, hk, rfl, H, hnx⟩ := hrel
    have hsz := hnx.size
    by_cases hlt : k < xs.length
    · obtain ⟨x, hx⟩ := get_some hlt
      obtain ⟨b', off, rfl, h1⟩ := HD.out k x hx
      obtain ⟨e0, e1, e2⟩ := h1 wr hnx
      have C1 := hid (F2.out x wr hnx)
      have NX := hid hnx
      have TN := hid (take_next hx)
      have MX := hid (List.mem_of_getElem? hx)
      clear h1 hx hnx
      cases hq : decide (sub st x.1) with
      | true =>
        rw [hq] at C1
        have AN := hid (show xs.any (fun x => decide (sub st x.1)) = true from List.any_eq_true.2 ⟨x, MX.out, hq⟩)
        clear hq
        go_wp2_with fail
        refine C1.out.mono ?_
        rintro e w2 ⟨rfl, hb2⟩
        have B2 := hid (NX.out.trans (hb2.mono hsz))
        clear hb2
        go_wp2_with fail
        go_ret
        exact ⟨B2.out, .inr ⟨k, rfl, AN.out⟩⟩
      | false =>
        rw [hq] at C1
        have AN := hid (show (xs.take (k + 1)).any (fun x => decide (sub st x.1)) = false by rw [TN.out, List.any_append, H.out]; simp [hq])
        clear hq
        go_wp2_with fail
        refine C1.out.mono ?_
        rintro e w2 ⟨rfl, hb2⟩
        have B2 := hid (NX.out.trans (hb2.mono hsz))
        clear hb2
        go_wp2_with fail
        go_roundw
        case rel => exact ⟨k + 1, by omega, by go_num, AN, B2.out⟩
        case measure => simp [intOf]; omega
    · have AN := hid (show xs.any (fun x => decide (sub st x.1)) = false by have h := H.out; rwa [List.take_of_length_le (by omega)] at h)
      have NX := hid hnx
      clear hnx
      go_wp2_with fail
      go_ret
      exact ⟨NX.out, .inl ⟨rfl, AN.out⟩⟩
theorem containsW_any (st : S) (b : Nat) (xs : List W3) (v : Value) (w : World) (hv : RdW w v xs) (hc : w.cell? ⟨b, 0, none⟩ = some (enc st)) :
    Calls Tryd.prog 15 #[v, .func (.func 16) #[] #[.pointer (some ⟨b, 0, none⟩)]] w fun e w' => e = .returned (.bool (xs.any fun x => decide (sub st x.1))) ∧ Below w.heap.size w w' := by
  have IX := hid (indexW_any st b xs v w hv hc)
  obtain ⟨ao, cap, rfl, -⟩ := RdW.split hv
  obtain ⟨R, hR⟩ : ∃ R, (xs.any fun x => decide (sub st x.1)) = R := ⟨_, rfl⟩
  rw [hR]
  have HR := hid hR
  clear hv hc hR
  go_enter Tryd.func15, Tryd.ntmps15
  go_wp2_with fail
  refine IX.out.mono ?_
  rintro e w2 ⟨hb2, ⟨rfl, ha⟩ | ⟨k, rfl, ha⟩⟩
  · have B2 := hid hb2
    have RF := hid (show R = false by rw [← HR.out]; exact ha)
    clear hb2 ha
    go_wp2_with fail
    go_ret
    exact ⟨by rw [RF.out]; rfl, B2.out⟩
  · have B2 := hid hb2
    have RF := hid (show R = true by rw [← HR.out]; exact ha)
    have k0 : (0 : Int) ≤ (k : Int) := by omega
    have k1 : decide ((k : Int) ≥ 0) = true := by simp
    clear hb2 ha
    go_wp2_with fail
    go_ret
    exact ⟨by rw [RF.out]; first | rfl | simp, B2.out⟩

set_option maxHeartbeats 3200000 in
set_option maxRecDepth 100000 in
theorem kmCoversL (a g : U8) (rr : List RcR) (rv : Value) (u8 : U8) (w : World) (hT : Tab w) (hr : RdRc w rv rr) :
    Calls Tryd.prog 3 #[.agg #[.int .u8 (a.toNat : Int), .int .u8 (g.toNat : Int), rv], .int .u8 (u8.toNat : Int)] w fun e w' => e = .returned (.bool true) ∧ Below w.heap.size w w' := by
  have TB := hid (fun (W : World) (h : RdRc W rv rr) (hm : 8 < rr.length) => table_big a g rr rv 8 W h hm)
  have TK := hid (fun (W : World) (h : RdRc W rv rr) (hm : rr.length ≤ 8) => table_ok a g rr rv 8 W h hm (Nat.le_refl _))
  generalize (a.toNat : Int) = ai at *
  generalize (g.toNat : Int) = gi at *
  have hb0 := below_alloc w (.cells #[.int .u8 ai, .int .u8 gi, rv] 24)
  obtain ⟨q0, q1, q2⟩ := cells3 (w := w) (a := .int .u8 ai) (b := .int .u8 gi) (c := rv) (t := 24) _ (Below.refl _ _)
  have RR := hid (hr.below hb0)
  obtain ⟨w0, hw0⟩ : ∃ w0 : World, w.alloc (.cells #[.int .u8 ai, .int .u8 gi, rv] 24) = w0 := ⟨_, rfl⟩
  rw [hw0] at hb0 RR q0 q1 q2
  have B0 := hid hb0
  have W0 := hid hw0
  have HT0 := hid (hT.below hb0)
  obtain ⟨ro, rcap, hv, hrl, hrc⟩ := RR.out.split
  subst hv
  clear hb0 hw0 hrc hr hT
  by_cases hm : rr.length ≤ 8
  · replace TK := hid (fun (W : World) (h : RdRc W (.slice ro rr.length rcap) rr) => TK.out W h hm)
    clear TB
    go_enter Tryd.func3, Tryd.ntmps3
    go_wp2_with fail
    rw [W0.out]
    go_wp2_with fail
    refine (TK.out _ RR.out).mono ?_
    rintro e w1 ⟨av, tv, t, rfl, hTT, hG, -, -, -, hb1⟩
    have KE := hid (good_kE hG)
    have OKT := hid (good_okT hG)
    have CKA := hid (kchk_all KE.out (good_wits hG))
    have HK2 := hid hG.1
    have HKB := hid (keyN_bound (show t.2.1.length ≤ 16 by have := hG.2.1; omega) (pairsS t.2.2))
    have HWB := hid (good_wits hG)
    have KL1 := hid (show kallL t = keyN t.2.1.length (pairsS t.2.2) from if_pos KE.out)
    have KL2 := hid (show kmaxL t = witsL t.2.2 from if_pos KE.out)
    obtain ⟨ao, acap, hva, -⟩ := hTT.1.split
    obtain ⟨to, tcap, hvt, -⟩ := RdR.split hTT.2
    have hb2 := below_alloc w1 (.cells #[.string t.1, av, tv] 28)
    have C3 := hid (fun W h => cells3 (w := w1) (a := .string t.1) (b := av) (c := tv) (t := 28) W h)
    have T2 := hid (hTT.below hb2)
    obtain ⟨w2, hw2⟩ : ∃ w2 : World, w1.alloc (.cells #[.string t.1, av, tv] 28) = w2 := ⟨_, rfl⟩
    rw [hw2] at hb2 C3 T2
    have W2 := hid hw2
    have D2 := hid (hb1.trans (hb2.mono hb1.size))
    have HT2 := hid (HT0.out.below D2.out)
    have AW := hid (fun (W : World) (h : Below w2.heap.size w2 W) => awake29_any W (HT2.out.below h))
    have FU := hid (fun (W : World) => full_any (t.2.1.length : Int) W)
    have hm16 : t.2.1.length ≤ 16 := (tabE2_ok hG.1).1
    rw [Int.toNat_natCast, show min t.2.1.length 32 = t.2.1.length by omega] at FU
    unfold enc at FU
    obtain ⟨fu, hfu⟩ : ∃ fu, fullN t.2.1.length = fu := ⟨_, rfl⟩
    have SUB := hid (show sub (BitVec.setWidth 32 u8 &&& fu) (fullN t.2.1.length) by rw [hfu]; exact and_sub_right _ _)
    rw [hfu] at FU
    obtain ⟨st, hst⟩ : ∃ st, BitVec.setWidth 32 u8 &&& fu = st := ⟨_, rfl⟩
    rw [hst] at SUB
    have KES := hid (kE_set KE.out SUB.out)
    have UQ := hid (fun (W : World) (h : Below w2.heap.size w2 W) => kunique_any t av tv st W (T2.out.below h) (HT2.out.below h) (fun _ => OKT.out))
    have KA := hid (fun (W : World) (h : Below w2.heap.size w2 W) => kall_any t av tv W (T2.out.below h))
    have KM := hid (fun (W : World) (h : Below w2.heap.size w2 W) => kmaximal_any t av tv W (T2.out.below h))
    rw [KL1.out, KE.out] at KA
    rw [KL2.out, KE.out] at KM
    rw [show kuB t st = uniB (pairsS t.2.2) st from kE_unq KE.out KES.out, KES.out] at UQ
    have UK := hid (uni_keys (m := t.2.1.length) (ps := pairsS t.2.2) SUB.out)
    have UW := hid (uni_wits (rs := t.2.2) (s := st))
    generalize keyN t.2.1.length (pairsS t.2.2) = ky at *
    generalize witsL t.2.2 = wl at *
    generalize uniB (pairsS t.2.2) st = ub at *
    have HST := hid hst
    have CV1 := hid (fun (v : Value) (b : Nat) (W : World) (hv : RdE enc W v ky) (hc : W.cell? ⟨b, 0, none⟩ = some (enc st)) => containsFunc_any 13 #[.pointer (some ⟨b, 0, none⟩)] (fun k => decide (sub k st)) ky v W hv (enters _ _ _ Tryd.func13 (by kernel_rfl) rfl) (fun x => cov1_any st b x W hc))
    rw [UK.out] at CV1
    have CV2 := hid (fun (v : Value) (b : Nat) (W : World) (hv : RdW W v wl) (hc : W.cell? ⟨b, 0, none⟩ = some (enc st)) => containsW_any st b wl v W hv hc)
    rw [UW.out] at CV2
    unfold enc at CV1 CV2
    obtain ⟨nm, ats, rs⟩ := t
    simp only at hva hvt
    subst hva hvt
    obtain ⟨t100, t101, t102⟩ := C3.out _ (Below.refl _ _)
    have D10 := hid (Below.refl w2.heap.size w2)
    clear hb1 hb2 hw2 hTT hG TK q0 q1 q2 CKA KL1 KL2 hst hfu SUB KES hm16 UK UW
    go_wp2_with fail
    rw [W2.out]
    go_wp2_with fail
    refine (AW.out _ D10.out).mono ?_
    rintro e w11 ⟨rfl, hb11⟩
    have D11 := hid (D10.out.trans (hb11.mono D10.out.size))
    obtain ⟨t110, t111, t112⟩ := C3.out _ D11.out
    clear hb11 t100 t101 t102
    go_wp2_with fail
    refine (FU.out _).mono ?_
    rintro e w' ⟨rfl, rfl⟩
    have hbs := below_alloc w11 (.cells #[.int .u32 (iv st)] 33)
    have sc0 : (w11.alloc (.cells #[.int .u32 (iv st)] 33)).cell? ⟨w11.heap.size, 0, none⟩ = some (.int .u32 (iv st)) := cell_new
    have SC := hid (fun (W : World) (h : Below (w11.alloc (.cells #[.int .u32 (iv st)] 33)).heap.size (w11.alloc (.cells #[.int .u32 (iv st)] 33)) W) => (h.cell (p := ⟨w11.heap.size, 0, none⟩) (by simp)).trans sc0)
    obtain ⟨w12, hw12⟩ : ∃ w12 : World, w11.alloc (.cells #[.int .u32 (iv st)] 33) = w12 := ⟨_, rfl⟩
    rw [hw12] at hbs sc0 SC
    have W12 := hid hw12
    have D12 := hid (D11.out.trans (hbs.mono D11.out.size))
    obtain ⟨t120, t121, t122⟩ := C3.out _ D12.out
    obtain ⟨sb, hsb⟩ : ∃ sb, w11.heap.size = sb := ⟨_, rfl⟩
    rw [hsb] at sc0 SC
    have HSB := hid hsb
    have S12 := hid (Below.refl w12.heap.size w12)
    obtain ⟨r0, r1, r2⟩ := C3.out _ (D11.out.trans ((below_alloc w11 (.cells #[.int .u32 (iv (BitVec.setWidth 32 u8 &&& fu))] 33)).mono D11.out.size))
    clear hbs hw12 hsb
    go_wp2_with fail
    rw [HST.out, W12.out, HSB.out]
    clear r0 r1 r2 t110 t111 t112
    refine (KA.out _ D12.out).mono ?_
    rintro e w13 ⟨v13, rfl, ho13, -, hb13⟩
    have R13 := hid (RdE.of_owns ho13 (by have := HKB.out; omega))
    have D13 := hid (D12.out.trans (hb13.mono D12.out.size))
    have S13 := hid (S12.out.trans (hb13.mono S12.out.size))
    obtain ⟨t130, t131, t132⟩ := C3.out _ D13.out
    clear ho13 hb13 t120 t121 t122 sc0
    go_wp2_with fail
    refine (KM.out _ D13.out).mono ?_
    rintro e w14 ⟨v14, rfl, ho14, -, hb14⟩
    have R14 := hid (RdC.of_owns cW_length ho14 (by have := HWB.out; omega))
    replace R13 := hid (R13.out.below hb14)
    have D14 := hid (D13.out.trans (hb14.mono D13.out.size))
    have S14 := hid (S13.out.trans (hb14.mono S13.out.size))
    obtain ⟨t140, t141, t142⟩ := C3.out _ D14.out
    have s14 := SC.out _ S14.out
    clear ho14 hb14 t130 t131 t132
    go_wp2_with fail
    refine (UQ.out _ D14.out).mono ?_
    rintro e w15 ⟨rfl, hb15⟩
    replace R13 := hid (R13.out.below hb15)
    replace R14 := hid (RdC.below R14.out hb15)
    have D15 := hid (D14.out.trans (hb15.mono D14.out.size))
    have S15 := hid (S14.out.trans (hb15.mono S14.out.size))
    have X1 := hid (CV1.out _ _ _ R13.out (SC.out _ S15.out))
    have X2 := hid (CV2.out _ _ _ R14.out (SC.out _ S15.out))
    clear hb15 t140 t141 t142 s14
    go_wp2_with fail
    refine X1.out.mono ?_
    rintro e w' ⟨rfl, rfl⟩
    go_wp2_with fail
    refine X2.out.mono ?_
    rintro e w16 ⟨rfl, hb16⟩
    have BF := hid (B0.out.trans ((D2.out.trans ((D15.out.trans (hb16.mono D15.out.size)).mono D2.out.size)).mono B0.out.size))
    have b1 : (ub == ub) = true := by cases ub <;> rfl
    have b2 : (ub == !(!ub)) = true := by cases ub <;> rfl
    clear hb16
    go_wp2_with fail
    go_ret
    exact ⟨by first | rfl | (refine ret_bool ?_; simp), BF.out⟩
  · replace TB := hid (fun (W : World) (h : RdRc W (.slice ro rr.length rcap) rr) => TB.out W h (by omega))
    clear TK
    go_enter Tryd.func3, Tryd.ntmps3
    go_wp2_with fail
    rw [W0.out]
    go_wp2_with fail
    refine (TB.out _ RR.out).mono ?_
    rintro e w1 ⟨rfl, hb1⟩
    have B1 := hid ((B0.out.trans (hb1.mono B0.out.size)).alloc (Nat.le_trans B0.out.size hb1.size) (.cells #[.string (ByteArray.mk #[]), .slice none 0 0, .slice none 0 0] 28))
    have HT1 := hid ((HT0.out.below hb1).below (below_alloc w1 (.cells #[.string (ByteArray.mk #[]), .slice none 0 0, .slice none 0 0] 28)))
    clear hb1
    go_wp2_with fail
    refine (awake29_any _ HT1.out).mono ?_
    rintro e w2 ⟨rfl, hb2⟩
    have B2 := hid (B1.out.trans (hb2.mono B1.out.size))
    replace HT1 := hid (HT1.out.below hb2)
    clear hb2
    go_wp2_with fail
    refine (awake29_any _ HT1.out).mono ?_
    rintro e w3 ⟨rfl, hb3⟩
    have B3 := hid (B2.out.trans (hb3.mono B2.out.size))
    clear hb3
    go_wp2_with fail
    go_ret
    exact ⟨rfl, B3.out⟩

end Go.Proofs.YtkbegpnchamgkaaDoor
