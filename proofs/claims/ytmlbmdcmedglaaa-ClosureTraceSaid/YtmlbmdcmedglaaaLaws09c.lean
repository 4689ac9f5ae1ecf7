/- The laws Equivalent and Trace of chapter 9, over the contracts of what they call. -/
import Derived.Test.YtmlbmdcmedglaaaLaws09b
namespace Go.Proofs.Ytmlbmdcmedglaaa
open Go.RowKit

theorem equivalentL (v u : Value) (s : S) (w : World) (h : ArgC cF w v) (h' : ArgC cF w u) :
    Calls Try.prog 9 #[v, u, .int .u32 (iv s)] w fun e w' => e = .returned (.bool true) ∧ Below w.heap.size w w' := by
  have AW := hid awake_any
  obtain ⟨ao, len, cap, rfl, h⟩ := h
  obtain ⟨bo, len', cap', rfl, h'⟩ := h'
  by_cases hl : len ≤ 20
  · have hd : decide ((len : Int) > 20) = false := by simp; omega
    by_cases hl' : len' ≤ 20
    · have hd' : decide ((len' : Int) > 20) = false := by simp; omega
      obtain ⟨fs, hfl, hr⟩ := h (by omega)
      obtain ⟨gs, hgl, hr'⟩ := h' (by omega)
      have CF := hid (fun (W : World) (hb : Below w.heap.size w W) => cloneR fs _ W (hr.below hb) (by omega))
      have CG := hid (fun (W : World) (hb : Below w.heap.size w W) => cloneR gs _ W (hr'.below hb) (by omega))
      have C1 := hid (fun (x y : Value) (W : World) (hx : RdF W x fs) (hy : RdF W y gs) => missing_any fs gs x y W hx hy)
      have C2 := hid (fun (W : World) (hb : Below w.heap.size w W) => refMissing_any fs gs _ _ W (hr.below hb) (hr'.below hb))
      have C3 := hid (fun (x y : Value) (W : World) (hx : RdF W x fs) (hy : RdF W y gs) => equivalent_any fs gs x y W hx hy)
      have C4 := hid (fun (W : World) (hb : Below w.heap.size w W) => refEquivalent_any fs gs _ _ W (hr.below hb) (hr'.below hb))
      have C5 := hid (fun (x y : Value) (W : World) (hx : RdF W x gs) (hy : RdF W y fs) => equivalent_any gs fs x y W hx hy)
      have C6 := hid (fun (x : Value) (W : World) (hx : RdF W x fs) => close_any fs s x W hx)
      have C7 := hid (fun (x : Value) (W : World) (hx : RdF W x gs) => close_any gs s x W hx)
      rw [show equS gs fs = equS fs gs by unfold equS; exact Bool.and_comm _ _] at C5
      clear h h' hfl hgl hr hr'
      cases hq : equS fs gs with
      | true =>
        rw [hq] at C3 C4 C5
        rw [← (equ_iff.1 hq).close s] at C7
        simp only [enc_eq] at C6 C7
        clear hq
        generalize missI fs gs = i at *
        generalize missB fs gs = r at *
        generalize closeS fs s = c at *
        go_enter Try.func9, Try.ntmps9
        go_wp2_with fail
        refine (AW.out _).mono ?_
        rintro e w1 ⟨rfl, hb1⟩
        have B1 := hid hb1
        clear hb1
        go_wp2_with fail
        refine (CF.out _ B1.out).mono ?_
        rintro e w2 ⟨x2, rfl, hr2, hb2⟩
        have B2 := hid (B1.out.trans (hb2.mono B1.out.size))
        clear hb2
        have R2 := hid hr2
        clear hr2
        go_wp2_with fail
        refine (CG.out _ B2.out).mono ?_
        rintro e w3 ⟨y3, rfl, hr3, hb3⟩
        have R2' := hid (R2.out.below hb3)
        have R3 := hid hr3
        have B3 := hid (B2.out.trans (hb3.mono B2.out.size))
        clear hr3 hb3
        go_wp2_with fail
        refine (C1.out _ _ _ R2'.out R3.out).mono ?_
        rintro e w4 ⟨rfl, hb4⟩
        have B4 := hid (B3.out.trans (hb4.mono B3.out.size))
        clear hb4
        go_wp2_with fail
        refine (C2.out _ B4.out).mono ?_
        rintro e w5 ⟨rfl, hb5⟩
        have B5 := hid (B4.out.trans (hb5.mono B4.out.size))
        clear hb5
        go_wp2_with fail
        refine (CF.out _ B5.out).mono ?_
        rintro e w6 ⟨x6, rfl, hr6, hb6⟩
        have B6 := hid (B5.out.trans (hb6.mono B5.out.size))
        clear hb6
        have R6 := hid hr6
        clear hr6
        go_wp2_with fail
        refine (CG.out _ B6.out).mono ?_
        rintro e w7 ⟨y7, rfl, hr7, hb7⟩
        have R6' := hid (R6.out.below hb7)
        have R7 := hid hr7
        have B7 := hid (B6.out.trans (hb7.mono B6.out.size))
        clear hr7 hb7
        go_wp2_with fail
        refine (C3.out _ _ _ R6'.out R7.out).mono ?_
        rintro e w8 ⟨rfl, hb8⟩
        have B8 := hid (B7.out.trans (hb8.mono B7.out.size))
        clear hb8
        go_wp2_with fail
        refine (C4.out _ B8.out).mono ?_
        rintro e w9 ⟨rfl, hb9⟩
        have B9 := hid (B8.out.trans (hb9.mono B8.out.size))
        clear hb9
        go_wp2_with fail
        refine (CG.out _ B9.out).mono ?_
        rintro e w10 ⟨x10, rfl, hr10, hb10⟩
        have B10 := hid (B9.out.trans (hb10.mono B9.out.size))
        clear hb10
        have R10 := hid hr10
        clear hr10
        go_wp2_with fail
        refine (CF.out _ B10.out).mono ?_
        rintro e w11 ⟨y11, rfl, hr11, hb11⟩
        have R10' := hid (R10.out.below hb11)
        have R11 := hid hr11
        have B11 := hid (B10.out.trans (hb11.mono B10.out.size))
        clear hr11 hb11
        go_wp2_with fail
        refine (C5.out _ _ _ R10'.out R11.out).mono ?_
        rintro e w12 ⟨rfl, hb12⟩
        have B12 := hid (B11.out.trans (hb12.mono B11.out.size))
        clear hb12
        go_wp2_with fail
        refine (CF.out _ B12.out).mono ?_
        rintro e w13 ⟨x13, rfl, hr13, hb13⟩
        have B13 := hid (B12.out.trans (hb13.mono B12.out.size))
        clear hb13
        have R13 := hid hr13
        clear hr13
        go_wp2_with fail
        refine (C6.out _ _ R13.out).mono ?_
        rintro e w14 ⟨rfl, hb14⟩
        have B14 := hid (B13.out.trans (hb14.mono B13.out.size))
        clear hb14
        go_wp2_with fail
        refine (CG.out _ B14.out).mono ?_
        rintro e w15 ⟨x15, rfl, hr15, hb15⟩
        have B15 := hid (B14.out.trans (hb15.mono B14.out.size))
        clear hb15
        have R15 := hid hr15
        clear hr15
        go_wp2_with fail
        refine (C7.out _ _ R15.out).mono ?_
        rintro e w16 ⟨rfl, hb16⟩
        have B16 := hid (B15.out.trans (hb16.mono B15.out.size))
        clear hb16
        go_wp2_with fail
        go_ret
        exact ⟨ret_bool (by simp), B16.out⟩
      | false =>
        rw [hq] at C3 C4 C5
        clear hq C6 C7
        generalize missI fs gs = i at *
        generalize missB fs gs = r at *
        go_enter Try.func9, Try.ntmps9
        go_wp2_with fail
        refine (AW.out _).mono ?_
        rintro e w1 ⟨rfl, hb1⟩
        have B1 := hid hb1
        clear hb1
        go_wp2_with fail
        refine (CF.out _ B1.out).mono ?_
        rintro e w2 ⟨x2, rfl, hr2, hb2⟩
        have B2 := hid (B1.out.trans (hb2.mono B1.out.size))
        clear hb2
        have R2 := hid hr2
        clear hr2
        go_wp2_with fail
        refine (CG.out _ B2.out).mono ?_
        rintro e w3 ⟨y3, rfl, hr3, hb3⟩
        have R2' := hid (R2.out.below hb3)
        have R3 := hid hr3
        have B3 := hid (B2.out.trans (hb3.mono B2.out.size))
        clear hr3 hb3
        go_wp2_with fail
        refine (C1.out _ _ _ R2'.out R3.out).mono ?_
        rintro e w4 ⟨rfl, hb4⟩
        have B4 := hid (B3.out.trans (hb4.mono B3.out.size))
        clear hb4
        go_wp2_with fail
        refine (C2.out _ B4.out).mono ?_
        rintro e w5 ⟨rfl, hb5⟩
        have B5 := hid (B4.out.trans (hb5.mono B4.out.size))
        clear hb5
        go_wp2_with fail
        refine (CF.out _ B5.out).mono ?_
        rintro e w6 ⟨x6, rfl, hr6, hb6⟩
        have B6 := hid (B5.out.trans (hb6.mono B5.out.size))
        clear hb6
        have R6 := hid hr6
        clear hr6
        go_wp2_with fail
        refine (CG.out _ B6.out).mono ?_
        rintro e w7 ⟨y7, rfl, hr7, hb7⟩
        have R6' := hid (R6.out.below hb7)
        have R7 := hid hr7
        have B7 := hid (B6.out.trans (hb7.mono B6.out.size))
        clear hr7 hb7
        go_wp2_with fail
        refine (C3.out _ _ _ R6'.out R7.out).mono ?_
        rintro e w8 ⟨rfl, hb8⟩
        have B8 := hid (B7.out.trans (hb8.mono B7.out.size))
        clear hb8
        go_wp2_with fail
        refine (C4.out _ B8.out).mono ?_
        rintro e w9 ⟨rfl, hb9⟩
        have B9 := hid (B8.out.trans (hb9.mono B8.out.size))
        clear hb9
        go_wp2_with fail
        refine (CG.out _ B9.out).mono ?_
        rintro e w10 ⟨x10, rfl, hr10, hb10⟩
        have B10 := hid (B9.out.trans (hb10.mono B9.out.size))
        clear hb10
        have R10 := hid hr10
        clear hr10
        go_wp2_with fail
        refine (CF.out _ B10.out).mono ?_
        rintro e w11 ⟨y11, rfl, hr11, hb11⟩
        have R10' := hid (R10.out.below hb11)
        have R11 := hid hr11
        have B11 := hid (B10.out.trans (hb11.mono B10.out.size))
        clear hr11 hb11
        go_wp2_with fail
        refine (C5.out _ _ _ R10'.out R11.out).mono ?_
        rintro e w12 ⟨rfl, hb12⟩
        have B12 := hid (B11.out.trans (hb12.mono B11.out.size))
        clear hb12
        go_wp2_with fail
        go_ret
        exact ⟨rfl, B12.out⟩
    · have hd' : decide ((len' : Int) > 20) = true := by simp; omega
      clear h h'
      go_enter Try.func9, Try.ntmps9
      go_wp2_with fail
      refine (AW.out _).mono ?_
      rintro e w1 ⟨rfl, hb1⟩
      have B1 := hid hb1
      clear hb1
      go_wp2_with fail
      refine (AW.out _).mono ?_
      rintro e w2 ⟨rfl, hb2⟩
      have B2 := hid (B1.out.trans (hb2.mono B1.out.size))
      clear hb2
      go_wp2_with fail
      go_ret
      exact ⟨rfl, B2.out⟩
  · have hd : decide ((len : Int) > 20) = true := by simp; omega
    clear h h'
    go_enter Try.func9, Try.ntmps9
    go_wp2_with fail
    refine (AW.out _).mono ?_
    rintro e w1 ⟨rfl, hb1⟩
    have B1 := hid hb1
    clear hb1
    go_wp2_with fail
    refine (AW.out _).mono ?_
    rintro e w2 ⟨rfl, hb2⟩
    have B2 := hid (B1.out.trans (hb2.mono B1.out.size))
    clear hb2
    go_wp2_with fail
    go_ret
    exact ⟨rfl, B2.out⟩

theorem cells_newF (w : World) (f : F) {t : TypeId} : ∀ j u, (cF f)[j]? = some u → (w.alloc (.cells #[.int .u32 (iv f.1), .int .u32 (iv f.2)] t)).cell? (Addr.add ⟨w.heap.size, 0, none⟩ j) = some u := by
  intro j u hj
  have hj2 : j < 2 := (List.getElem?_eq_some_iff.1 hj).1
  rcases (show j = 0 ∨ j = 1 by omega) with rfl | rfl
  · simp [cF, enc] at hj; subst hj; simp [Addr.add]
  · simp [cF, enc] at hj; subst hj; simp [Addr.add]

set_option maxHeartbeats 800000 in
theorem traceL (v : Value) (s : S) (w : World) (h : ArgC cF w v) :
    Calls Try.prog 6 #[v, .int .u32 (iv s)] w fun e w' => e = .returned (.bool true) ∧ Below w.heap.size w w' := by
  have AW := hid awake_any
  obtain ⟨ao, len, cap, rfl, h⟩ := h
  by_cases hl : len ≤ 20
  · have hd : decide ((len : Int) > 20) = false := by simp; omega
    obtain ⟨fs, hfl, hr⟩ := h (by omega)
    have CL := hid (fun (W : World) (hb : Below w.heap.size w W) => cloneR fs _ W (hr.below hb) (by omega))
    have C1 := hid (fun (x : Value) (W : World) (hx : RdF W x fs) => traceR fs s x W hx)
    have C2 := hid (fun (W : World) (hb : Below w.heap.size w W) => refTraceR fs s _ W (hr.below hb))
    have C3 := hid (fun (t : S) (W : World) (hb : Below w.heap.size w W) => isClosed_any fs t _ W (hr.below hb))
    obtain ⟨t1, t2, -, -⟩ := trace_spec fs _ s (Nat.le_refl _)
    have T1 := hid t1
    have T2 := hid (show closedF fs (traceEnd fs s (traceS fs s)) from t2)
    have T3 := hid (trace_use_closed fs s)
    have TL := traceS_length fs s
    have hs := RdF.split hr
    clear hr h t1 t2
    generalize traceS fs s = l at *
    obtain ⟨ao', cap', he, -, hc⟩ := hs
    cases he
    have FC := hid hc
    clear hc
    go_enter Try.func6, Try.ntmps6
    go_wp2_with fail
    refine (AW.out _).mono ?_
    rintro e w1 ⟨rfl, hb1⟩
    have B1 := hid hb1
    clear hb1
    go_wp2_with fail
    refine (CL.out _ B1.out).mono ?_
    rintro e w2 ⟨x2, rfl, hr2, hb2⟩
    have B2 := hid (B1.out.trans (hb2.mono B1.out.size))
    clear hb2
    have R2 := hid hr2
    clear hr2
    go_wp2_with fail
    refine (C1.out _ _ R2.out).mono ?_
    rintro e w3 ⟨x3, rfl, hr3, hb3⟩
    have B3 := hid (B2.out.trans (hb3.mono B2.out.size))
    clear hb3
    have R3 := hid hr3
    clear hr3
    go_wp2_with fail
    refine (C2.out _ B3.out).mono ?_
    rintro e w4 ⟨x4, rfl, hr4, hb4⟩
    have R3' := hid (R3.out.below hb4)
    have R4 := hid hr4
    have B4 := hid (B3.out.trans (hb4.mono B3.out.size))
    clear hr4 hb4 R3
    go_wp2_with fail
    refine (equalI_any l l _ _ _ R3'.out R4.out).mono ?_
    rw [decide_eq_true rfl]
    rintro e w5 ⟨rfl, q, rfl⟩
    have B5 := hid (below_drewN' B4.out q)
    have R5 := hid (R3'.out.below (below_drewN w4.heap.size w4 q))
    obtain ⟨lo, lcap, rfl, -, hlc⟩ := R5.out.split
    have LC := hid hlc
    clear hlc R3' R5 R4 B4
    obtain ⟨w5, hw5⟩ : ∃ w5 : World, w4.drewN q = w5 := ⟨_, rfl⟩
    rw [hw5] at B5 LC
    rw [hw5]
    clear hw5
    go_wp2_with fail
    have hs5 := B5.out.size
    go_loopw [1, 6, 29] (fun t u i wr => ∃ k : Nat, k ≤ l.length ∧ i = .int .i64 k ∧ t = .int .u32 (iv (traceEnd fs s (l.take k))) ∧ wr.ownsRow w5.heap.size 30 2 u (traceUse fs (l.take k)).length ((traceUse fs (l.take k)).flatMap cF) ∧ Below w5.heap.size w5 wr) (fun _ _ i _ => l.length - (intOf i).toNat)
    case atStart => exact ⟨0, Nat.zero_le _, rfl, rfl, World.ownsRow_nil _ _ _ _, Below.refl _ _⟩
    case round =>
      obtain ⟨k, hk, rfl, rfl, hown, hnx⟩ := hrel
      have hsz := hnx.size
      have hul : (traceUse fs (l.take k)).length ≤ k := by unfold traceUse; simp; omega
      by_cases hlt : k < l.length
      · obtain ⟨i, hi⟩ := get_some hlt
        have hif := T1.out i (List.mem_of_getElem? hi)
        obtain ⟨f, hf⟩ := get_some hif
        obtain ⟨b, off, rfl, hlc⟩ := LC.out k i hi
        have e1 : wr.cell? ⟨b, off + k, none⟩ = some (.int .i64 i) := hlc wr hnx
        obtain ⟨g, goff, rfl, hfc⟩ := FC.out i f hf
        obtain ⟨e2, e3⟩ := hfc wr (B5.out.trans (hnx.mono hs5))
        have FX := hid hfc
        have U := hid (traceUse_next hi hf)
        have E := hid (traceEnd_next (s := s) hi hf)
        clear hlc hfc hi hf
        generalize traceUse fs (l.take k) = us at *
        generalize traceEnd fs s (l.take k) = t at *
        have hilt : (i : Int) < (fs.length : Int) := by omega
        have hi0 : (0 : Int) ≤ i := by omega
        go_wp2_with (at_builtin; refine wpList_pushC rfl _ _ 22 rfl w5.heap.size 30 (.agg #[.int .u32 0, .int .u32 0]) 2 8 undFDs infoFD rfl (by decide) (by decide) cF cF_length cF_one _ us rfl (hown.alloc _) ⟨wr.heap.size, 0, none⟩ f rfl (cells_newF _ _) (by omega) (by simp; omega) ?_)
        intro v' w6 hown' hgrow
        have hb6 : Below w5.heap.size w5 w6 := below_push hnx hsz hown hgrow
        obtain ⟨e4, e5⟩ := FX.out w6 (B5.out.trans (hb6.mono hs5))
        clear hgrow hown hnx e1 e2 e3
        go_wp2_with fail
        go_roundw
        case rel => exact ⟨k + 1, by omega, by go_num, by rw [E.out], by rw [U.out]; simpa using hown', hb6⟩
        case measure => simp [intOf]; omega
      · rw [take_all hlt] at hown hul ⊢
        have BB := hid (B5.out.trans (hnx.mono hs5))
        have RU := hid (RdC.of_owns cF_length hown (by omega))
        have C4 := hid (fun (W : World) (hx : RdF W u6 (traceUse fs l)) => close_any (traceUse fs l) (traceEnd fs s l) u6 W hx)
        rw [T3.out] at C4
        have C3' := hid (C3.out (traceEnd fs s l))
        rw [decide_eq_true T2.out] at C3'
        clear hown hnx C3 T3 T2
        generalize traceEnd fs s l = t at *
        simp only [enc_eq] at C3' C4
        go_wp2_with fail
        refine (C3'.out _ BB.out).mono ?_
        rintro e w7 ⟨rfl, rfl⟩
        go_wp2_with fail
        refine (C4.out _ RU.out).mono ?_
        rintro e w8 ⟨rfl, hb8⟩
        have B8 := hid (BB.out.trans (hb8.mono BB.out.size))
        clear hb8
        go_wp2_with fail
        go_ret
        exact ⟨ret_bool (by simp), B8.out⟩
  · have hd : decide ((len : Int) > 20) = true := by simp; omega
    clear h
    go_enter Try.func6, Try.ntmps6
    go_wp2_with fail
    refine (AW.out _).mono ?_
    rintro e w1 ⟨rfl, hb1⟩
    have B1 := hid hb1
    clear hb1
    go_wp2_with fail
    refine (AW.out _).mono ?_
    rintro e w2 ⟨rfl, hb2⟩
    have B2 := hid (B1.out.trans (hb2.mono B1.out.size))
    clear hb2
    go_wp2_with fail
    go_ret
    exact ⟨rfl, B2.out⟩

end Go.Proofs.Ytmlbmdcmedglaaa
