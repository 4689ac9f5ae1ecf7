/- Laws of chapter 9, over the contracts of what they call. -/
import Derived.Test.YtmlbmdcmedglaaaAwake09
import Derived.Test.YtmlbmdcmedglaaaOpen
import Derived.Deep.RegionHeld3
namespace Go.Proofs.Ytmlbmdcmedglaaa
open Go.RowKit

theorem validL (n : Int) (v : Value) (w : World) (h : ArgC cF w v) :
    Calls Try.prog 3 #[.int .i64 n, v] w fun e w' => e = .returned (.bool true) ∧ Below w.heap.size w w' := by
  have AW := hid awake_any
  obtain ⟨ao, len, cap, rfl, h⟩ := h
  by_cases hl : len ≤ 70
  · have hd : decide ((len : Int) > 70) = false := by simp; omega
    obtain ⟨fs, hfl, hr⟩ := h (by omega)
    have CL := hid (fun (W : World) (hb : Below w.heap.size w W) => cloneR fs _ W (hr.below hb) (by omega))
    have C1 := hid (fun (u : Value) (W : World) (hv : RdF W u fs) => validF_any n fs u W hv)
    have C2 := hid (fun (W : World) (hb : Below w.heap.size w W) => refValidF_any n fs _ W (hr.below hb))
    clear hr hfl h
    generalize validF n fs = r at *
    go_enter Try.func3, Try.ntmps3
    go_wp2_with fail
    refine (AW.out _).mono ?_
    rintro e w1 ⟨rfl, hb1⟩
    have B1 := hid hb1
    clear hb1
    go_wp2_with fail
    refine (CL.out _ B1.out).mono ?_
    rintro e w2 ⟨v2, rfl, hr2, hb2⟩
    have B2 := hid (B1.out.trans (hb2.mono B1.out.size))
    clear hb2
    have R2 := hid hr2
    clear hr2
    go_wp2_with fail
    refine (C1.out _ _ R2.out).mono ?_
    rintro e w3 ⟨rfl, hb3⟩
    have B3 := hid (B2.out.trans (hb3.mono B2.out.size))
    clear hb3
    go_wp2_with fail
    refine (C2.out _ B3.out).mono ?_
    rintro e w' ⟨rfl, rfl⟩
    go_wp2_with fail
    go_ret
    exact ⟨ret_bool (by simp), B3.out⟩
  · have hd : decide ((len : Int) > 70) = true := by simp; omega
    clear h
    go_enter Try.func3, Try.ntmps3
    go_wp2_with fail
    refine (AW.out _).mono ?_
    rintro e w1 ⟨rfl, hb1⟩
    have B1 := hid hb1
    clear hb1
    go_wp2_with fail
    refine (AW.out _).mono ?_
    rintro e w2 ⟨rfl, hb2⟩
    have B2 := hid (B1.out.trans (hb2.mono B1.out.size))
    clear hb2
    go_wp2_with fail
    go_ret
    exact ⟨rfl, B2.out⟩

theorem closeL (v : Value) (s o : S) (w : World) (h : ArgC cF w v) :
    Calls Try.prog 4 #[v, .int .u32 (iv s), .int .u32 (iv o)] w fun e w' => e = .returned (.bool true) ∧ Below w.heap.size w w' := by
  have AW := hid awake_any
  obtain ⟨ao, len, cap, rfl, h⟩ := h
  by_cases hl : len ≤ 20
  · have hd : decide ((len : Int) > 20) = false := by simp; omega
    obtain ⟨fs, hfl, hr⟩ := h (by omega)
    have CL := hid (fun (W : World) (hb : Below w.heap.size w W) => cloneR fs _ W (hr.below hb) (by omega))
    have C1 := hid (fun (u : Value) (W : World) (hv : RdF W u fs) => close_any fs s u W hv)
    have C2 := hid (fun (W : World) (hb : Below w.heap.size w W) => refClose_any fs s _ W (hr.below hb))
    have C3 := hid (fun (W : World) => sub_any s (closeS fs s) W)
    have C4 := hid (fun (W : World) (hb : Below w.heap.size w W) => isClosed_any fs (closeS fs s) _ W (hr.below hb))
    have C5 := hid (fun (u : Value) (W : World) (hv : RdF W u fs) => close_any fs (closeS fs s) u W hv)
    have C6 := hid (fun (u : Value) (W : World) (hv : RdF W u fs) => close_any fs (s ||| o) u W hv)
    have C7 := hid (fun (W : World) => sub_any (closeS fs s) (closeS fs (s ||| o)) W)
    have C8 := hid (fun (W : World) (hb : Below w.heap.size w W) => isClosed_any fs (s ||| o) _ W (hr.below hb))
    have C9 := hid (fun (W : World) => sub_any (closeS fs s) (s ||| o) W)
    obtain ⟨h1, h2, h3⟩ := closeS_cl fs s
    have h5 := closeS_mono (fs := fs) (sub_or_left s o)
    rw [decide_eq_true h1] at C3
    rw [decide_eq_true h2] at C4
    rw [closeS_closed h2] at C5
    rw [decide_eq_true h5] at C7
    have h9 := h3 (s ||| o) (sub_or_left s o)
    clear hr hfl h h1 h2 h3 h5
    cases hq : decide (closedF fs (s ||| o)) with
    | true =>
      rw [hq] at C8
      rw [decide_eq_true (h9 (of_decide_eq_true hq))] at C9
      clear h9 hq
      generalize closeS fs s = c at *
      generalize closeS fs (s ||| o) = m at *
      simp only [enc_eq] at C1 C2 C3 C4 C5 C6 C7 C8 C9
      go_enter Try.func4, Try.ntmps4
      go_wp2_with fail
      refine (AW.out _).mono ?_
      rintro e w1 ⟨rfl, hb1⟩
      have B1 := hid hb1
      clear hb1
      go_wp2_with fail
      refine (CL.out _ B1.out).mono ?_
      rintro e w2 ⟨v2, rfl, hr2, hb2⟩
      have B2 := hid (B1.out.trans (hb2.mono B1.out.size))
      clear hb2
      have R2 := hid hr2
      clear hr2
      go_wp2_with fail
      refine (C1.out _ _ R2.out).mono ?_
      rintro e w3 ⟨rfl, hb3⟩
      have B3 := hid (B2.out.trans (hb3.mono B2.out.size))
      clear hb3
      go_wp2_with fail
      refine (C2.out _ B3.out).mono ?_
      rintro e w4 ⟨rfl, hb4⟩
      have B4 := hid (B3.out.trans (hb4.mono B3.out.size))
      clear hb4
      go_wp2_with fail
      refine (C3.out _).mono ?_
      rintro e w' ⟨rfl, rfl⟩
      go_wp2_with fail
      refine (C4.out _ B4.out).mono ?_
      rintro e w' ⟨rfl, rfl⟩
      go_wp2_with fail
      refine (CL.out _ B4.out).mono ?_
      rintro e w5 ⟨v5, rfl, hr5, hb5⟩
      have B5 := hid (B4.out.trans (hb5.mono B4.out.size))
      clear hb5
      have R5 := hid hr5
      clear hr5
      go_wp2_with fail
      refine (C5.out _ _ R5.out).mono ?_
      rintro e w6 ⟨rfl, hb6⟩
      have B6 := hid (B5.out.trans (hb6.mono B5.out.size))
      clear hb6
      go_wp2_with fail
      refine (CL.out _ B6.out).mono ?_
      rintro e w7 ⟨v7, rfl, hr7, hb7⟩
      have B7 := hid (B6.out.trans (hb7.mono B6.out.size))
      clear hb7
      have R7 := hid hr7
      clear hr7
      go_wp2_with fail
      refine (C6.out _ _ R7.out).mono ?_
      rintro e w8 ⟨rfl, hb8⟩
      have B8 := hid (B7.out.trans (hb8.mono B7.out.size))
      clear hb8
      go_wp2_with fail
      refine (C7.out _).mono ?_
      rintro e w' ⟨rfl, rfl⟩
      go_wp2_with fail
      refine (C8.out _ B8.out).mono ?_
      rintro e w' ⟨rfl, rfl⟩
      go_wp2_with fail
      refine (C9.out _).mono ?_
      rintro e w' ⟨rfl, rfl⟩
      go_wp2_with fail
      go_ret
      exact ⟨rfl, B8.out⟩
    | false =>
      rw [hq] at C8
      clear h9 hq C9
      generalize closeS fs s = c at *
      generalize closeS fs (s ||| o) = m at *
      simp only [enc_eq] at C1 C2 C3 C4 C5 C6 C7 C8
      go_enter Try.func4, Try.ntmps4
      go_wp2_with fail
      refine (AW.out _).mono ?_
      rintro e w1 ⟨rfl, hb1⟩
      have B1 := hid hb1
      clear hb1
      go_wp2_with fail
      refine (CL.out _ B1.out).mono ?_
      rintro e w2 ⟨v2, rfl, hr2, hb2⟩
      have B2 := hid (B1.out.trans (hb2.mono B1.out.size))
      clear hb2
      have R2 := hid hr2
      clear hr2
      go_wp2_with fail
      refine (C1.out _ _ R2.out).mono ?_
      rintro e w3 ⟨rfl, hb3⟩
      have B3 := hid (B2.out.trans (hb3.mono B2.out.size))
      clear hb3
      go_wp2_with fail
      refine (C2.out _ B3.out).mono ?_
      rintro e w4 ⟨rfl, hb4⟩
      have B4 := hid (B3.out.trans (hb4.mono B3.out.size))
      clear hb4
      go_wp2_with fail
      refine (C3.out _).mono ?_
      rintro e w' ⟨rfl, rfl⟩
      go_wp2_with fail
      refine (C4.out _ B4.out).mono ?_
      rintro e w' ⟨rfl, rfl⟩
      go_wp2_with fail
      refine (CL.out _ B4.out).mono ?_
      rintro e w5 ⟨v5, rfl, hr5, hb5⟩
      have B5 := hid (B4.out.trans (hb5.mono B4.out.size))
      clear hb5
      have R5 := hid hr5
      clear hr5
      go_wp2_with fail
      refine (C5.out _ _ R5.out).mono ?_
      rintro e w6 ⟨rfl, hb6⟩
      have B6 := hid (B5.out.trans (hb6.mono B5.out.size))
      clear hb6
      go_wp2_with fail
      refine (CL.out _ B6.out).mono ?_
      rintro e w7 ⟨v7, rfl, hr7, hb7⟩
      have B7 := hid (B6.out.trans (hb7.mono B6.out.size))
      clear hb7
      have R7 := hid hr7
      clear hr7
      go_wp2_with fail
      refine (C6.out _ _ R7.out).mono ?_
      rintro e w8 ⟨rfl, hb8⟩
      have B8 := hid (B7.out.trans (hb8.mono B7.out.size))
      clear hb8
      go_wp2_with fail
      refine (C7.out _).mono ?_
      rintro e w' ⟨rfl, rfl⟩
      go_wp2_with fail
      refine (C8.out _ B8.out).mono ?_
      rintro e w' ⟨rfl, rfl⟩
      go_wp2_with fail
      go_ret
      exact ⟨rfl, B8.out⟩
  · have hd : decide ((len : Int) > 20) = true := by simp; omega
    clear h
    go_enter Try.func4, Try.ntmps4
    go_wp2_with fail
    refine (AW.out _).mono ?_
    rintro e w1 ⟨rfl, hb1⟩
    have B1 := hid hb1
    clear hb1
    go_wp2_with fail
    refine (AW.out _).mono ?_
    rintro e w2 ⟨rfl, hb2⟩
    have B2 := hid (B1.out.trans (hb2.mono B1.out.size))
    clear hb2
    go_wp2_with fail
    go_ret
    exact ⟨rfl, B2.out⟩

theorem closedL (n : Int) (v : Value) (w : World) (h : ArgC cF w v) :
    Calls Try.prog 7 #[.int .i64 n, v] w fun e w' => e = .returned (.bool true) ∧ Below w.heap.size w w' := by
  have AW := hid awake_any
  obtain ⟨ao, len, cap, rfl, h⟩ := h
  have go : ∀ (d1 d2 : Bool), decide (n > 8) = d1 → decide (n ≤ 12) = d2 → (d1 && d2) = false → Calls Try.prog 7 #[.int .i64 n, .slice ao len cap] w fun e w' => e = .returned (.bool true) ∧ Below w.heap.size w w' := by
    intro d1 d2 e1 e2 e3
    by_cases hl : len ≤ 70
    · have hd : decide ((len : Int) > 70) = false := by simp; omega
      obtain ⟨fs, hfl, hr⟩ := h (by omega)
      have CL := hid (fun (W : World) (hb : Below w.heap.size w W) => cloneR fs _ W (hr.below hb) (by omega))
      have C1 := hid (fun (u : Value) (W : World) (hv : RdF W u fs) => closedR n fs u W hv)
      have C2 := hid (fun (W : World) (hb : Below w.heap.size w W) => refClosedR n fs _ W (hr.below hb))
      clear hr hfl h
      generalize cloE n fs = r at *
      cases d1 <;> cases d2 <;> first | (simp at e3; done) | skip
      all_goals
        clear e3
        go_enter Try.func7, Try.ntmps7
        go_wp2_with fail
        refine (AW.out _).mono ?_
        rintro e w1 ⟨rfl, hb1⟩
        have B1 := hid hb1
        clear hb1
        go_wp2_with fail
        refine (CL.out _ B1.out).mono ?_
        rintro e w2 ⟨v2, rfl, hr2, hb2⟩
        have B2 := hid (B1.out.trans (hb2.mono B1.out.size))
        clear hb2
        have R2 := hid hr2
        clear hr2
        go_wp2_with fail
        refine (C1.out _ _ R2.out).mono ?_
        rintro e w3 ⟨v3, ys, rfl, hr3, hp3, hb3⟩
        have B3 := hid (B2.out.trans (hb3.mono B2.out.size))
        clear hb3
        have R3 := hid hr3
        have P3 := hid hp3
        clear hr3 hp3
        go_wp2_with fail
        refine (C2.out _ B3.out).mono ?_
        rintro e w4 ⟨v4, zs, rfl, hr4, hp4, hb4⟩
        have B4 := hid (B3.out.trans (hb4.mono B3.out.size))
        obtain rfl := P3.out.uniq hp4
        have R3' := hid (R3.out.below hb4)
        have R4 := hid hr4
        clear hb4 hr4 hp4
        go_wp2_with fail
        refine (equalS_any ys ys _ _ _ R3'.out R4.out).mono ?_
        rw [decide_eq_true rfl]
        rintro e w5 ⟨rfl, q, rfl⟩
        go_wp2_with fail
        go_ret
        exact ⟨rfl, below_drewN' B4.out _⟩
    · have hd : decide ((len : Int) > 70) = true := by simp; omega
      clear h
      cases d1 <;> cases d2 <;> first | (simp at e3; done) | skip
      all_goals
        clear e3
        go_enter Try.func7, Try.ntmps7
        go_wp2_with fail
        refine (AW.out _).mono ?_
        rintro e w1 ⟨rfl, hb1⟩
        have B1 := hid hb1
        clear hb1
        go_wp2_with fail
        refine (AW.out _).mono ?_
        rintro e w2 ⟨rfl, hb2⟩
        have B2 := hid (B1.out.trans (hb2.mono B1.out.size))
        clear hb2
        go_wp2_with fail
        go_ret
        exact ⟨rfl, B2.out⟩
  cases hx : decide (n > 8) with
  | false => exact go _ _ hx rfl rfl
  | true =>
    cases hy : decide (n ≤ 12) with
    | false => exact go _ _ hx hy rfl
    | true =>
      clear go h
      go_enter Try.func7, Try.ntmps7
      go_wp2_with fail
      refine (AW.out _).mono ?_
      rintro e w1 ⟨rfl, hb1⟩
      have B1 := hid hb1
      clear hb1
      go_wp2_with fail
      refine (AW.out _).mono ?_
      rintro e w2 ⟨rfl, hb2⟩
      have B2 := hid (B1.out.trans (hb2.mono B1.out.size))
      clear hb2
      go_wp2_with fail
      go_ret
      exact ⟨rfl, B2.out⟩

end Go.Proofs.Ytmlbmdcmedglaaa
