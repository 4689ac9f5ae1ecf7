/- The laws FdmineAll and FdmineBounded. -/
import Derived.Test.YthoidncbbcpnnaaGreatDoorFdmW
import Derived.Test.YthoidncbbcpnnaaGreatDoorGFdmC
import Derived.Test.YthoidncbbcpnnaaGreatDoorKmG
namespace Go.Proofs.YthoidncbbcpnnaaGreatDoor
open Go.RowKit
set_option linter.unusedVariables false

theorem okT_f {t : T3} (h : fE t = 0) (hn : ∀ r ∈ t.2.2, ∀ y ∈ r.2.2, -9223372036854775808 ≤ y.2.1 ∧ y.2.1 < 9223372036854775808) : okT t := by
  intro r hr x hx
  have h1 := rowsE_vals _ _ _ (tabE_rows (fE_ok h).1) r hr
  rw [List.any_eq_false] at h1
  have h3 := h1 x hx
  unfold badV at h3
  exact ⟨by simpa using h3, (hn r hr x hx).1, (hn r hr x hx).2⟩

set_option maxHeartbeats 6400000 in
set_option maxRecDepth 100000 in
theorem fAllL (t : T3) (av rv : Value) (w : World) (hT : Tab w) (ht : RdT w av rv t) (hn : ∀ r ∈ t.2.2, ∀ y ∈ r.2.2, -9223372036854775808 ≤ y.2.1 ∧ y.2.1 < 9223372036854775808) :
    Calls Tryz.prog 3 #[.agg #[.string t.1, av, rv]] w fun e w' => e = .returned (.bool true) ∧ Below w.heap.size w w' := by
  have hb0 := below_alloc w (.cells #[.string t.1, av, rv] 25)
  have C3 := hid (fun W h => cells3 (w := w) (a := .string t.1) (b := av) (c := rv) (t := 25) W h)
  have T0 := hid (ht.below hb0)
  obtain ⟨w0, hw0⟩ : ∃ w0 : World, w.alloc (.cells #[.string t.1, av, rv] 25) = w0 := ⟨_, rfl⟩
  rw [hw0] at hb0 C3 T0
  have B0 := hid hb0
  have W0 := hid hw0
  have hsz0 := hb0.size
  clear hb0 hw0
  have HT0 := hid (hT.below B0.out)
  have AW := hid (fun (W : World) (h : Below w0.heap.size w0 W) => awake28_any W (HT0.out.below h))
  have FW := hid (fun (W : World) (h : Below w0.heap.size w0 W) => few_28 t av rv W (T0.out.below h))
  have A1 := hid (fun (W : World) (h : Below w0.heap.size w0 W) => fall_any t av rv W (T0.out.below h) (HT0.out.below h) (fun h0 => okT_f h0 hn))
  have A2 := hid (fun (W : World) (h : Below w0.heap.size w0 W) => rall_any t av rv W (T0.out.below h))
  have SA := hid (fun (u v : Value) (W : World) (hu : RdF W u (allR t)) (hv : RdF W v (allR t)) => fsame9_any (allR t) u v W hu hv)
  have D10 := hid (Below.refl w0.heap.size w0)
  generalize allR t = ar at *
  generalize fE t = fe at *
  have hfe : (fe == fe) = true := by simp
  generalize few28 t = fw at *
  obtain ⟨t100, t101, t102⟩ := C3.out _ (Below.refl _ _)
  obtain ⟨nm, ats, rs⟩ := t
  obtain ⟨ao, acap, hva, -⟩ := T0.out.1.split
  obtain ⟨ro, rcap, hvr, -⟩ := RdR.split T0.out.2
  simp only at hva hvr
  subst hva hvr
  clear ht hT hn
  by_cases hr : 300 < rs.length
  · have c0 : decide ((300 : Int) < (rs.length : Int)) = true := by rw [decide_eq_true_iff]; omega
    have c1 : decide ((rs.length : Int) > (300 : Int)) = true := by rw [decide_eq_true_iff]; omega
    have HR := hid hr
    clear hr
    go_enter Tryz.func3, Tryz.ntmps3
    go_wp2_with fail
    rw [W0.out]
    go_wp2_with fail
    refine (AW.out _ D10.out).mono ?_
    rintro e w11 ⟨rfl, hb11⟩
    have D11 := hid (D10.out.trans (hb11.mono D10.out.size))
    obtain ⟨t110, t111, t112⟩ := C3.out _ D11.out
    clear hb11 t100 t101 t102
    go_wp2_with fail
    refine (AW.out _ D11.out).mono ?_
    rintro e w12 ⟨rfl, hb12⟩
    have D12 := hid (D11.out.trans (hb12.mono D11.out.size))
    obtain ⟨t120, t121, t122⟩ := C3.out _ D12.out
    clear hb12 t110 t111 t112
    have BF := hid (B0.out.trans (D12.out.mono hsz0))
    go_wp2_with fail
    go_ret
    exact ⟨rfl, BF.out⟩
  · have c0 : decide ((300 : Int) < (rs.length : Int)) = false := by rw [decide_eq_false_iff_not]; omega
    have c1 : decide ((rs.length : Int) > (300 : Int)) = false := by rw [decide_eq_false_iff_not]; omega
    have HR := hid hr
    clear hr
    cases fw with
    | false =>
      go_enter Tryz.func3, Tryz.ntmps3
      go_wp2_with fail
      rw [W0.out]
      go_wp2_with fail
      refine (AW.out _ D10.out).mono ?_
      rintro e w11 ⟨rfl, hb11⟩
      have D11 := hid (D10.out.trans (hb11.mono D10.out.size))
      obtain ⟨t110, t111, t112⟩ := C3.out _ D11.out
      clear hb11 t100 t101 t102
      go_wp2_with fail
      refine (FW.out _ D11.out).mono ?_
      rintro e w12 ⟨rfl, hb12⟩
      have D12 := hid (D11.out.trans (hb12.mono D11.out.size))
      obtain ⟨t120, t121, t122⟩ := C3.out _ D12.out
      clear hb12 t110 t111 t112
      go_wp2_with fail
      refine (AW.out _ D12.out).mono ?_
      rintro e w13 ⟨rfl, hb13⟩
      have D13 := hid (D12.out.trans (hb13.mono D12.out.size))
      obtain ⟨t130, t131, t132⟩ := C3.out _ D13.out
      clear hb13 t120 t121 t122
      have BF := hid (B0.out.trans (D13.out.mono hsz0))
      go_wp2_with fail
      go_ret
      exact ⟨rfl, BF.out⟩
    | true =>
      go_enter Tryz.func3, Tryz.ntmps3
      go_wp2_with fail
      rw [W0.out]
      go_wp2_with fail
      refine (AW.out _ D10.out).mono ?_
      rintro e w11 ⟨rfl, hb11⟩
      have D11 := hid (D10.out.trans (hb11.mono D10.out.size))
      obtain ⟨t110, t111, t112⟩ := C3.out _ D11.out
      clear hb11 t100 t101 t102
      go_wp2_with fail
      refine (FW.out _ D11.out).mono ?_
      rintro e w12 ⟨rfl, hb12⟩
      have D12 := hid (D11.out.trans (hb12.mono D11.out.size))
      obtain ⟨t120, t121, t122⟩ := C3.out _ D12.out
      clear hb12 t110 t111 t112
      go_wp2_with fail
      refine (A1.out _ D12.out).mono ?_
      rintro e w13 ⟨v13, rfl, hr13, hb13⟩
      have D13 := hid (D12.out.trans (hb13.mono D12.out.size))
      have R13 := hid hr13
      clear hr13
      obtain ⟨t130, t131, t132⟩ := C3.out _ D13.out
      clear hb13 t120 t121 t122
      go_wp2_with fail
      refine (A2.out _ D13.out).mono ?_
      rintro e w14 ⟨v14, rfl, hr14, hb14⟩
      have D14 := hid (D13.out.trans (hb14.mono D13.out.size))
      replace R13 := hid (R13.out.below hb14)
      have R14 := hid hr14
      clear hr14
      obtain ⟨t140, t141, t142⟩ := C3.out _ D14.out
      clear hb14 t130 t131 t132
      go_wp2_with fail
      refine (SA.out _ _ _ R13.out R14.out).mono ?_
      rintro e w15 ⟨rfl, hb15⟩
      have D15 := hid (D14.out.trans (hb15.mono D14.out.size))
      obtain ⟨t150, t151, t152⟩ := C3.out _ D15.out
      clear hb15 t140 t141 t142
      have BF := hid (B0.out.trans (D15.out.mono hsz0))
      go_wp2_with fail
      go_ret
      exact ⟨rfl, BF.out⟩

set_option maxHeartbeats 6400000 in
set_option maxRecDepth 100000 in
theorem fBoundedL (t : T3) (av rv : Value) (most : Int) (w : World) (hT : Tab w) (ht : RdT w av rv t) (hn : ∀ r ∈ t.2.2, ∀ y ∈ r.2.2, -9223372036854775808 ≤ y.2.1 ∧ y.2.1 < 9223372036854775808) :
    Calls Tryz.prog 4 #[.agg #[.string t.1, av, rv], .int .i64 most] w fun e w' => e = .returned (.bool true) ∧ Below w.heap.size w w' := by
  have hb0 := below_alloc w (.cells #[.string t.1, av, rv] 25)
  have C3 := hid (fun W h => cells3 (w := w) (a := .string t.1) (b := av) (c := rv) (t := 25) W h)
  have T0 := hid (ht.below hb0)
  obtain ⟨w0, hw0⟩ : ∃ w0 : World, w.alloc (.cells #[.string t.1, av, rv] 25) = w0 := ⟨_, rfl⟩
  rw [hw0] at hb0 C3 T0
  have B0 := hid hb0
  have W0 := hid hw0
  have hsz0 := hb0.size
  clear hb0 hw0
  have HT0 := hid (hT.below B0.out)
  have AW := hid (fun (W : World) (h : Below w0.heap.size w0 W) => awake28_any W (HT0.out.below h))
  have FW := hid (fun (W : World) (h : Below w0.heap.size w0 W) => few_28 t av rv W (T0.out.below h))
  have A1 := hid (fun (W : World) (h : Below w0.heap.size w0 W) => fbnd_any t av rv most W (T0.out.below h) (HT0.out.below h) (fun h0 => okT_f h0 hn))
  have A2 := hid (fun (W : World) (h : Below w0.heap.size w0 W) => rbnd_any t av rv most W (T0.out.below h))
  have SA := hid (fun (u v : Value) (W : World) (hu : RdF W u (bndR t most)) (hv : RdF W v (bndR t most)) => fsame9_any (bndR t most) u v W hu hv)
  have D10 := hid (Below.refl w0.heap.size w0)
  generalize bndR t most = ar at *
  generalize bE t most = fe at *
  have hfe : (fe == fe) = true := by simp
  generalize few28 t = fw at *
  obtain ⟨t100, t101, t102⟩ := C3.out _ (Below.refl _ _)
  obtain ⟨nm, ats, rs⟩ := t
  obtain ⟨ao, acap, hva, -⟩ := T0.out.1.split
  obtain ⟨ro, rcap, hvr, -⟩ := RdR.split T0.out.2
  simp only at hva hvr
  subst hva hvr
  clear ht hT hn
  by_cases hr : 300 < rs.length
  · have c0 : decide ((300 : Int) < (rs.length : Int)) = true := by rw [decide_eq_true_iff]; omega
    have c1 : decide ((rs.length : Int) > (300 : Int)) = true := by rw [decide_eq_true_iff]; omega
    have HR := hid hr
    clear hr
    go_enter Tryz.func4, Tryz.ntmps4
    go_wp2_with fail
    rw [W0.out]
    go_wp2_with fail
    refine (AW.out _ D10.out).mono ?_
    rintro e w11 ⟨rfl, hb11⟩
    have D11 := hid (D10.out.trans (hb11.mono D10.out.size))
    obtain ⟨t110, t111, t112⟩ := C3.out _ D11.out
    clear hb11 t100 t101 t102
    go_wp2_with fail
    refine (AW.out _ D11.out).mono ?_
    rintro e w12 ⟨rfl, hb12⟩
    have D12 := hid (D11.out.trans (hb12.mono D11.out.size))
    obtain ⟨t120, t121, t122⟩ := C3.out _ D12.out
    clear hb12 t110 t111 t112
    have BF := hid (B0.out.trans (D12.out.mono hsz0))
    go_wp2_with fail
    go_ret
    exact ⟨rfl, BF.out⟩
  · have c0 : decide ((300 : Int) < (rs.length : Int)) = false := by rw [decide_eq_false_iff_not]; omega
    have c1 : decide ((rs.length : Int) > (300 : Int)) = false := by rw [decide_eq_false_iff_not]; omega
    have HR := hid hr
    clear hr
    cases fw with
    | false =>
      go_enter Tryz.func4, Tryz.ntmps4
      go_wp2_with fail
      rw [W0.out]
      go_wp2_with fail
      refine (AW.out _ D10.out).mono ?_
      rintro e w11 ⟨rfl, hb11⟩
      have D11 := hid (D10.out.trans (hb11.mono D10.out.size))
      obtain ⟨t110, t111, t112⟩ := C3.out _ D11.out
      clear hb11 t100 t101 t102
      go_wp2_with fail
      refine (FW.out _ D11.out).mono ?_
      rintro e w12 ⟨rfl, hb12⟩
      have D12 := hid (D11.out.trans (hb12.mono D11.out.size))
      obtain ⟨t120, t121, t122⟩ := C3.out _ D12.out
      clear hb12 t110 t111 t112
      go_wp2_with fail
      refine (AW.out _ D12.out).mono ?_
      rintro e w13 ⟨rfl, hb13⟩
      have D13 := hid (D12.out.trans (hb13.mono D12.out.size))
      obtain ⟨t130, t131, t132⟩ := C3.out _ D13.out
      clear hb13 t120 t121 t122
      have BF := hid (B0.out.trans (D13.out.mono hsz0))
      go_wp2_with fail
      go_ret
      exact ⟨rfl, BF.out⟩
    | true =>
      go_enter Tryz.func4, Tryz.ntmps4
      go_wp2_with fail
      rw [W0.out]
      go_wp2_with fail
      refine (AW.out _ D10.out).mono ?_
      rintro e w11 ⟨rfl, hb11⟩
      have D11 := hid (D10.out.trans (hb11.mono D10.out.size))
      obtain ⟨t110, t111, t112⟩ := C3.out _ D11.out
      clear hb11 t100 t101 t102
      go_wp2_with fail
      refine (FW.out _ D11.out).mono ?_
      rintro e w12 ⟨rfl, hb12⟩
      have D12 := hid (D11.out.trans (hb12.mono D11.out.size))
      obtain ⟨t120, t121, t122⟩ := C3.out _ D12.out
      clear hb12 t110 t111 t112
      go_wp2_with fail
      refine (A1.out _ D12.out).mono ?_
      rintro e w13 ⟨v13, rfl, hr13, hb13⟩
      have D13 := hid (D12.out.trans (hb13.mono D12.out.size))
      have R13 := hid hr13
      clear hr13
      obtain ⟨t130, t131, t132⟩ := C3.out _ D13.out
      clear hb13 t120 t121 t122
      go_wp2_with fail
      refine (A2.out _ D13.out).mono ?_
      rintro e w14 ⟨v14, rfl, hr14, hb14⟩
      have D14 := hid (D13.out.trans (hb14.mono D13.out.size))
      replace R13 := hid (R13.out.below hb14)
      have R14 := hid hr14
      clear hr14
      obtain ⟨t140, t141, t142⟩ := C3.out _ D14.out
      clear hb14 t130 t131 t132
      go_wp2_with fail
      refine (SA.out _ _ _ R13.out R14.out).mono ?_
      rintro e w15 ⟨rfl, hb15⟩
      have D15 := hid (D14.out.trans (hb15.mono D14.out.size))
      obtain ⟨t150, t151, t152⟩ := C3.out _ D15.out
      clear hb15 t140 t141 t142
      have BF := hid (B0.out.trans (D15.out.mono hsz0))
      go_wp2_with fail
      go_ret
      exact ⟨rfl, BF.out⟩

end Go.Proofs.YthoidncbbcpnnaaGreatDoor
