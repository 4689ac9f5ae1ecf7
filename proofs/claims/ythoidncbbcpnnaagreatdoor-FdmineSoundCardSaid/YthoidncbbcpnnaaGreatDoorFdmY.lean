/- The law FdmineFor. -/
import Derived.Test.YthoidncbbcpnnaaGreatDoorFdmW
import Derived.Test.YthoidncbbcpnnaaGreatDoorGFdmC
import Derived.Test.YthoidncbbcpnnaaGreatDoorKmG
import Derived.Test.YthoidncbbcpnnaaGreatDoorFdmV
namespace Go.Proofs.YthoidncbbcpnnaaGreatDoor
open Go.RowKit
set_option linter.unusedVariables false

theorem forR_len (t : T3) (a : Int) : (forR t a).length ≤ 65536 := by
  unfold forR
  split
  · rename_i h
    obtain ⟨hE, n, rfl, hn⟩ := faE_ok h
    rw [Int.toNat_natCast]
    have := (fE_ok hE).2.1
    exact forL_len (by omega) (by omega)
  · simp
theorem evdR_len {t : T3} (a : Int) (h : t.2.2.length ≤ 200) : (evdR t a).length ≤ 40000 := by
  unfold evdR
  split
  · rw [List.length_map]; exact maxL_len2 t a h
  · simp
theorem few_rows {t : T3} (h : few28 t = true) (h0 : fE t = 0) : t.2.2.length ≤ 8 := by
  unfold few28 at h
  rw [h0] at h
  simp at h
  exact h.1
theorem chk_forR {t : T3} (a : Int) (h : few28 t = true) : fchkB t a (forR t a) (evdR t a) = decide (faE t a = 0) := by
  by_cases h0 : faE t a = 0
  · rw [decide_eq_true h0]
    exact chk_for h0 (by have := few_rows h (faE_ok h0).1; omega)
  · unfold fchkB
    rw [decide_eq_false h0, Bool.false_and]
theorem evdR_len2 {t : T3} (a : Int) : (evdR t a).length ≤ 40000 := by
  by_cases h0 : faE t a = 0
  · exact evdR_len a (fE_ok (faE_ok h0).1).2.2
  · unfold evdR; rw [if_neg h0]; simp

set_option maxHeartbeats 6400000 in
set_option maxRecDepth 100000 in
theorem fForL (t : T3) (av rv : Value) (a : Int) (w : World) (hT : Tab w) (ht : RdT w av rv t) (hn : ∀ r ∈ t.2.2, ∀ y ∈ r.2.2, -9223372036854775808 ≤ y.2.1 ∧ y.2.1 < 9223372036854775808) :
    Calls Tryz.prog 5 #[.agg #[.string t.1, av, rv], .int .i64 a] w fun e w' => e = .returned (.bool true) ∧ Below w.heap.size w w' := by
  have hb0 := below_alloc w (.cells #[.string t.1, av, rv] 25)
  have C3 := hid (fun W h => cells3 (w := w) (a := .string t.1) (b := av) (c := rv) (t := 25) W h)
  have T0 := hid (ht.below hb0)
  obtain ⟨w0, hw0⟩ : ∃ w0 : World, w.alloc (.cells #[.string t.1, av, rv] 25) = w0 := ⟨_, rfl⟩
  rw [hw0] at hb0 C3 T0
  have B0 := hid hb0
  have W0 := hid hw0
  have hsz0 := hb0.size
  clear hb0 hw0
  have HT0 := hid (hT.below B0.out)
  have AW := hid (fun (W : World) (h : Below w0.heap.size w0 W) => awake28_any W (HT0.out.below h))
  have FW := hid (fun (W : World) (h : Below w0.heap.size w0 W) => few_28 t av rv W (T0.out.below h))
  have A1 := hid (fun (W : World) (h : Below w0.heap.size w0 W) => fFor_any t av rv a W (T0.out.below h) (HT0.out.below h) (fun h0 => okT_f h0 hn))
  have A2 := hid (fun (W : World) (h : Below w0.heap.size w0 W) => rFor_any t av rv a W (T0.out.below h))
  have A3 := hid (fun (W : World) (h : Below w0.heap.size w0 W) => fevd_any t av rv a W (T0.out.below h) (HT0.out.below h))
  have A4 := hid (fun (W : World) (h : Below w0.heap.size w0 W) => revd_any t av rv a W (T0.out.below h))
  have L1 := hid (forR_len t a)
  have L2 := hid (evdR_len2 (t := t) a)
  have CK := hid (fun (u v : Value) (W : World) (h : Below w0.heap.size w0 W) (hu : RdE enc W u (forR t a)) (hv : RdW W v (evdR t a)) => fchk_any t av rv a (forR t a) u (evdR t a) v W (T0.out.below h) (HT0.out.below h) (fun h0 => okT_f h0 hn) hu hv (Nat.le_trans L1.out (by decide)) (Nat.le_trans L2.out (by decide)))
  have CE := hid (fun (h : few28 t = true) => chk_forR a h)
  have SA := hid (fun (u v : Value) (W : World) (hu : RdE enc W u (forR t a)) (hv : RdE enc W v (forR t a)) => ssame_any (forR t a) u v W hu hv)
  have SW := hid (fun (u v : Value) (W : World) (hu : RdW W u (evdR t a)) (hv : RdW W v (evdR t a)) => wsame28_any (evdR t a) u v W hu hv)
  have D10 := hid (Below.refl w0.heap.size w0)
  generalize fchkB t a (forR t a) (evdR t a) = ck at *
  generalize forR t a = fl at *
  generalize evdR t a = el at *
  generalize faE t a = fe at *
  have hfe : (fe == fe) = true := by simp
  generalize few28 t = fw at *
  obtain ⟨t100, t101, t102⟩ := C3.out _ (Below.refl _ _)
  obtain ⟨nm, ats, rs⟩ := t
  obtain ⟨ao, acap, hva, -⟩ := T0.out.1.split
  obtain ⟨ro, rcap, hvr, -⟩ := RdR.split T0.out.2
  simp only at hva hvr
  subst hva hvr
  clear ht hT hn
  by_cases hr : 300 < rs.length
  · have c0 : decide ((300 : Int) < (rs.length : Int)) = true := by rw [decide_eq_true_iff]; omega
    have c1 : decide ((rs.length : Int) > (300 : Int)) = true := by rw [decide_eq_true_iff]; omega
    have HR := hid hr
    clear hr
    go_enter Tryz.func5, Tryz.ntmps5
    go_wp2_with fail
    rw [W0.out]
    go_wp2_with fail
    refine (AW.out _ D10.out).mono ?_
    rintro e w11 ⟨rfl, hb11⟩
    have D11 := hid (D10.out.trans (hb11.mono D10.out.size))
    obtain ⟨t110, t111, t112⟩ := C3.out _ D11.out
    clear hb11 t100 t101 t102
    go_wp2_with fail
    refine (AW.out _ D11.out).mono ?_
    rintro e w12 ⟨rfl, hb12⟩
    have D12 := hid (D11.out.trans (hb12.mono D11.out.size))
    obtain ⟨t120, t121, t122⟩ := C3.out _ D12.out
    clear hb12 t110 t111 t112
    have BF := hid (B0.out.trans (D12.out.mono hsz0))
    go_wp2_with fail
    go_ret
    exact ⟨rfl, BF.out⟩
  · have c0 : decide ((300 : Int) < (rs.length : Int)) = false := by rw [decide_eq_false_iff_not]; omega
    have c1 : decide ((rs.length : Int) > (300 : Int)) = false := by rw [decide_eq_false_iff_not]; omega
    have HR := hid hr
    clear hr
    cases fw with
    | false =>
      go_enter Tryz.func5, Tryz.ntmps5
      go_wp2_with fail
      rw [W0.out]
      go_wp2_with fail
      refine (AW.out _ D10.out).mono ?_
      rintro e w11 ⟨rfl, hb11⟩
      have D11 := hid (D10.out.trans (hb11.mono D10.out.size))
      obtain ⟨t110, t111, t112⟩ := C3.out _ D11.out
      clear hb11 t100 t101 t102
      go_wp2_with fail
      refine (FW.out _ D11.out).mono ?_
      rintro e w12 ⟨rfl, hb12⟩
      have D12 := hid (D11.out.trans (hb12.mono D11.out.size))
      obtain ⟨t120, t121, t122⟩ := C3.out _ D12.out
      clear hb12 t110 t111 t112
      go_wp2_with fail
      refine (AW.out _ D12.out).mono ?_
      rintro e w13 ⟨rfl, hb13⟩
      have D13 := hid (D12.out.trans (hb13.mono D12.out.size))
      obtain ⟨t130, t131, t132⟩ := C3.out _ D13.out
      clear hb13 t120 t121 t122
      have BF := hid (B0.out.trans (D13.out.mono hsz0))
      go_wp2_with fail
      go_ret
      exact ⟨rfl, BF.out⟩
    | true =>
      go_enter Tryz.func5, Tryz.ntmps5
      go_wp2_with fail
      rw [W0.out]
      go_wp2_with fail
      refine (AW.out _ D10.out).mono ?_
      rintro e w11 ⟨rfl, hb11⟩
      have D11 := hid (D10.out.trans (hb11.mono D10.out.size))
      obtain ⟨t110, t111, t112⟩ := C3.out _ D11.out
      clear hb11 t100 t101 t102
      go_wp2_with fail
      refine (FW.out _ D11.out).mono ?_
      rintro e w12 ⟨rfl, hb12⟩
      have D12 := hid (D11.out.trans (hb12.mono D11.out.size))
      obtain ⟨t120, t121, t122⟩ := C3.out _ D12.out
      clear hb12 t110 t111 t112
      go_wp2_with fail
      refine (A1.out _ D12.out).mono ?_
      rintro e w13 ⟨v13, rfl, ho13, hb13⟩
      have D13 := hid (D12.out.trans (hb13.mono D12.out.size))
      obtain ⟨t130, t131, t132⟩ := C3.out _ D13.out
      clear hb13 t120 t121 t122
      have R13 := hid (RdE.of_owns ho13 (by have := L1.out; omega))
      clear ho13
      go_wp2_with fail
      refine (A2.out _ D13.out).mono ?_
      rintro e w14 ⟨v14, rfl, ho14, hb14⟩
      have D14 := hid (D13.out.trans (hb14.mono D13.out.size))
      replace R13 := hid (R13.out.below hb14)
      obtain ⟨t140, t141, t142⟩ := C3.out _ D14.out
      clear hb14 t130 t131 t132
      have R14 := hid (RdE.of_owns ho14 (by have := L1.out; omega))
      clear ho14
      go_wp2_with fail
      refine (A3.out _ D14.out).mono ?_
      rintro e w15 ⟨v15, rfl, hr15, hb15⟩
      have D15 := hid (D14.out.trans (hb15.mono D14.out.size))
      replace R13 := hid (R13.out.below hb15)
      replace R14 := hid (R14.out.below hb15)
      have R15 := hid hr15
      clear hr15
      obtain ⟨t150, t151, t152⟩ := C3.out _ D15.out
      clear hb15 t140 t141 t142
      go_wp2_with fail
      refine (A4.out _ D15.out).mono ?_
      rintro e w16 ⟨v16, rfl, hr16, hb16⟩
      have D16 := hid (D15.out.trans (hb16.mono D15.out.size))
      replace R13 := hid (R13.out.below hb16)
      replace R14 := hid (R14.out.below hb16)
      replace R15 := hid (R15.out.below hb16)
      have R16 := hid hr16
      clear hr16
      obtain ⟨t160, t161, t162⟩ := C3.out _ D16.out
      clear hb16 t150 t151 t152
      go_wp2_with fail
      refine (SA.out _ _ _ R13.out R14.out).mono ?_
      rintro e w17 ⟨rfl, hb17⟩
      have D17 := hid (D16.out.trans (hb17.mono D16.out.size))
      replace R13 := hid (R13.out.below hb17)
      replace R15 := hid (R15.out.below hb17)
      replace R16 := hid (R16.out.below hb17)
      obtain ⟨t170, t171, t172⟩ := C3.out _ D17.out
      clear hb17 t160 t161 t162
      go_wp2_with fail
      refine (SW.out _ _ _ R15.out R16.out).mono ?_
      rintro e w18 ⟨rfl, hb18⟩
      have D18 := hid (D17.out.trans (hb18.mono D17.out.size))
      replace R13 := hid (R13.out.below hb18)
      replace R15 := hid (R15.out.below hb18)
      obtain ⟨t180, t181, t182⟩ := C3.out _ D18.out
      clear hb18 t170 t171 t172
      go_wp2_with fail
      refine (CK.out _ _ _ D18.out R13.out R15.out).mono ?_
      rintro e w19 ⟨rfl, hb19⟩
      have D19 := hid (D18.out.trans (hb19.mono D18.out.size))
      obtain ⟨t190, t191, t192⟩ := C3.out _ D19.out
      clear hb19 t180 t181 t182
      have BF := hid (B0.out.trans (D19.out.mono hsz0))
      have CV := CE.out (by first | rfl | trivial)
      by_cases h0 : fe = 0
      · subst h0
        have CV2 : ck = true := by rw [CV]; rfl
        subst CV2
        clear CV
        go_wp2_with fail
        go_ret
        exact ⟨rfl, BF.out⟩
      · have CV2 : ck = false := by rw [CV, decide_eq_false h0]
        subst CV2
        have hne : (fe == 0) = false := beq_eq_false_iff_ne.2 h0
        clear CV
        go_wp2_with fail
        go_ret
        exact ⟨rfl, BF.out⟩

end Go.Proofs.YthoidncbbcpnnaaGreatDoor
