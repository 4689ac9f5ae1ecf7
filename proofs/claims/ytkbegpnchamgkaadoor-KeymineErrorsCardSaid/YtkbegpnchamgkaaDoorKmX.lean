/- The law KeymineErrors. -/
import Derived.Test.YtkbegpnchamgkaaDoorKmA
import Derived.Test.YtkbegpnchamgkaaDoorKmR6
import Derived.Test.YtkbegpnchamgkaaDoorAfter
namespace Go.Proofs.YtkbegpnchamgkaaDoor
open Go.RowKit
set_option linter.unusedVariables false

theorem rdG_nil {w : World} {v : Value} {gs : List Gp} (h : RdG w v gs) (he : gs.map (·.2) = []) : ∃ ao cap, v = .slice ao 0 cap := by
  have : gs = [] := by simpa using he
  subst this
  obtain ⟨ao, cap, rfl, -⟩ := h.1.split
  exact ⟨ao, cap, rfl⟩
attribute [local irreducible] Go.wpQuiet
set_option maxHeartbeats 6400000 in
set_option maxRecDepth 100000 in
theorem kmErrorsL (t : T3) (av rv : Value) (s : S) (w : World) (hT : Tab w) (ht : RdT w av rv t) :
    Calls Tryd.prog 5 #[.agg #[.string t.1, av, rv], .int .u32 (iv s)] w fun e w' => e = .returned (.bool true) ∧ Below w.heap.size w w' := by
  have hb0 := below_alloc w (.cells #[.string t.1, av, rv] 28)
  have C3 := hid (fun W h => cells3 (w := w) (a := .string t.1) (b := av) (c := rv) (t := 28) W h)
  have T0 := hid (ht.below hb0)
  obtain ⟨w0, hw0⟩ : ∃ w0 : World, w.alloc (.cells #[.string t.1, av, rv] 28) = w0 := ⟨_, rfl⟩
  rw [hw0] at hb0 C3 T0
  have B0 := hid hb0
  have W0 := hid hw0
  have hsz0 := hb0.size
  clear hb0 hw0
  have HT0 := hid (hT.below B0.out)
  have AW := hid (fun (W : World) (h : Below w0.heap.size w0 W) => awake29_any W (HT0.out.below h))
  have E1 := hid (fun (W : World) (h : Below w0.heap.size w0 W) => show Calls Tryd.prog 20 #[.agg #[.string t.1, av, rv], .int .i64 16, .int .u32 (iv s)] W fun e w' => e = .returned (.int .i64 (rkE t 16 s)) ∧ Below W.heap.size W w' from rerror_any t av rv 16 s W (T0.out.below h))
  have E2 := hid (fun (W : World) (h : Below w0.heap.size w0 W) => show Calls Tryd.prog 20 #[.agg #[.string t.1, av, rv], .int .i64 12, .int .u32 0] W fun e w' => e = .returned (.int .i64 (rkE t 12 0#32)) ∧ Below W.heap.size W w' from rerror_any t av rv 12 0#32 W (T0.out.below h))
  rw [rkE_full] at E1
  rw [rkE_zero] at E2
  have UQ := hid (fun (h0 : kE t s false ≠ 0) (W : World) (h : Below w0.heap.size w0 W) => kunique_any t av rv s W (T0.out.below h) (HT0.out.below h) (fun e => absurd e h0))
  have DU := hid (fun (h0 : kE t s false ≠ 0) (W : World) (h : Below w0.heap.size w0 W) => kdup_any t av rv s W (T0.out.below h) (HT0.out.below h) (fun e => absurd e h0))
  have KA := hid (fun (W : World) (h : Below w0.heap.size w0 W) => kall_any t av rv W (T0.out.below h))
  have KM := hid (fun (W : World) (h : Below w0.heap.size w0 W) => kmaximal_any t av rv W (T0.out.below h))
  have KB := hid (fun (W : World) (h : Below w0.heap.size w0 W) => kbest_any t av rv W (T0.out.below h))
  have KC := hid (fun (h0 : kE t 0#32 true ≠ 0) (W : World) (h : Below w0.heap.size w0 W) => kcheckC_any t av rv [] (.slice none 0 0) [] (.slice none 0 0) W (T0.out.below h) (RdE.nil W 0) (RdC.nil W 0) (by simp) (HT0.out.below h) (fun e => absurd e h0))
  have U1 := hid (fun (h0 : kE t s false ≠ 0) => show kuB t s = false by unfold kuB; rw [decide_eq_false h0]; rfl)
  have U2 := hid (fun (h0 : kE t s false ≠ 0) => show dupL t s = [] from if_neg h0)
  have A1 := hid (fun (h0 : kE t 0#32 true ≠ 0) => show kallL t = [] from if_neg h0)
  have A2 := hid (fun (h0 : kE t 0#32 true ≠ 0) => show kmaxL t = [] from if_neg h0)
  have A3 := hid (fun (h0 : kE t 0#32 true ≠ 0) => show bestS t = (0#32, kE t 0#32 true) from if_pos h0)
  have A4 := hid (fun (h0 : kE t 0#32 true ≠ 0) => show kchkB t [] [] = false by unfold kchkB; rw [decide_eq_false h0]; rfl)
  have D10 := hid (Below.refl w0.heap.size w0)
  generalize kuB t s = ku at *
  generalize dupL t s = dl at *
  generalize kallL t = kl at *
  generalize kmaxL t = ml at *
  generalize bestS t = bs at *
  generalize kchkB t [] [] = ck at *
  generalize kE t s false = one at *
  generalize kE t 0#32 true = al at *
  obtain ⟨t100, t101, t102⟩ := C3.out _ (Below.refl _ _)
  obtain ⟨nm, ats, rs⟩ := t
  obtain ⟨ao, acap, hva, -⟩ := T0.out.1.split
  obtain ⟨ro, rcap, hvr, -⟩ := RdR.split T0.out.2
  simp only at hva hvr
  subst hva hvr
  clear ht hT
  by_cases h20 : 20 < ats.length
  · have c20 : decide ((20 : Int) < (ats.length : Int)) = true := by rw [decide_eq_true_iff]; omega
    have c20' : decide ((ats.length : Int) > (20 : Int)) = true := by rw [decide_eq_true_iff]; omega
    clear h20
    have hr4 : rs.length ≤ 8 ∨ (8 < rs.length ∧ rs.length ≤ 200) ∨ (200 < rs.length ∧ rs.length ≤ 1100) ∨ 1100 < rs.length := by omega
    rcases hr4 with hr | hr | hr | hr
    · have d0 : decide ((8 : Int) < (rs.length : Int)) = false := by rw [decide_eq_false_iff_not]; omega
      have d1 : decide ((rs.length : Int) > (8 : Int)) = false := by rw [decide_eq_false_iff_not]; omega
      have d2 : decide ((rs.length : Int) ≤ (200 : Int)) = true := by rw [decide_eq_true_iff]; omega
      have d3 : decide ((1100 : Int) < (rs.length : Int)) = false := by rw [decide_eq_false_iff_not]; omega
      have d4 : decide ((rs.length : Int) > (1100 : Int)) = false := by rw [decide_eq_false_iff_not]; omega
      clear hr
      go_enter Tryd.func5, Tryd.ntmps5
      go_wp2_with fail
      rw [W0.out]
      go_wp2_with fail
      refine (AW.out _ D10.out).mono ?_
      rintro e w11 ⟨rfl, hb11⟩
      have D11 := hid (D10.out.trans (hb11.mono D10.out.size))
      obtain ⟨t110, t111, t112⟩ := C3.out _ D11.out
      clear hb11 t100 t101 t102
      go_wp2_with fail
      refine (AW.out _ D11.out).mono ?_
      rintro e w12 ⟨rfl, hb12⟩
      have D12 := hid (D11.out.trans (hb12.mono D11.out.size))
      obtain ⟨t120, t121, t122⟩ := C3.out _ D12.out
      clear hb12 t110 t111 t112
      have BF := hid (B0.out.trans (D12.out.mono hsz0))
      go_wp2_with fail
      go_ret
      exact ⟨rfl, BF.out⟩
    · have d0 : decide ((8 : Int) < (rs.length : Int)) = true := by rw [decide_eq_true_iff]; omega
      have d1 : decide ((rs.length : Int) > (8 : Int)) = true := by rw [decide_eq_true_iff]; omega
      have d2 : decide ((rs.length : Int) ≤ (200 : Int)) = true := by rw [decide_eq_true_iff]; omega
      have d3 : decide ((1100 : Int) < (rs.length : Int)) = false := by rw [decide_eq_false_iff_not]; omega
      have d4 : decide ((rs.length : Int) > (1100 : Int)) = false := by rw [decide_eq_false_iff_not]; omega
      clear hr
      go_enter Tryd.func5, Tryd.ntmps5
      go_wp2_with fail
      rw [W0.out]
      go_wp2_with fail
      refine (AW.out _ D10.out).mono ?_
      rintro e w11 ⟨rfl, hb11⟩
      have D11 := hid (D10.out.trans (hb11.mono D10.out.size))
      obtain ⟨t110, t111, t112⟩ := C3.out _ D11.out
      clear hb11 t100 t101 t102
      go_wp2_with fail
      refine (AW.out _ D11.out).mono ?_
      rintro e w12 ⟨rfl, hb12⟩
      have D12 := hid (D11.out.trans (hb12.mono D11.out.size))
      obtain ⟨t120, t121, t122⟩ := C3.out _ D12.out
      clear hb12 t110 t111 t112
      have BF := hid (B0.out.trans (D12.out.mono hsz0))
      go_wp2_with fail
      go_ret
      exact ⟨rfl, BF.out⟩
    · have d0 : decide ((8 : Int) < (rs.length : Int)) = true := by rw [decide_eq_true_iff]; omega
      have d1 : decide ((rs.length : Int) > (8 : Int)) = true := by rw [decide_eq_true_iff]; omega
      have d2 : decide ((rs.length : Int) ≤ (200 : Int)) = false := by rw [decide_eq_false_iff_not]; omega
      have d3 : decide ((1100 : Int) < (rs.length : Int)) = false := by rw [decide_eq_false_iff_not]; omega
      have d4 : decide ((rs.length : Int) > (1100 : Int)) = false := by rw [decide_eq_false_iff_not]; omega
      clear hr
      go_enter Tryd.func5, Tryd.ntmps5
      go_wp2_with fail
      rw [W0.out]
      go_wp2_with fail
      refine (AW.out _ D10.out).mono ?_
      rintro e w11 ⟨rfl, hb11⟩
      have D11 := hid (D10.out.trans (hb11.mono D10.out.size))
      obtain ⟨t110, t111, t112⟩ := C3.out _ D11.out
      clear hb11 t100 t101 t102
      go_wp2_with fail
      refine (AW.out _ D11.out).mono ?_
      rintro e w12 ⟨rfl, hb12⟩
      have D12 := hid (D11.out.trans (hb12.mono D11.out.size))
      obtain ⟨t120, t121, t122⟩ := C3.out _ D12.out
      clear hb12 t110 t111 t112
      have BF := hid (B0.out.trans (D12.out.mono hsz0))
      go_wp2_with fail
      go_ret
      exact ⟨rfl, BF.out⟩
    · have d0 : decide ((8 : Int) < (rs.length : Int)) = true := by rw [decide_eq_true_iff]; omega
      have d1 : decide ((rs.length : Int) > (8 : Int)) = true := by rw [decide_eq_true_iff]; omega
      have d2 : decide ((rs.length : Int) ≤ (200 : Int)) = false := by rw [decide_eq_false_iff_not]; omega
      have d3 : decide ((1100 : Int) < (rs.length : Int)) = true := by rw [decide_eq_true_iff]; omega
      have d4 : decide ((rs.length : Int) > (1100 : Int)) = true := by rw [decide_eq_true_iff]; omega
      clear hr
      go_enter Tryd.func5, Tryd.ntmps5
      go_wp2_with fail
      rw [W0.out]
      go_wp2_with fail
      refine (AW.out _ D10.out).mono ?_
      rintro e w11 ⟨rfl, hb11⟩
      have D11 := hid (D10.out.trans (hb11.mono D10.out.size))
      obtain ⟨t110, t111, t112⟩ := C3.out _ D11.out
      clear hb11 t100 t101 t102
      go_wp2_with fail
      refine (AW.out _ D11.out).mono ?_
      rintro e w12 ⟨rfl, hb12⟩
      have D12 := hid (D11.out.trans (hb12.mono D11.out.size))
      obtain ⟨t120, t121, t122⟩ := C3.out _ D12.out
      clear hb12 t110 t111 t112
      have BF := hid (B0.out.trans (D12.out.mono hsz0))
      go_wp2_with fail
      go_ret
      exact ⟨rfl, BF.out⟩
  · have c20 : decide ((20 : Int) < (ats.length : Int)) = false := by rw [decide_eq_false_iff_not]; omega
    have c20' : decide ((ats.length : Int) > (20 : Int)) = false := by rw [decide_eq_false_iff_not]; omega
    clear h20
    have hr4 : rs.length ≤ 8 ∨ (8 < rs.length ∧ rs.length ≤ 200) ∨ (200 < rs.length ∧ rs.length ≤ 1100) ∨ 1100 < rs.length := by omega
    rcases hr4 with hr | hr | hr | hr
    · have d0 : decide ((8 : Int) < (rs.length : Int)) = false := by rw [decide_eq_false_iff_not]; omega
      have d1 : decide ((rs.length : Int) > (8 : Int)) = false := by rw [decide_eq_false_iff_not]; omega
      have d2 : decide ((rs.length : Int) ≤ (200 : Int)) = true := by rw [decide_eq_true_iff]; omega
      have d3 : decide ((1100 : Int) < (rs.length : Int)) = false := by rw [decide_eq_false_iff_not]; omega
      have d4 : decide ((rs.length : Int) > (1100 : Int)) = false := by rw [decide_eq_false_iff_not]; omega
      clear hr
      by_cases h1 : one = 0
      · subst h1
        by_cases h2 : al = 0
        · subst h2
          clear UQ DU U1 U2 A1 A2 A3 A4 KA KM KB KC
          go_enter Tryd.func5, Tryd.ntmps5
          go_wp2_with fail
          rw [W0.out]
          go_wp2_with fail
          refine (AW.out _ D10.out).mono ?_
          rintro e w11 ⟨rfl, hb11⟩
          have D11 := hid (D10.out.trans (hb11.mono D10.out.size))
          obtain ⟨t110, t111, t112⟩ := C3.out _ D11.out
          clear hb11 t100 t101 t102
          have m0 : ∀ z : After w11, z.world.cell? ⟨w.heap.size, 0, none⟩ = some (.string nm) := fun z => After.cell t110 z
          have m1 : ∀ z : After w11, z.world.cell? ⟨w.heap.size, 1, none⟩ = some (.slice ao ats.length acap) := fun z => After.cell t111 z
          have m2 : ∀ z : After w11, z.world.cell? ⟨w.heap.size, 2, none⟩ = some (.slice ro rs.length rcap) := fun z => After.cell t112 z
          have E1z := hid (fun z : After w11 => Calls.after z (E1.out z.world (D11.out.trans (z.below.mono D11.out.size))))
          have E2z := hid (fun z : After w11 => Calls.after z (E2.out z.world (D11.out.trans (z.below.mono D11.out.size))))
          go_wp2_with fail
          refine wp_region_after (by kernel_rfl) (by kernel_rfl) ?_
          repeat (any_goals (quiet_step (first | (with_reducible exact E1z.out _) | (with_reducible exact E2z.out _) | exact E1z.out _ | exact E2z.out _)))
          refine wpQuiet_nil ?_
          intro w12 hb12
          have D12 := hid (D11.out.trans (hb12.mono D11.out.size))
          obtain ⟨t120, t121, t122⟩ := C3.out _ D12.out
          clear hb12 m0 m1 m2 E1z E2z t110 t111 t112
          have BF := hid (B0.out.trans (D12.out.mono hsz0))
          go_wp2_with fail
          go_ret
          exact ⟨rfl, BF.out⟩
        · have n2 : (al != (0 : Int)) = true := by simpa using h2
          have n2' : (al == (0 : Int)) = false := by simpa using h2
          replace KC := hid (KC.out h2)
          rw [A4.out h2] at KC
          rw [A1.out h2] at KA
          rw [A2.out h2] at KM
          rw [A3.out h2] at KB
          clear UQ DU U1 U2 A1 A2 A3 A4 h2
          go_enter Tryd.func5, Tryd.ntmps5
          go_wp2_with fail
          rw [W0.out]
          go_wp2_with fail
          refine (AW.out _ D10.out).mono ?_
          rintro e w11 ⟨rfl, hb11⟩
          have D11 := hid (D10.out.trans (hb11.mono D10.out.size))
          obtain ⟨t110, t111, t112⟩ := C3.out _ D11.out
          clear hb11 t100 t101 t102
          have m0 : ∀ z : After w11, z.world.cell? ⟨w.heap.size, 0, none⟩ = some (.string nm) := fun z => After.cell t110 z
          have m1 : ∀ z : After w11, z.world.cell? ⟨w.heap.size, 1, none⟩ = some (.slice ao ats.length acap) := fun z => After.cell t111 z
          have m2 : ∀ z : After w11, z.world.cell? ⟨w.heap.size, 2, none⟩ = some (.slice ro rs.length rcap) := fun z => After.cell t112 z
          have E1z := hid (fun z : After w11 => Calls.after z (E1.out z.world (D11.out.trans (z.below.mono D11.out.size))))
          have E2z := hid (fun z : After w11 => Calls.after z (E2.out z.world (D11.out.trans (z.below.mono D11.out.size))))
          go_wp2_with fail
          refine wp_region_after (by kernel_rfl) (by kernel_rfl) ?_
          repeat (any_goals (quiet_step (first | (with_reducible exact E1z.out _) | (with_reducible exact E2z.out _) | exact E1z.out _ | exact E2z.out _)))
          refine wpQuiet_nil ?_
          intro w12 hb12
          have D12 := hid (D11.out.trans (hb12.mono D11.out.size))
          obtain ⟨t120, t121, t122⟩ := C3.out _ D12.out
          clear hb12 m0 m1 m2 E1z E2z t110 t111 t112
          go_wp2_with fail
          refine (KA.out _ D12.out).mono ?_
          rintro e w13 ⟨v13, rfl, ho13, -, hb13⟩
          have D13 := hid (D12.out.trans (hb13.mono D12.out.size))
          have O13 := hid ho13
          clear ho13
          obtain ⟨t130, t131, t132⟩ := C3.out _ D13.out
          clear hb13 t120 t121 t122
          obtain ⟨xo, xcap, rfl, -⟩ := (RdE.of_owns O13.out (by simp)).split
          go_wp2_with fail
          refine (KM.out _ D13.out).mono ?_
          rintro e w14 ⟨v14, rfl, ho14, -, hb14⟩
          have D14 := hid (D13.out.trans (hb14.mono D13.out.size))
          have O14 := hid ho14
          clear ho14
          obtain ⟨t140, t141, t142⟩ := C3.out _ D14.out
          clear hb14 t130 t131 t132
          obtain ⟨yo, ycap, rfl, -⟩ := RdW.split (RdC.of_owns cW_length O14.out (by simp))
          go_wp2_with fail
          refine (KB.out _ D14.out).mono ?_
          rintro e w15 ⟨rfl, hb15⟩
          have D15 := hid (D14.out.trans (hb15.mono D14.out.size))
          obtain ⟨t150, t151, t152⟩ := C3.out _ D15.out
          clear hb15 t140 t141 t142
          go_wp2_with fail
          refine (KC.out _ D15.out).mono ?_
          rintro e w16 ⟨rfl, hb16⟩
          have D16 := hid (D15.out.trans (hb16.mono D15.out.size))
          obtain ⟨t160, t161, t162⟩ := C3.out _ D16.out
          clear hb16 t150 t151 t152
          have BF := hid (B0.out.trans (D16.out.mono hsz0))
          go_wp2_with fail
          go_ret
          exact ⟨rfl, BF.out⟩
      · have n1 : (one != (0 : Int)) = true := by simpa using h1
        replace UQ := hid (UQ.out h1)
        replace DU := hid (DU.out h1)
        rw [U1.out h1] at UQ
        rw [U2.out h1] at DU
        by_cases h2 : al = 0
        · subst h2
          clear U1 U2 A1 A2 A3 A4 KA KM KB KC h1
          go_enter Tryd.func5, Tryd.ntmps5
          go_wp2_with fail
          rw [W0.out]
          go_wp2_with fail
          refine (AW.out _ D10.out).mono ?_
          rintro e w11 ⟨rfl, hb11⟩
          have D11 := hid (D10.out.trans (hb11.mono D10.out.size))
          obtain ⟨t110, t111, t112⟩ := C3.out _ D11.out
          clear hb11 t100 t101 t102
          have m0 : ∀ z : After w11, z.world.cell? ⟨w.heap.size, 0, none⟩ = some (.string nm) := fun z => After.cell t110 z
          have m1 : ∀ z : After w11, z.world.cell? ⟨w.heap.size, 1, none⟩ = some (.slice ao ats.length acap) := fun z => After.cell t111 z
          have m2 : ∀ z : After w11, z.world.cell? ⟨w.heap.size, 2, none⟩ = some (.slice ro rs.length rcap) := fun z => After.cell t112 z
          have E1z := hid (fun z : After w11 => Calls.after z (E1.out z.world (D11.out.trans (z.below.mono D11.out.size))))
          have E2z := hid (fun z : After w11 => Calls.after z (E2.out z.world (D11.out.trans (z.below.mono D11.out.size))))
          go_wp2_with fail
          refine wp_region_after (by kernel_rfl) (by kernel_rfl) ?_
          repeat (any_goals (quiet_step (first | (with_reducible exact E1z.out _) | (with_reducible exact E2z.out _) | exact E1z.out _ | exact E2z.out _)))
          refine wpQuiet_nil ?_
          intro w12 hb12
          have D12 := hid (D11.out.trans (hb12.mono D11.out.size))
          obtain ⟨t120, t121, t122⟩ := C3.out _ D12.out
          clear hb12 m0 m1 m2 E1z E2z t110 t111 t112
          go_wp2_with fail
          refine (UQ.out _ D12.out).mono ?_
          rintro e w13 ⟨rfl, hb13⟩
          have D13 := hid (D12.out.trans (hb13.mono D12.out.size))
          obtain ⟨t130, t131, t132⟩ := C3.out _ D13.out
          clear hb13 t120 t121 t122
          go_wp2_with fail
          refine (DU.out _ D13.out).mono ?_
          rintro e w14 ⟨v14, gs, rfl, hrg, hgs, hgl, hb14⟩
          have D14 := hid (D13.out.trans (hb14.mono D13.out.size))
          obtain ⟨t140, t141, t142⟩ := C3.out _ D14.out
          clear hb14 t130 t131 t132
          obtain ⟨go, gcap, rfl⟩ := rdG_nil hrg hgs
          clear hrg hgs hgl
          have BF := hid (B0.out.trans (D14.out.mono hsz0))
          go_wp2_with fail
          go_ret
          exact ⟨rfl, BF.out⟩
        · have n2 : (al != (0 : Int)) = true := by simpa using h2
          have n2' : (al == (0 : Int)) = false := by simpa using h2
          replace KC := hid (KC.out h2)
          rw [A4.out h2] at KC
          rw [A1.out h2] at KA
          rw [A2.out h2] at KM
          rw [A3.out h2] at KB
          clear U1 U2 A1 A2 A3 A4 h1 h2
          go_enter Tryd.func5, Tryd.ntmps5
          go_wp2_with fail
          rw [W0.out]
          go_wp2_with fail
          refine (AW.out _ D10.out).mono ?_
          rintro e w11 ⟨rfl, hb11⟩
          have D11 := hid (D10.out.trans (hb11.mono D10.out.size))
          obtain ⟨t110, t111, t112⟩ := C3.out _ D11.out
          clear hb11 t100 t101 t102
          have m0 : ∀ z : After w11, z.world.cell? ⟨w.heap.size, 0, none⟩ = some (.string nm) := fun z => After.cell t110 z
          have m1 : ∀ z : After w11, z.world.cell? ⟨w.heap.size, 1, none⟩ = some (.slice ao ats.length acap) := fun z => After.cell t111 z
          have m2 : ∀ z : After w11, z.world.cell? ⟨w.heap.size, 2, none⟩ = some (.slice ro rs.length rcap) := fun z => After.cell t112 z
          have E1z := hid (fun z : After w11 => Calls.after z (E1.out z.world (D11.out.trans (z.below.mono D11.out.size))))
          have E2z := hid (fun z : After w11 => Calls.after z (E2.out z.world (D11.out.trans (z.below.mono D11.out.size))))
          go_wp2_with fail
          refine wp_region_after (by kernel_rfl) (by kernel_rfl) ?_
          repeat (any_goals (quiet_step (first | (with_reducible exact E1z.out _) | (with_reducible exact E2z.out _) | exact E1z.out _ | exact E2z.out _)))
          refine wpQuiet_nil ?_
          intro w12 hb12
          have D12 := hid (D11.out.trans (hb12.mono D11.out.size))
          obtain ⟨t120, t121, t122⟩ := C3.out _ D12.out
          clear hb12 m0 m1 m2 E1z E2z t110 t111 t112
          go_wp2_with fail
          refine (UQ.out _ D12.out).mono ?_
          rintro e w13 ⟨rfl, hb13⟩
          have D13 := hid (D12.out.trans (hb13.mono D12.out.size))
          obtain ⟨t130, t131, t132⟩ := C3.out _ D13.out
          clear hb13 t120 t121 t122
          go_wp2_with fail
          refine (DU.out _ D13.out).mono ?_
          rintro e w14 ⟨v14, gs, rfl, hrg, hgs, hgl, hb14⟩
          have D14 := hid (D13.out.trans (hb14.mono D13.out.size))
          obtain ⟨t140, t141, t142⟩ := C3.out _ D14.out
          clear hb14 t130 t131 t132
          obtain ⟨go, gcap, rfl⟩ := rdG_nil hrg hgs
          clear hrg hgs hgl
          go_wp2_with fail
          refine (KA.out _ D14.out).mono ?_
          rintro e w15 ⟨v15, rfl, ho15, -, hb15⟩
          have D15 := hid (D14.out.trans (hb15.mono D14.out.size))
          have O15 := hid ho15
          clear ho15
          obtain ⟨t150, t151, t152⟩ := C3.out _ D15.out
          clear hb15 t140 t141 t142
          obtain ⟨xo, xcap, rfl, -⟩ := (RdE.of_owns O15.out (by simp)).split
          go_wp2_with fail
          refine (KM.out _ D15.out).mono ?_
          rintro e w16 ⟨v16, rfl, ho16, -, hb16⟩
          have D16 := hid (D15.out.trans (hb16.mono D15.out.size))
          have O16 := hid ho16
          clear ho16
          obtain ⟨t160, t161, t162⟩ := C3.out _ D16.out
          clear hb16 t150 t151 t152
          obtain ⟨yo, ycap, rfl, -⟩ := RdW.split (RdC.of_owns cW_length O16.out (by simp))
          go_wp2_with fail
          refine (KB.out _ D16.out).mono ?_
          rintro e w17 ⟨rfl, hb17⟩
          have D17 := hid (D16.out.trans (hb17.mono D16.out.size))
          obtain ⟨t170, t171, t172⟩ := C3.out _ D17.out
          clear hb17 t160 t161 t162
          go_wp2_with fail
          refine (KC.out _ D17.out).mono ?_
          rintro e w18 ⟨rfl, hb18⟩
          have D18 := hid (D17.out.trans (hb18.mono D17.out.size))
          obtain ⟨t180, t181, t182⟩ := C3.out _ D18.out
          clear hb18 t170 t171 t172
          have BF := hid (B0.out.trans (D18.out.mono hsz0))
          go_wp2_with fail
          go_ret
          exact ⟨rfl, BF.out⟩
    · have d0 : decide ((8 : Int) < (rs.length : Int)) = true := by rw [decide_eq_true_iff]; omega
      have d1 : decide ((rs.length : Int) > (8 : Int)) = true := by rw [decide_eq_true_iff]; omega
      have d2 : decide ((rs.length : Int) ≤ (200 : Int)) = true := by rw [decide_eq_true_iff]; omega
      have d3 : decide ((1100 : Int) < (rs.length : Int)) = false := by rw [decide_eq_false_iff_not]; omega
      have d4 : decide ((rs.length : Int) > (1100 : Int)) = false := by rw [decide_eq_false_iff_not]; omega
      clear hr
      go_enter Tryd.func5, Tryd.ntmps5
      go_wp2_with fail
      rw [W0.out]
      go_wp2_with fail
      refine (AW.out _ D10.out).mono ?_
      rintro e w11 ⟨rfl, hb11⟩
      have D11 := hid (D10.out.trans (hb11.mono D10.out.size))
      obtain ⟨t110, t111, t112⟩ := C3.out _ D11.out
      clear hb11 t100 t101 t102
      go_wp2_with fail
      refine (AW.out _ D11.out).mono ?_
      rintro e w12 ⟨rfl, hb12⟩
      have D12 := hid (D11.out.trans (hb12.mono D11.out.size))
      obtain ⟨t120, t121, t122⟩ := C3.out _ D12.out
      clear hb12 t110 t111 t112
      have BF := hid (B0.out.trans (D12.out.mono hsz0))
      go_wp2_with fail
      go_ret
      exact ⟨rfl, BF.out⟩
    · have d0 : decide ((8 : Int) < (rs.length : Int)) = true := by rw [decide_eq_true_iff]; omega
      have d1 : decide ((rs.length : Int) > (8 : Int)) = true := by rw [decide_eq_true_iff]; omega
      have d2 : decide ((rs.length : Int) ≤ (200 : Int)) = false := by rw [decide_eq_false_iff_not]; omega
      have d3 : decide ((1100 : Int) < (rs.length : Int)) = false := by rw [decide_eq_false_iff_not]; omega
      have d4 : decide ((rs.length : Int) > (1100 : Int)) = false := by rw [decide_eq_false_iff_not]; omega
      clear hr
      by_cases h1 : one = 0
      · subst h1
        by_cases h2 : al = 0
        · subst h2
          clear UQ DU U1 U2 A1 A2 A3 A4 KA KM KB KC
          go_enter Tryd.func5, Tryd.ntmps5
          go_wp2_with fail
          rw [W0.out]
          go_wp2_with fail
          refine (AW.out _ D10.out).mono ?_
          rintro e w11 ⟨rfl, hb11⟩
          have D11 := hid (D10.out.trans (hb11.mono D10.out.size))
          obtain ⟨t110, t111, t112⟩ := C3.out _ D11.out
          clear hb11 t100 t101 t102
          have m0 : ∀ z : After w11, z.world.cell? ⟨w.heap.size, 0, none⟩ = some (.string nm) := fun z => After.cell t110 z
          have m1 : ∀ z : After w11, z.world.cell? ⟨w.heap.size, 1, none⟩ = some (.slice ao ats.length acap) := fun z => After.cell t111 z
          have m2 : ∀ z : After w11, z.world.cell? ⟨w.heap.size, 2, none⟩ = some (.slice ro rs.length rcap) := fun z => After.cell t112 z
          have E1z := hid (fun z : After w11 => Calls.after z (E1.out z.world (D11.out.trans (z.below.mono D11.out.size))))
          have E2z := hid (fun z : After w11 => Calls.after z (E2.out z.world (D11.out.trans (z.below.mono D11.out.size))))
          go_wp2_with fail
          refine wp_region_after (by kernel_rfl) (by kernel_rfl) ?_
          repeat (any_goals (quiet_step (first | (with_reducible exact E1z.out _) | (with_reducible exact E2z.out _) | exact E1z.out _ | exact E2z.out _)))
          refine wpQuiet_nil ?_
          intro w12 hb12
          have D12 := hid (D11.out.trans (hb12.mono D11.out.size))
          obtain ⟨t120, t121, t122⟩ := C3.out _ D12.out
          clear hb12 m0 m1 m2 E1z E2z t110 t111 t112
          have BF := hid (B0.out.trans (D12.out.mono hsz0))
          go_wp2_with fail
          go_ret
          exact ⟨rfl, BF.out⟩
        · have n2 : (al != (0 : Int)) = true := by simpa using h2
          have n2' : (al == (0 : Int)) = false := by simpa using h2
          replace KC := hid (KC.out h2)
          rw [A4.out h2] at KC
          rw [A1.out h2] at KA
          rw [A2.out h2] at KM
          rw [A3.out h2] at KB
          clear UQ DU U1 U2 A1 A2 A3 A4 h2
          go_enter Tryd.func5, Tryd.ntmps5
          go_wp2_with fail
          rw [W0.out]
          go_wp2_with fail
          refine (AW.out _ D10.out).mono ?_
          rintro e w11 ⟨rfl, hb11⟩
          have D11 := hid (D10.out.trans (hb11.mono D10.out.size))
          obtain ⟨t110, t111, t112⟩ := C3.out _ D11.out
          clear hb11 t100 t101 t102
          have m0 : ∀ z : After w11, z.world.cell? ⟨w.heap.size, 0, none⟩ = some (.string nm) := fun z => After.cell t110 z
          have m1 : ∀ z : After w11, z.world.cell? ⟨w.heap.size, 1, none⟩ = some (.slice ao ats.length acap) := fun z => After.cell t111 z
          have m2 : ∀ z : After w11, z.world.cell? ⟨w.heap.size, 2, none⟩ = some (.slice ro rs.length rcap) := fun z => After.cell t112 z
          have E1z := hid (fun z : After w11 => Calls.after z (E1.out z.world (D11.out.trans (z.below.mono D11.out.size))))
          have E2z := hid (fun z : After w11 => Calls.after z (E2.out z.world (D11.out.trans (z.below.mono D11.out.size))))
          go_wp2_with fail
          refine wp_region_after (by kernel_rfl) (by kernel_rfl) ?_
          repeat (any_goals (quiet_step (first | (with_reducible exact E1z.out _) | (with_reducible exact E2z.out _) | exact E1z.out _ | exact E2z.out _)))
          refine wpQuiet_nil ?_
          intro w12 hb12
          have D12 := hid (D11.out.trans (hb12.mono D11.out.size))
          obtain ⟨t120, t121, t122⟩ := C3.out _ D12.out
          clear hb12 m0 m1 m2 E1z E2z t110 t111 t112
          go_wp2_with fail
          refine (KA.out _ D12.out).mono ?_
          rintro e w13 ⟨v13, rfl, ho13, -, hb13⟩
          have D13 := hid (D12.out.trans (hb13.mono D12.out.size))
          have O13 := hid ho13
          clear ho13
          obtain ⟨t130, t131, t132⟩ := C3.out _ D13.out
          clear hb13 t120 t121 t122
          obtain ⟨xo, xcap, rfl, -⟩ := (RdE.of_owns O13.out (by simp)).split
          go_wp2_with fail
          refine (KM.out _ D13.out).mono ?_
          rintro e w14 ⟨v14, rfl, ho14, -, hb14⟩
          have D14 := hid (D13.out.trans (hb14.mono D13.out.size))
          have O14 := hid ho14
          clear ho14
          obtain ⟨t140, t141, t142⟩ := C3.out _ D14.out
          clear hb14 t130 t131 t132
          obtain ⟨yo, ycap, rfl, -⟩ := RdW.split (RdC.of_owns cW_length O14.out (by simp))
          go_wp2_with fail
          refine (KB.out _ D14.out).mono ?_
          rintro e w15 ⟨rfl, hb15⟩
          have D15 := hid (D14.out.trans (hb15.mono D14.out.size))
          obtain ⟨t150, t151, t152⟩ := C3.out _ D15.out
          clear hb15 t140 t141 t142
          go_wp2_with fail
          refine (KC.out _ D15.out).mono ?_
          rintro e w16 ⟨rfl, hb16⟩
          have D16 := hid (D15.out.trans (hb16.mono D15.out.size))
          obtain ⟨t160, t161, t162⟩ := C3.out _ D16.out
          clear hb16 t150 t151 t152
          have BF := hid (B0.out.trans (D16.out.mono hsz0))
          go_wp2_with fail
          go_ret
          exact ⟨rfl, BF.out⟩
      · have n1 : (one != (0 : Int)) = true := by simpa using h1
        replace UQ := hid (UQ.out h1)
        replace DU := hid (DU.out h1)
        rw [U1.out h1] at UQ
        rw [U2.out h1] at DU
        by_cases h2 : al = 0
        · subst h2
          clear U1 U2 A1 A2 A3 A4 KA KM KB KC h1
          go_enter Tryd.func5, Tryd.ntmps5
          go_wp2_with fail
          rw [W0.out]
          go_wp2_with fail
          refine (AW.out _ D10.out).mono ?_
          rintro e w11 ⟨rfl, hb11⟩
          have D11 := hid (D10.out.trans (hb11.mono D10.out.size))
          obtain ⟨t110, t111, t112⟩ := C3.out _ D11.out
          clear hb11 t100 t101 t102
          have m0 : ∀ z : After w11, z.world.cell? ⟨w.heap.size, 0, none⟩ = some (.string nm) := fun z => After.cell t110 z
          have m1 : ∀ z : After w11, z.world.cell? ⟨w.heap.size, 1, none⟩ = some (.slice ao ats.length acap) := fun z => After.cell t111 z
          have m2 : ∀ z : After w11, z.world.cell? ⟨w.heap.size, 2, none⟩ = some (.slice ro rs.length rcap) := fun z => After.cell t112 z
          have E1z := hid (fun z : After w11 => Calls.after z (E1.out z.world (D11.out.trans (z.below.mono D11.out.size))))
          have E2z := hid (fun z : After w11 => Calls.after z (E2.out z.world (D11.out.trans (z.below.mono D11.out.size))))
          go_wp2_with fail
          refine wp_region_after (by kernel_rfl) (by kernel_rfl) ?_
          repeat (any_goals (quiet_step (first | (with_reducible exact E1z.out _) | (with_reducible exact E2z.out _) | exact E1z.out _ | exact E2z.out _)))
          refine wpQuiet_nil ?_
          intro w12 hb12
          have D12 := hid (D11.out.trans (hb12.mono D11.out.size))
          obtain ⟨t120, t121, t122⟩ := C3.out _ D12.out
          clear hb12 m0 m1 m2 E1z E2z t110 t111 t112
          go_wp2_with fail
          refine (UQ.out _ D12.out).mono ?_
          rintro e w13 ⟨rfl, hb13⟩
          have D13 := hid (D12.out.trans (hb13.mono D12.out.size))
          obtain ⟨t130, t131, t132⟩ := C3.out _ D13.out
          clear hb13 t120 t121 t122
          go_wp2_with fail
          refine (DU.out _ D13.out).mono ?_
          rintro e w14 ⟨v14, gs, rfl, hrg, hgs, hgl, hb14⟩
          have D14 := hid (D13.out.trans (hb14.mono D13.out.size))
          obtain ⟨t140, t141, t142⟩ := C3.out _ D14.out
          clear hb14 t130 t131 t132
          obtain ⟨go, gcap, rfl⟩ := rdG_nil hrg hgs
          clear hrg hgs hgl
          have BF := hid (B0.out.trans (D14.out.mono hsz0))
          go_wp2_with fail
          go_ret
          exact ⟨rfl, BF.out⟩
        · have n2 : (al != (0 : Int)) = true := by simpa using h2
          have n2' : (al == (0 : Int)) = false := by simpa using h2
          replace KC := hid (KC.out h2)
          rw [A4.out h2] at KC
          rw [A1.out h2] at KA
          rw [A2.out h2] at KM
          rw [A3.out h2] at KB
          clear U1 U2 A1 A2 A3 A4 h1 h2
          go_enter Tryd.func5, Tryd.ntmps5
          go_wp2_with fail
          rw [W0.out]
          go_wp2_with fail
          refine (AW.out _ D10.out).mono ?_
          rintro e w11 ⟨rfl, hb11⟩
          have D11 := hid (D10.out.trans (hb11.mono D10.out.size))
          obtain ⟨t110, t111, t112⟩ := C3.out _ D11.out
          clear hb11 t100 t101 t102
          have m0 : ∀ z : After w11, z.world.cell? ⟨w.heap.size, 0, none⟩ = some (.string nm) := fun z => After.cell t110 z
          have m1 : ∀ z : After w11, z.world.cell? ⟨w.heap.size, 1, none⟩ = some (.slice ao ats.length acap) := fun z => After.cell t111 z
          have m2 : ∀ z : After w11, z.world.cell? ⟨w.heap.size, 2, none⟩ = some (.slice ro rs.length rcap) := fun z => After.cell t112 z
          have E1z := hid (fun z : After w11 => Calls.after z (E1.out z.world (D11.out.trans (z.below.mono D11.out.size))))
          have E2z := hid (fun z : After w11 => Calls.after z (E2.out z.world (D11.out.trans (z.below.mono D11.out.size))))
          go_wp2_with fail
          refine wp_region_after (by kernel_rfl) (by kernel_rfl) ?_
          repeat (any_goals (quiet_step (first | (with_reducible exact E1z.out _) | (with_reducible exact E2z.out _) | exact E1z.out _ | exact E2z.out _)))
          refine wpQuiet_nil ?_
          intro w12 hb12
          have D12 := hid (D11.out.trans (hb12.mono D11.out.size))
          obtain ⟨t120, t121, t122⟩ := C3.out _ D12.out
          clear hb12 m0 m1 m2 E1z E2z t110 t111 t112
          go_wp2_with fail
          refine (UQ.out _ D12.out).mono ?_
          rintro e w13 ⟨rfl, hb13⟩
          have D13 := hid (D12.out.trans (hb13.mono D12.out.size))
          obtain ⟨t130, t131, t132⟩ := C3.out _ D13.out
          clear hb13 t120 t121 t122
          go_wp2_with fail
          refine (DU.out _ D13.out).mono ?_
          rintro e w14 ⟨v14, gs, rfl, hrg, hgs, hgl, hb14⟩
          have D14 := hid (D13.out.trans (hb14.mono D13.out.size))
          obtain ⟨t140, t141, t142⟩ := C3.out _ D14.out
          clear hb14 t130 t131 t132
          obtain ⟨go, gcap, rfl⟩ := rdG_nil hrg hgs
          clear hrg hgs hgl
          go_wp2_with fail
          refine (KA.out _ D14.out).mono ?_
          rintro e w15 ⟨v15, rfl, ho15, -, hb15⟩
          have D15 := hid (D14.out.trans (hb15.mono D14.out.size))
          have O15 := hid ho15
          clear ho15
          obtain ⟨t150, t151, t152⟩ := C3.out _ D15.out
          clear hb15 t140 t141 t142
          obtain ⟨xo, xcap, rfl, -⟩ := (RdE.of_owns O15.out (by simp)).split
          go_wp2_with fail
          refine (KM.out _ D15.out).mono ?_
          rintro e w16 ⟨v16, rfl, ho16, -, hb16⟩
          have D16 := hid (D15.out.trans (hb16.mono D15.out.size))
          have O16 := hid ho16
          clear ho16
          obtain ⟨t160, t161, t162⟩ := C3.out _ D16.out
          clear hb16 t150 t151 t152
          obtain ⟨yo, ycap, rfl, -⟩ := RdW.split (RdC.of_owns cW_length O16.out (by simp))
          go_wp2_with fail
          refine (KB.out _ D16.out).mono ?_
          rintro e w17 ⟨rfl, hb17⟩
          have D17 := hid (D16.out.trans (hb17.mono D16.out.size))
          obtain ⟨t170, t171, t172⟩ := C3.out _ D17.out
          clear hb17 t160 t161 t162
          go_wp2_with fail
          refine (KC.out _ D17.out).mono ?_
          rintro e w18 ⟨rfl, hb18⟩
          have D18 := hid (D17.out.trans (hb18.mono D17.out.size))
          obtain ⟨t180, t181, t182⟩ := C3.out _ D18.out
          clear hb18 t170 t171 t172
          have BF := hid (B0.out.trans (D18.out.mono hsz0))
          go_wp2_with fail
          go_ret
          exact ⟨rfl, BF.out⟩
    · have d0 : decide ((8 : Int) < (rs.length : Int)) = true := by rw [decide_eq_true_iff]; omega
      have d1 : decide ((rs.length : Int) > (8 : Int)) = true := by rw [decide_eq_true_iff]; omega
      have d2 : decide ((rs.length : Int) ≤ (200 : Int)) = false := by rw [decide_eq_false_iff_not]; omega
      have d3 : decide ((1100 : Int) < (rs.length : Int)) = true := by rw [decide_eq_true_iff]; omega
      have d4 : decide ((rs.length : Int) > (1100 : Int)) = true := by rw [decide_eq_true_iff]; omega
      clear hr
      go_enter Tryd.func5, Tryd.ntmps5
      go_wp2_with fail
      rw [W0.out]
      go_wp2_with fail
      refine (AW.out _ D10.out).mono ?_
      rintro e w11 ⟨rfl, hb11⟩
      have D11 := hid (D10.out.trans (hb11.mono D10.out.size))
      obtain ⟨t110, t111, t112⟩ := C3.out _ D11.out
      clear hb11 t100 t101 t102
      go_wp2_with fail
      refine (AW.out _ D11.out).mono ?_
      rintro e w12 ⟨rfl, hb12⟩
      have D12 := hid (D11.out.trans (hb12.mono D11.out.size))
      obtain ⟨t120, t121, t122⟩ := C3.out _ D12.out
      clear hb12 t110 t111 t112
      have BF := hid (B0.out.trans (D12.out.mono hsz0))
      go_wp2_with fail
      go_ret
      exact ⟨rfl, BF.out⟩

end Go.Proofs.YtkbegpnchamgkaaDoor
