/- The walks of fdmine.Cover and drossref28.Cover; the law FdmineCover. -/
import Derived.Test.YthoidncbbcpnnaaGreatDoorFdmW
import Derived.Test.YthoidncbbcpnnaaGreatDoorGFdmC
import Derived.Test.YthoidncbbcpnnaaGreatDoorKmG
import Derived.Test.YthoidncbbcpnnaaGreatDoorFdmV
import Derived.Test.YthoidncbbcpnnaaGreatDoorGCovM
namespace Go.Proofs.YthoidncbbcpnnaaGreatDoor
open Go.RowKit
set_option linter.unusedVariables false

noncomputable def covE (t : T3) : Int := if fE t ≠ 0 then fE t else validF (t.2.1.length : Int) (allR t)
noncomputable def covR (t : T3) : List F := if fE t = 0 then mergeF (resM (t.2.1.length : Int) (allR t)) else []
theorem mergeF_len (l : List F) : (mergeF l).length ≤ l.length := by
  unfold mergeF
  rw [List.length_map]
  have := ordS_length (l.map (·.1))
  rwa [List.length_map] at this
theorem covR_len (t : T3) : (covR t).length ≤ 2048 := by
  unfold covR
  split
  · exact Nat.le_trans (mergeF_len _) (resM_length _ _)
  · simp
set_option maxHeartbeats 1600000 in
set_option maxRecDepth 100000 in
theorem fcover_any (t : T3) (av rv : Value) (w : World) (ht : RdT w av rv t) (hT : Tab w) (hok : fE t = 0 → okT t) :
    Calls Tryz.prog 29 #[.agg #[.string t.1, av, rv]] w fun e w' => ∃ v', e = .returned (.tuple #[v', .int .i64 (covE t)]) ∧ RdF w' v' (covR t) ∧ Below w.heap.size w w' := by
  have hb0 := below_alloc w (.cells #[.string t.1, av, rv] 25)
  have C3 := hid (fun W h => cells3 (w := w) (a := .string t.1) (b := av) (c := rv) (t := 25) W h)
  have T0 := hid (ht.below hb0)
  obtain ⟨w0, hw0⟩ : ∃ w0 : World, w.alloc (.cells #[.string t.1, av, rv] 25) = w0 := ⟨_, rfl⟩
  rw [hw0] at hb0 C3 T0
  have B0 := hid hb0
  have W0 := hid hw0
  have hsz0 := hb0.size
  clear hb0 hw0
  have AL := hid (fun (W : World) (h : Below w0.heap.size w0 W) => fall_any t av rv W (T0.out.below h) ((hT.below B0.out).below h) hok)
  obtain ⟨c0, c1, c2⟩ := C3.out _ (Below.refl _ _)
  by_cases h0 : fE t = 0
  · have e1 : covE t = validF (t.2.1.length : Int) (allR t) := by unfold covE; rw [if_neg (by simpa using h0)]
    have e2 : covR t = mergeF (resM (t.2.1.length : Int) (allR t)) := by unfold covR; rw [if_pos h0]
    have CL := hid (covR_len t)
    rw [e2] at CL
    rw [e1, e2]
    have CA := hid (fun (u : Value) (W : World) (h : Below w0.heap.size w0 W) (hu : RdF W u (allR t)) => canonical_any (t.2.1.length : Int) (allR t) u W ((hT.below B0.out).below h) hu)
    rw [h0] at AL
    obtain ⟨nm, ats, rs⟩ := t
    obtain ⟨ao, acap, hva, -⟩ := T0.out.1.split
    simp only at hva CA CL
    subst hva
    show Calls _ _ _ _ fun e w' => ∃ v', e = .returned (.tuple #[v', .int .i64 (validF (ats.length : Int) (allR (nm, ats, rs)))]) ∧ RdF w' v' (mergeF (resM (ats.length : Int) (allR (nm, ats, rs)))) ∧ Below w.heap.size w w'
    generalize validF (ats.length : Int) (allR (nm, ats, rs)) = ve at *
    generalize mergeF (resM (ats.length : Int) (allR (nm, ats, rs))) = mg at *
    generalize allR (nm, ats, rs) = ar at *
    clear ht h0 e1 e2 hT hok
    go_enter Tryz.func29, Tryz.ntmps29
    go_wp2_with fail
    rw [W0.out]
    go_wp2_with fail
    refine (AL.out _ (Below.refl _ _)).mono ?_
    rintro e w1 ⟨v1, rfl, hr1, hb1⟩
    have D1 := hid hb1
    have R1 := hid hr1
    clear hb1 hr1 c0 c1 c2
    obtain ⟨c0, c1, c2⟩ := C3.out _ D1.out
    go_wp2_with fail
    refine (CA.out v1 w1 D1.out R1.out).mono ?_
    rintro e w2 ⟨v2, rfl, ho2, hb2⟩
    have R2 := hid (RdC.of_owns cF_length ho2 (by have := CL.out; omega))
    have BF := hid (B0.out.trans ((D1.out.trans (hb2.mono D1.out.size)).mono hsz0))
    clear ho2 hb2
    go_wp2_with fail
    go_ret2
    exact ⟨_, rfl, R2.out, BF.out⟩
  · have e1 : covE t = fE t := by unfold covE; rw [if_pos h0]
    have e2 : covR t = [] := by unfold covR; rw [if_neg h0]
    rw [e1, e2]
    obtain ⟨nm, ats, rs⟩ := t
    generalize allR (nm, ats, rs) = ar at *
    generalize fE (nm, ats, rs) = fe at *
    have hne : (fe == 0) = false := beq_eq_false_iff_ne.2 h0
    have H0 := hid h0
    clear ht h0 e1 e2 hT hok
    go_enter Tryz.func29, Tryz.ntmps29
    go_wp2_with fail
    rw [W0.out]
    go_wp2_with fail
    refine (AL.out _ (Below.refl _ _)).mono ?_
    rintro e w1 ⟨v1, rfl, -, hb1⟩
    have H1 := hid (B0.out.trans (hb1.mono hsz0))
    clear hb1 c0 c1 c2
    go_wp2_with fail
    go_ret2
    exact ⟨_, rfl, RdF.nil _, H1.out⟩

set_option maxHeartbeats 1600000 in
set_option maxRecDepth 100000 in
theorem rcover_any (t : T3) (av rv : Value) (w : World) (ht : RdT w av rv t) :
    Calls Tryz.prog 30 #[.agg #[.string t.1, av, rv]] w fun e w' => ∃ v', e = .returned (.tuple #[v', .int .i64 (covE t)]) ∧ RdF w' v' (covR t) ∧ Below w.heap.size w w' := by
  have hb0 := below_alloc w (.cells #[.string t.1, av, rv] 25)
  have C3 := hid (fun W h => cells3 (w := w) (a := .string t.1) (b := av) (c := rv) (t := 25) W h)
  have T0 := hid (ht.below hb0)
  obtain ⟨w0, hw0⟩ : ∃ w0 : World, w.alloc (.cells #[.string t.1, av, rv] 25) = w0 := ⟨_, rfl⟩
  rw [hw0] at hb0 C3 T0
  have B0 := hid hb0
  have W0 := hid hw0
  have hsz0 := hb0.size
  clear hb0 hw0
  have AL := hid (fun (W : World) (h : Below w0.heap.size w0 W) => rall_any t av rv W (T0.out.below h))
  obtain ⟨c0, c1, c2⟩ := C3.out _ (Below.refl _ _)
  by_cases h0 : fE t = 0
  · have e1 : covE t = validF (t.2.1.length : Int) (allR t) := by unfold covE; rw [if_neg (by simpa using h0)]
    have e2 : covR t = mergeF (resM (t.2.1.length : Int) (allR t)) := by unfold covR; rw [if_pos h0]
    have CL := hid (covR_len t)
    rw [e2] at CL
    rw [e1, e2]
    have CA := hid (fun (u : Value) (W : World) (h : Below w0.heap.size w0 W) (hu : RdF W u (allR t)) => refCanonical_any (t.2.1.length : Int) (allR t) u W hu)
    rw [h0] at AL
    obtain ⟨nm, ats, rs⟩ := t
    obtain ⟨ao, acap, hva, -⟩ := T0.out.1.split
    simp only at hva CA CL
    subst hva
    show Calls _ _ _ _ fun e w' => ∃ v', e = .returned (.tuple #[v', .int .i64 (validF (ats.length : Int) (allR (nm, ats, rs)))]) ∧ RdF w' v' (mergeF (resM (ats.length : Int) (allR (nm, ats, rs)))) ∧ Below w.heap.size w w'
    generalize validF (ats.length : Int) (allR (nm, ats, rs)) = ve at *
    generalize mergeF (resM (ats.length : Int) (allR (nm, ats, rs))) = mg at *
    generalize allR (nm, ats, rs) = ar at *
    clear ht h0 e1 e2
    go_enter Tryz.func30, Tryz.ntmps30
    go_wp2_with fail
    rw [W0.out]
    go_wp2_with fail
    refine (AL.out _ (Below.refl _ _)).mono ?_
    rintro e w1 ⟨v1, rfl, hr1, hb1⟩
    have D1 := hid hb1
    have R1 := hid hr1
    clear hb1 hr1 c0 c1 c2
    obtain ⟨c0, c1, c2⟩ := C3.out _ D1.out
    go_wp2_with fail
    refine (CA.out v1 w1 D1.out R1.out).mono ?_
    rintro e w2 ⟨v2, rfl, ho2, hb2⟩
    have R2 := hid (RdC.of_owns cF_length ho2 (by have := CL.out; omega))
    have BF := hid (B0.out.trans ((D1.out.trans (hb2.mono D1.out.size)).mono hsz0))
    clear ho2 hb2
    go_wp2_with fail
    go_ret2
    exact ⟨_, rfl, R2.out, BF.out⟩
  · have e1 : covE t = fE t := by unfold covE; rw [if_pos h0]
    have e2 : covR t = [] := by unfold covR; rw [if_neg h0]
    rw [e1, e2]
    obtain ⟨nm, ats, rs⟩ := t
    generalize allR (nm, ats, rs) = ar at *
    generalize fE (nm, ats, rs) = fe at *
    have hne : (fe == 0) = false := beq_eq_false_iff_ne.2 h0
    have H0 := hid h0
    clear ht h0 e1 e2
    go_enter Tryz.func30, Tryz.ntmps30
    go_wp2_with fail
    rw [W0.out]
    go_wp2_with fail
    refine (AL.out _ (Below.refl _ _)).mono ?_
    rintro e w1 ⟨v1, rfl, -, hb1⟩
    have H1 := hid (B0.out.trans (hb1.mono hsz0))
    clear hb1 c0 c1 c2
    go_wp2_with fail
    go_ret2
    exact ⟨_, rfl, RdF.nil _, H1.out⟩

theorem cov_equ {t : T3} (h : covE t = 0) : fE t = 0 ∧ equS (covR t) (allR t) = true := by
  have h0 : fE t = 0 := by
    apply Classical.byContradiction
    intro h0
    unfold covE at h
    rw [if_pos h0] at h
    exact h0 h
  refine ⟨h0, ?_⟩
  unfold covE at h
  rw [if_neg (by simpa using h0)] at h
  have e : covR t = mergeF (minF (allR t)) := by
    unfold covR resM
    rw [if_pos h0, if_pos h]
  rw [e]
  exact equ_iff.2 ((merge_eqv _).trans (minF_spec (allR t)).1)

set_option maxHeartbeats 6400000 in
set_option maxRecDepth 100000 in
theorem fCoverL (t : T3) (av rv : Value) (w : World) (hT : Tab w) (ht : RdT w av rv t) (hn : ∀ r ∈ t.2.2, ∀ y ∈ r.2.2, -9223372036854775808 ≤ y.2.1 ∧ y.2.1 < 9223372036854775808) :
    Calls Tryz.prog 9 #[.agg #[.string t.1, av, rv]] w fun e w' => e = .returned (.bool true) ∧ Below w.heap.size w w' := by
  have hb0 := below_alloc w (.cells #[.string t.1, av, rv] 25)
  have C3 := hid (fun W h => cells3 (w := w) (a := .string t.1) (b := av) (c := rv) (t := 25) W h)
  have T0 := hid (ht.below hb0)
  obtain ⟨w0, hw0⟩ : ∃ w0 : World, w.alloc (.cells #[.string t.1, av, rv] 25) = w0 := ⟨_, rfl⟩
  rw [hw0] at hb0 C3 T0
  have B0 := hid hb0
  have W0 := hid hw0
  have hsz0 := hb0.size
  clear hb0 hw0
  have HT0 := hid (hT.below B0.out)
  have AW := hid (fun (W : World) (h : Below w0.heap.size w0 W) => awake28_any W (HT0.out.below h))
  have FW := hid (fun (W : World) (h : Below w0.heap.size w0 W) => few_28 t av rv W (T0.out.below h))
  have A1 := hid (fun (W : World) (h : Below w0.heap.size w0 W) => fcover_any t av rv W (T0.out.below h) (HT0.out.below h) (fun h0 => okT_f h0 hn))
  have A2 := hid (fun (W : World) (h : Below w0.heap.size w0 W) => rcover_any t av rv W (T0.out.below h))
  have A3 := hid (fun (W : World) (h : Below w0.heap.size w0 W) => fall_any t av rv W (T0.out.below h) (HT0.out.below h) (fun h0 => okT_f h0 hn))
  have SA := hid (fun (u v : Value) (W : World) (hu : RdF W u (covR t)) (hv : RdF W v (covR t)) => fsame9_any (covR t) u v W hu hv)
  have EQ := hid (fun (u v : Value) (W : World) (hu : RdF W u (covR t)) (hv : RdF W v (allR t)) => refEquivalent_any (covR t) (allR t) u v W hu hv)
  have CE := hid (fun (h : covE t = 0) => cov_equ h)
  have D10 := hid (Below.refl w0.heap.size w0)
  generalize equS (covR t) (allR t) = qe at *
  generalize covR t = cr at *
  generalize allR t = ar at *
  generalize covE t = ce at *
  generalize fE t = fe at *
  have hfe : (ce == ce) = true := by simp
  generalize few28 t = fw at *
  obtain ⟨t100, t101, t102⟩ := C3.out _ (Below.refl _ _)
  obtain ⟨nm, ats, rs⟩ := t
  obtain ⟨ao, acap, hva, -⟩ := T0.out.1.split
  obtain ⟨ro, rcap, hvr, -⟩ := RdR.split T0.out.2
  simp only at hva hvr
  subst hva hvr
  clear ht hT hn
  by_cases hr : 300 < rs.length
  · have c0 : decide ((300 : Int) < (rs.length : Int)) = true := by rw [decide_eq_true_iff]; omega
    have c1 : decide ((rs.length : Int) > (300 : Int)) = true := by rw [decide_eq_true_iff]; omega
    have HR := hid hr
    clear hr
    go_enter Tryz.func9, Tryz.ntmps9
    go_wp2_with fail
    rw [W0.out]
    go_wp2_with fail
    refine (AW.out _ D10.out).mono ?_
    rintro e w11 ⟨rfl, hb11⟩
    have D11 := hid (D10.out.trans (hb11.mono D10.out.size))
    obtain ⟨t110, t111, t112⟩ := C3.out _ D11.out
    clear hb11 t100 t101 t102
    go_wp2_with fail
    refine (AW.out _ D11.out).mono ?_
    rintro e w12 ⟨rfl, hb12⟩
    have D12 := hid (D11.out.trans (hb12.mono D11.out.size))
    obtain ⟨t120, t121, t122⟩ := C3.out _ D12.out
    clear hb12 t110 t111 t112
    have BF := hid (B0.out.trans (D12.out.mono hsz0))
    go_wp2_with fail
    go_ret
    exact ⟨rfl, BF.out⟩
  · have c0 : decide ((300 : Int) < (rs.length : Int)) = false := by rw [decide_eq_false_iff_not]; omega
    have c1 : decide ((rs.length : Int) > (300 : Int)) = false := by rw [decide_eq_false_iff_not]; omega
    have HR := hid hr
    clear hr
    cases fw with
    | false =>
      go_enter Tryz.func9, Tryz.ntmps9
      go_wp2_with fail
      rw [W0.out]
      go_wp2_with fail
      refine (AW.out _ D10.out).mono ?_
      rintro e w11 ⟨rfl, hb11⟩
      have D11 := hid (D10.out.trans (hb11.mono D10.out.size))
      obtain ⟨t110, t111, t112⟩ := C3.out _ D11.out
      clear hb11 t100 t101 t102
      go_wp2_with fail
      refine (FW.out _ D11.out).mono ?_
      rintro e w12 ⟨rfl, hb12⟩
      have D12 := hid (D11.out.trans (hb12.mono D11.out.size))
      obtain ⟨t120, t121, t122⟩ := C3.out _ D12.out
      clear hb12 t110 t111 t112
      go_wp2_with fail
      refine (AW.out _ D12.out).mono ?_
      rintro e w13 ⟨rfl, hb13⟩
      have D13 := hid (D12.out.trans (hb13.mono D12.out.size))
      obtain ⟨t130, t131, t132⟩ := C3.out _ D13.out
      clear hb13 t120 t121 t122
      have BF := hid (B0.out.trans (D13.out.mono hsz0))
      go_wp2_with fail
      go_ret
      exact ⟨rfl, BF.out⟩
    | true =>
      go_enter Tryz.func9, Tryz.ntmps9
      go_wp2_with fail
      rw [W0.out]
      go_wp2_with fail
      refine (AW.out _ D10.out).mono ?_
      rintro e w11 ⟨rfl, hb11⟩
      have D11 := hid (D10.out.trans (hb11.mono D10.out.size))
      obtain ⟨t110, t111, t112⟩ := C3.out _ D11.out
      clear hb11 t100 t101 t102
      go_wp2_with fail
      refine (FW.out _ D11.out).mono ?_
      rintro e w12 ⟨rfl, hb12⟩
      have D12 := hid (D11.out.trans (hb12.mono D11.out.size))
      obtain ⟨t120, t121, t122⟩ := C3.out _ D12.out
      clear hb12 t110 t111 t112
      go_wp2_with fail
      refine (A1.out _ D12.out).mono ?_
      rintro e w13 ⟨v13, rfl, hr13, hb13⟩
      have D13 := hid (D12.out.trans (hb13.mono D12.out.size))
      have R13 := hid hr13
      clear hr13
      obtain ⟨t130, t131, t132⟩ := C3.out _ D13.out
      clear hb13 t120 t121 t122
      go_wp2_with fail
      refine (A2.out _ D13.out).mono ?_
      rintro e w14 ⟨v14, rfl, hr14, hb14⟩
      have D14 := hid (D13.out.trans (hb14.mono D13.out.size))
      replace R13 := hid (R13.out.below hb14)
      have R14 := hid hr14
      clear hr14
      obtain ⟨t140, t141, t142⟩ := C3.out _ D14.out
      clear hb14 t130 t131 t132
      by_cases h0 : ce = 0
      · subst h0
        obtain ⟨e1, e2⟩ := CE.out rfl
        subst e1 e2
        go_wp2_with fail
        refine (SA.out _ _ _ R13.out R14.out).mono ?_
        rintro e w15 ⟨rfl, hb15⟩
        have D15 := hid (D14.out.trans (hb15.mono D14.out.size))
        replace R13 := hid (R13.out.below hb15)
        obtain ⟨t150, t151, t152⟩ := C3.out _ D15.out
        clear hb15 t140 t141 t142
        go_wp2_with fail
        refine (A3.out _ D15.out).mono ?_
        rintro e w16 ⟨v16, rfl, hr16, hb16⟩
        have D16 := hid (D15.out.trans (hb16.mono D15.out.size))
        replace R13 := hid (R13.out.below hb16)
        have R16 := hid hr16
        clear hr16
        obtain ⟨t160, t161, t162⟩ := C3.out _ D16.out
        clear hb16 t150 t151 t152
        go_wp2_with fail
        refine (EQ.out _ _ _ R13.out R16.out).mono ?_
        rintro e w17 ⟨rfl, hb17⟩
        have D17 := hid (D16.out.trans (hb17.mono D16.out.size))
        obtain ⟨t170, t171, t172⟩ := C3.out _ D17.out
        clear hb17 t160 t161 t162
        have BF := hid (B0.out.trans (D17.out.mono hsz0))
        go_wp2_with fail
        go_ret
        exact ⟨rfl, BF.out⟩
      · have hne : (ce == 0) = false := beq_eq_false_iff_ne.2 h0
        have H0 := hid h0
        clear h0
        go_wp2_with fail
        refine (SA.out _ _ _ R13.out R14.out).mono ?_
        rintro e w15 ⟨rfl, hb15⟩
        have D15 := hid (D14.out.trans (hb15.mono D14.out.size))
        replace R13 := hid (R13.out.below hb15)
        replace R14 := hid (R14.out.below hb15)
        obtain ⟨t150, t151, t152⟩ := C3.out _ D15.out
        clear hb15 t140 t141 t142
        go_wp2_with fail
        refine (SA.out _ _ _ R13.out R14.out).mono ?_
        rintro e w16 ⟨rfl, hb16⟩
        have D16 := hid (D15.out.trans (hb16.mono D15.out.size))
        obtain ⟨t160, t161, t162⟩ := C3.out _ D16.out
        clear hb16 t150 t151 t152
        have BF := hid (B0.out.trans (D16.out.mono hsz0))
        go_wp2_with fail
        go_ret
        exact ⟨rfl, BF.out⟩

end Go.Proofs.YthoidncbbcpnnaaGreatDoor
