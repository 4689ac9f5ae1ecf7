/- The laws of chapter 10 over pairs, over the contracts of what they call. -/
import Derived.Test.YtmlbmdcmedglaaaDoorRaw10
import Derived.Test.YtmlbmdcmedglaaaDoorRef10
import Derived.Test.YtmlbmdcmedglaaaDoorOpen
namespace Go.Proofs.YtmlbmdcmedglaaaDoor
open Go.RowKit

theorem equalFT (xs : List F) (v u : Value) (w : World) (hv : RdF w v xs) (hu : RdF w u xs) :
    Calls Tryd.prog 20 #[v, u] w fun e w' => e = .returned (.bool true) ∧ Below w.heap.size w w' :=
  (equalF_any xs xs v u w hv hu).mono fun _ _ ⟨he, q, hq⟩ => ⟨by rw [he]; simp, by rw [hq]; exact below_drewN _ _ _⟩
theorem equalIT (xs : List Nat) (v u : Value) (w : World) (hv : RdE encI w v xs) (hu : RdE encI w u xs) :
    Calls Tryd.prog 33 #[v, u] w fun e w' => e = .returned (.bool true) ∧ Below w.heap.size w w' :=
  (equalI_any xs xs v u w hv hu).mono fun _ _ ⟨he, q, hq⟩ => ⟨by rw [he]; simp, by rw [hq]; exact below_drewN _ _ _⟩
theorem splitF_len (fs : List F) : (splitF fs).length ≤ 32 * fs.length := Nat.le_trans (onceF_length _) (flatSplit_length _)
theorem splitR (fs : List F) (hl : fs.length < 1048576) (v : Value) (w : World) (hT : Tab w) (hv : RdF w v fs) :
    Calls Tryd.prog 21 #[v] w fun e w' => ∃ v', e = .returned v' ∧ RdF w' v' (splitF fs) ∧ Below w.heap.size w w' :=
  (split_any fs v w hT hv (by omega)).mono fun _ _ ⟨v', he, ho, hb⟩ => ⟨v', he, RdC.of_owns cF_length ho (by have := splitF_len fs; omega), hb⟩
theorem refSplitR (fs : List F) (hl : fs.length < 1048576) (v : Value) (w : World) (hv : RdF w v fs) :
    Calls Tryd.prog 22 #[v] w fun e w' => ∃ v', e = .returned v' ∧ RdF w' v' (splitF fs) ∧ Below w.heap.size w w' :=
  (refSplit_any fs v w hv (by omega)).mono fun _ _ ⟨v', he, ho, hb⟩ => ⟨v', he, RdC.of_owns cF_length ho (by have := splitF_len fs; omega), hb⟩
theorem mergeR (fs : List F) (hl : fs.length < 1048576) (v : Value) (w : World) (hv : RdF w v fs) :
    Calls Tryd.prog 23 #[v] w fun e w' => ∃ v', e = .returned v' ∧ RdF w' v' (mergeF fs) ∧ Below w.heap.size w w' :=
  (merge_any fs v w hv (by omega)).mono fun _ _ ⟨v', he, ho, hb⟩ => ⟨v', he, RdC.of_owns cF_length ho (by have := mergeF_length fs; omega), hb⟩
theorem refMergeR (fs : List F) (hl : fs.length < 1048576) (v : Value) (w : World) (hv : RdF w v fs) :
    Calls Tryd.prog 24 #[v] w fun e w' => ∃ v', e = .returned v' ∧ RdF w' v' (mergeF fs) ∧ Below w.heap.size w w' :=
  (refMerge_any fs v w hv (by omega)).mono fun _ _ ⟨v', he, ho, hb⟩ => ⟨v', he, RdC.of_owns cF_length ho (by have := mergeF_length fs; omega), hb⟩
theorem refMinimalR (n : Int) (fs : List F) (v : Value) (w : World) (hv : RdF w v fs) :
    Calls Tryd.prog 26 #[.int .i64 n, v] w fun e w' => ∃ v', e = .returned (.tuple #[v', .int .i64 (validF n fs)]) ∧ RdF w' v' (resM n fs) ∧ Below w.heap.size w w' :=
  (refMinimal_any n fs v w hv).mono fun _ _ ⟨v', he, ho, hb⟩ => ⟨v', he, RdC.of_owns cF_length ho (by have := resM_length n fs; omega), hb⟩
theorem refCanonicalR (n : Int) (fs : List F) (v : Value) (w : World) (hv : RdF w v fs) :
    Calls Tryd.prog 28 #[.int .i64 n, v] w fun e w' => ∃ v', e = .returned (.tuple #[v', .int .i64 (validF n fs)]) ∧ RdF w' v' (mergeF (resM n fs)) ∧ Below w.heap.size w w' :=
  (refCanonical_any n fs v w hv).mono fun _ _ ⟨v', he, ho, hb⟩ => ⟨v', he, RdC.of_owns cF_length ho (by have := resM_length n fs; have := mergeF_length (resM n fs); omega), hb⟩
theorem refRedundantsR (fs : List F) (hl : fs.length < 1048576) (v : Value) (w : World) (hv : RdF w v fs) :
    Calls Tryd.prog 35 #[v] w fun e w' => ∃ v', e = .returned v' ∧ RdE encI w' v' (redI fs) ∧ Below w.heap.size w w' :=
  (refRedundants_any fs v w hv (by omega)).mono fun _ _ ⟨v', he, ho, hb⟩ => ⟨v', he, RdE.of_owns ho (by have := redI_length fs; omega), hb⟩

theorem cSplitL (v : Value) (w : World) (hT : Tab w) (h : ArgC cF w v) :
    Calls Tryd.prog 3 #[v] w fun e w' => e = .returned (.bool true) ∧ Below w.heap.size w w' := by
  have AW := hid (fun (W : World) (hb : Below w.heap.size w W) => awake10_any W (hT.below hb))
  have B0 := hid (Below.refl w.heap.size w)
  obtain ⟨ao, len, cap, rfl, h⟩ := h
  by_cases hl : len ≤ 12
  · have hd : decide ((len : Int) > 12) = false := by simp; omega
    obtain ⟨fs, hfl, hr⟩ := h (by omega)
    have RW := hid (fun (W : World) (hb : Below w.heap.size w W) => raw_any fs _ W (hr.below hb) (by omega))
    have C1 := hid (fun (x : Value) (W : World) (hb : Below w.heap.size w W) (hx : RdF W x fs) => splitR fs (by omega) x W (hT.below hb) hx)
    have C2 := hid (fun (x : Value) (W : World) (hx : RdF W x fs) => refSplitR fs (by omega) x W hx)
    have C3 := hid (fun (x : Value) (W : World) (hx : RdF W x fs) => mergeR fs (by omega) x W hx)
    have C4 := hid (fun (x : Value) (W : World) (hx : RdF W x fs) => refMergeR fs (by omega) x W hx)
    have EQ := hid equalFT
    clear hr hfl h
    generalize splitF fs = sp at *
    generalize mergeF fs = mg at *
    go_enter Tryd.func3, Tryd.ntmps3
    go_wp2_with fail
    refine (AW.out _ B0.out).mono ?_
    rintro e w1 ⟨rfl, hb1⟩
    have B1 := hid (B0.out.trans (hb1.mono B0.out.size))
    clear hb1
    go_wp2_with fail
    refine (RW.out _ B1.out).mono ?_
    rintro e w2 ⟨v2, rfl, hr2, hb2⟩
    have B2 := hid (B1.out.trans (hb2.mono B1.out.size))
    have R2 := hid hr2
    clear hr2
    clear hb2
    go_wp2_with fail
    refine (C1.out _ _ B2.out R2.out).mono ?_
    rintro e w3 ⟨v3, rfl, hr3, hb3⟩
    have B3 := hid (B2.out.trans (hb3.mono B2.out.size))
    replace R2 := hid (R2.out.below hb3)
    have R3 := hid hr3
    clear hr3
    clear hb3
    go_wp2_with fail
    refine (RW.out _ B3.out).mono ?_
    rintro e w4 ⟨v4, rfl, hr4, hb4⟩
    have B4 := hid (B3.out.trans (hb4.mono B3.out.size))
    replace R2 := hid (R2.out.below hb4)
    replace R3 := hid (R3.out.below hb4)
    have R4 := hid hr4
    clear hr4
    clear hb4
    go_wp2_with fail
    refine (C2.out _ _ R4.out).mono ?_
    rintro e w5 ⟨v5, rfl, hr5, hb5⟩
    have B5 := hid (B4.out.trans (hb5.mono B4.out.size))
    replace R2 := hid (R2.out.below hb5)
    replace R3 := hid (R3.out.below hb5)
    have R5 := hid hr5
    clear hr5
    clear hb5
    go_wp2_with fail
    refine (EQ.out _ _ _ _ R3.out R5.out).mono ?_
    rintro e w6 ⟨rfl, hb6⟩
    have B6 := hid (B5.out.trans (hb6.mono B5.out.size))
    replace R2 := hid (R2.out.below hb6)
    clear hb6
    go_wp2_with fail
    refine (C3.out _ _ R2.out).mono ?_
    rintro e w7 ⟨v7, rfl, hr7, hb7⟩
    have B7 := hid (B6.out.trans (hb7.mono B6.out.size))
    replace R2 := hid (R2.out.below hb7)
    have R7 := hid hr7
    clear hr7
    clear hb7
    go_wp2_with fail
    refine (RW.out _ B7.out).mono ?_
    rintro e w8 ⟨v8, rfl, hr8, hb8⟩
    have B8 := hid (B7.out.trans (hb8.mono B7.out.size))
    replace R2 := hid (R2.out.below hb8)
    replace R7 := hid (R7.out.below hb8)
    have R8 := hid hr8
    clear hr8
    clear hb8
    go_wp2_with fail
    refine (C4.out _ _ R8.out).mono ?_
    rintro e w9 ⟨v9, rfl, hr9, hb9⟩
    have B9 := hid (B8.out.trans (hb9.mono B8.out.size))
    replace R2 := hid (R2.out.below hb9)
    replace R7 := hid (R7.out.below hb9)
    have R9 := hid hr9
    clear hr9
    clear hb9
    go_wp2_with fail
    refine (EQ.out _ _ _ _ R7.out R9.out).mono ?_
    rintro e w10 ⟨rfl, hb10⟩
    have B10 := hid (B9.out.trans (hb10.mono B9.out.size))
    replace R2 := hid (R2.out.below hb10)
    clear hb10
    go_wp2_with fail
    refine (RW.out _ B10.out).mono ?_
    rintro e w11 ⟨v11, rfl, hr11, hb11⟩
    have B11 := hid (B10.out.trans (hb11.mono B10.out.size))
    replace R2 := hid (R2.out.below hb11)
    have R11 := hid hr11
    clear hr11
    clear hb11
    go_wp2_with fail
    refine (EQ.out _ _ _ _ R2.out R11.out).mono ?_
    rintro e w12 ⟨rfl, hb12⟩
    have B12 := hid (B11.out.trans (hb12.mono B11.out.size))
    clear hb12
    go_wp2_with fail
    go_ret
    exact ⟨rfl, B12.out⟩
  · have hd : decide ((len : Int) > 12) = true := by simp; omega
    clear h
    go_enter Tryd.func3, Tryd.ntmps3
    go_wp2_with fail
    refine (AW.out _ B0.out).mono ?_
    rintro e w1 ⟨rfl, hb1⟩
    have B1 := hid (B0.out.trans (hb1.mono B0.out.size))
    clear hb1
    go_wp2_with fail
    refine (AW.out _ B1.out).mono ?_
    rintro e w2 ⟨rfl, hb2⟩
    have B2 := hid (B1.out.trans (hb2.mono B1.out.size))
    clear hb2
    go_wp2_with fail
    go_ret
    exact ⟨rfl, B2.out⟩

theorem cMinimalL (n : Int) (v : Value) (w : World) (hT : Tab w) (h : ArgC cF w v) :
    Calls Tryd.prog 4 #[.int .i64 n, v] w fun e w' => e = .returned (.bool true) ∧ Below w.heap.size w w' := by
  have AW := hid (fun (W : World) (hb : Below w.heap.size w W) => awake10_any W (hT.below hb))
  have B0 := hid (Below.refl w.heap.size w)
  obtain ⟨ao, len, cap, rfl, h⟩ := h
  by_cases hl : len ≤ 8
  · have hd : decide ((len : Int) > 8) = false := by simp; omega
    obtain ⟨fs, hfl, hr⟩ := h (by omega)
    have RW := hid (fun (W : World) (hb : Below w.heap.size w W) => raw_any fs _ W (hr.below hb) (by omega))
    have C1 := hid (fun (x : Value) (W : World) (hb : Below w.heap.size w W) (hx : RdF W x fs) => minimalR n fs x W (hT.below hb) hx)
    have C2 := hid (fun (x : Value) (W : World) (hx : RdF W x fs) => refMinimalR n fs x W hx)
    have C3 := hid (fun (x : Value) (W : World) (hb : Below w.heap.size w W) (hx : RdF W x fs) => canonicalR n fs x W (hT.below hb) hx)
    have C4 := hid (fun (x : Value) (W : World) (hx : RdF W x fs) => refCanonicalR n fs x W hx)
    have EQ := hid equalFT
    clear hr hfl h
    generalize resM n fs = mn at *
    generalize mergeF mn = mg at *
    generalize validF n fs = r at *
    go_enter Tryd.func4, Tryd.ntmps4
    go_wp2_with fail
    refine (AW.out _ B0.out).mono ?_
    rintro e w1 ⟨rfl, hb1⟩
    have B1 := hid (B0.out.trans (hb1.mono B0.out.size))
    clear hb1
    go_wp2_with fail
    refine (RW.out _ B1.out).mono ?_
    rintro e w2 ⟨v2, rfl, hr2, hb2⟩
    have B2 := hid (B1.out.trans (hb2.mono B1.out.size))
    have R2 := hid hr2
    clear hr2
    clear hb2
    go_wp2_with fail
    refine (C1.out _ _ B2.out R2.out).mono ?_
    rintro e w3 ⟨v3, rfl, hr3, hb3⟩
    have B3 := hid (B2.out.trans (hb3.mono B2.out.size))
    have R3 := hid hr3
    clear hr3
    clear hb3
    go_wp2_with fail
    refine (RW.out _ B3.out).mono ?_
    rintro e w4 ⟨v4, rfl, hr4, hb4⟩
    have B4 := hid (B3.out.trans (hb4.mono B3.out.size))
    replace R3 := hid (R3.out.below hb4)
    have R4 := hid hr4
    clear hr4
    clear hb4
    go_wp2_with fail
    refine (C2.out _ _ R4.out).mono ?_
    rintro e w5 ⟨v5, rfl, hr5, hb5⟩
    have B5 := hid (B4.out.trans (hb5.mono B4.out.size))
    replace R3 := hid (R3.out.below hb5)
    have R5 := hid hr5
    clear hr5
    clear hb5
    go_wp2_with fail
    refine (RW.out _ B5.out).mono ?_
    rintro e w6 ⟨v6, rfl, hr6, hb6⟩
    have B6 := hid (B5.out.trans (hb6.mono B5.out.size))
    replace R3 := hid (R3.out.below hb6)
    replace R5 := hid (R5.out.below hb6)
    have R6 := hid hr6
    clear hr6
    clear hb6
    go_wp2_with fail
    refine (C3.out _ _ B6.out R6.out).mono ?_
    rintro e w7 ⟨v7, rfl, hr7, hb7⟩
    have B7 := hid (B6.out.trans (hb7.mono B6.out.size))
    replace R3 := hid (R3.out.below hb7)
    replace R5 := hid (R5.out.below hb7)
    have R7 := hid hr7
    clear hr7
    clear hb7
    go_wp2_with fail
    refine (RW.out _ B7.out).mono ?_
    rintro e w8 ⟨v8, rfl, hr8, hb8⟩
    have B8 := hid (B7.out.trans (hb8.mono B7.out.size))
    replace R3 := hid (R3.out.below hb8)
    replace R5 := hid (R5.out.below hb8)
    replace R7 := hid (R7.out.below hb8)
    have R8 := hid hr8
    clear hr8
    clear hb8
    go_wp2_with fail
    refine (C4.out _ _ R8.out).mono ?_
    rintro e w9 ⟨v9, rfl, hr9, hb9⟩
    have B9 := hid (B8.out.trans (hb9.mono B8.out.size))
    replace R3 := hid (R3.out.below hb9)
    replace R5 := hid (R5.out.below hb9)
    replace R7 := hid (R7.out.below hb9)
    have R9 := hid hr9
    clear hr9
    clear hb9
    go_wp2_with fail
    refine (EQ.out _ _ _ _ R3.out R5.out).mono ?_
    rintro e w10 ⟨rfl, hb10⟩
    have B10 := hid (B9.out.trans (hb10.mono B9.out.size))
    replace R7 := hid (R7.out.below hb10)
    replace R9 := hid (R9.out.below hb10)
    clear hb10
    go_wp2_with fail
    refine (EQ.out _ _ _ _ R7.out R9.out).mono ?_
    rintro e w11 ⟨rfl, hb11⟩
    have B11 := hid (B10.out.trans (hb11.mono B10.out.size))
    clear hb11
    go_wp2_with fail
    go_ret
    exact ⟨rfl, B11.out⟩
  · have hd : decide ((len : Int) > 8) = true := by simp; omega
    clear h
    go_enter Tryd.func4, Tryd.ntmps4
    go_wp2_with fail
    refine (AW.out _ B0.out).mono ?_
    rintro e w1 ⟨rfl, hb1⟩
    have B1 := hid (B0.out.trans (hb1.mono B0.out.size))
    clear hb1
    go_wp2_with fail
    refine (AW.out _ B1.out).mono ?_
    rintro e w2 ⟨rfl, hb2⟩
    have B2 := hid (B1.out.trans (hb2.mono B1.out.size))
    clear hb2
    go_wp2_with fail
    go_ret
    exact ⟨rfl, B2.out⟩

theorem cIsMinimalL (v : Value) (w : World) (hT : Tab w) (h : ArgC cF w v) :
    Calls Tryd.prog 17 #[v] w fun e w' => e = .returned (.bool true) ∧ Below w.heap.size w w' := by
  have AW := hid (fun (W : World) (hb : Below w.heap.size w W) => awake10_any W (hT.below hb))
  have B0 := hid (Below.refl w.heap.size w)
  obtain ⟨ao, len, cap, rfl, h⟩ := h
  by_cases hl : len ≤ 8
  · have hd : decide ((len : Int) > 8) = false := by simp; omega
    obtain ⟨fs, hfl, hr⟩ := h (by omega)
    have RW := hid (fun (W : World) (hb : Below w.heap.size w W) => raw_any fs _ W (hr.below hb) (by omega))
    have C1 := hid (fun (x : Value) (W : World) (hb : Below w.heap.size w W) (hx : RdF W x fs) => isMinimal_any fs x W (hT.below hb) hx (by omega))
    have C2 := hid (fun (x : Value) (W : World) (hx : RdF W x fs) => refIsMinimal_any fs x W hx (by omega))
    clear hr hfl h
    generalize isMinB fs = r at *
    go_enter Tryd.func17, Tryd.ntmps17
    go_wp2_with fail
    refine (AW.out _ B0.out).mono ?_
    rintro e w1 ⟨rfl, hb1⟩
    have B1 := hid (B0.out.trans (hb1.mono B0.out.size))
    clear hb1
    go_wp2_with fail
    refine (RW.out _ B1.out).mono ?_
    rintro e w2 ⟨v2, rfl, hr2, hb2⟩
    have B2 := hid (B1.out.trans (hb2.mono B1.out.size))
    have R2 := hid hr2
    clear hr2
    clear hb2
    go_wp2_with fail
    refine (C1.out _ _ B2.out R2.out).mono ?_
    rintro e w3 ⟨rfl, hb3⟩
    have B3 := hid (B2.out.trans (hb3.mono B2.out.size))
    clear hb3
    go_wp2_with fail
    refine (RW.out _ B3.out).mono ?_
    rintro e w4 ⟨v4, rfl, hr4, hb4⟩
    have B4 := hid (B3.out.trans (hb4.mono B3.out.size))
    have R4 := hid hr4
    clear hr4
    clear hb4
    go_wp2_with fail
    refine (C2.out _ _ R4.out).mono ?_
    rintro e w5 ⟨rfl, hb5⟩
    have B5 := hid (B4.out.trans (hb5.mono B4.out.size))
    clear hb5
    go_wp2_with fail
    go_ret
    exact ⟨ret_bool (by simp), B5.out⟩
  · have hd : decide ((len : Int) > 8) = true := by simp; omega
    clear h
    go_enter Tryd.func17, Tryd.ntmps17
    go_wp2_with fail
    refine (AW.out _ B0.out).mono ?_
    rintro e w1 ⟨rfl, hb1⟩
    have B1 := hid (B0.out.trans (hb1.mono B0.out.size))
    clear hb1
    go_wp2_with fail
    refine (AW.out _ B1.out).mono ?_
    rintro e w2 ⟨rfl, hb2⟩
    have B2 := hid (B1.out.trans (hb2.mono B1.out.size))
    clear hb2
    go_wp2_with fail
    go_ret
    exact ⟨rfl, B2.out⟩

theorem cRedundantL (v : Value) (w : World) (hT : Tab w) (h : ArgC cF w v) :
    Calls Tryd.prog 7 #[v] w fun e w' => e = .returned (.bool true) ∧ Below w.heap.size w w' := by
  have AW := hid (fun (W : World) (hb : Below w.heap.size w W) => awake10_any W (hT.below hb))
  have B0 := hid (Below.refl w.heap.size w)
  obtain ⟨ao, len, cap, rfl, h⟩ := h
  by_cases hl : len ≤ 10
  · have hd : decide ((len : Int) > 10) = false := by simp; omega
    obtain ⟨fs, hfl, hr⟩ := h (by omega)
    have RW := hid (fun (W : World) (hb : Below w.heap.size w W) => raw_any fs _ W (hr.below hb) (by omega))
    have C1 := hid (fun (x : Value) (W : World) (hx : RdF W x fs) => redundantsR fs x W hx (by omega))
    have C2 := hid (fun (x : Value) (W : World) (hx : RdF W x fs) => refRedundantsR fs (by omega) x W hx)
    have EQ := hid equalIT
    clear hr hfl h
    generalize redI fs = r at *
    go_enter Tryd.func7, Tryd.ntmps7
    go_wp2_with fail
    refine (AW.out _ B0.out).mono ?_
    rintro e w1 ⟨rfl, hb1⟩
    have B1 := hid (B0.out.trans (hb1.mono B0.out.size))
    clear hb1
    go_wp2_with fail
    refine (RW.out _ B1.out).mono ?_
    rintro e w2 ⟨v2, rfl, hr2, hb2⟩
    have B2 := hid (B1.out.trans (hb2.mono B1.out.size))
    have R2 := hid hr2
    clear hr2
    clear hb2
    go_wp2_with fail
    refine (C1.out _ _ R2.out).mono ?_
    rintro e w3 ⟨v3, rfl, hr3, hb3⟩
    have B3 := hid (B2.out.trans (hb3.mono B2.out.size))
    have R3 := hid hr3
    clear hr3
    clear hb3
    go_wp2_with fail
    refine (RW.out _ B3.out).mono ?_
    rintro e w4 ⟨v4, rfl, hr4, hb4⟩
    have B4 := hid (B3.out.trans (hb4.mono B3.out.size))
    replace R3 := hid (R3.out.below hb4)
    have R4 := hid hr4
    clear hr4
    clear hb4
    go_wp2_with fail
    refine (C2.out _ _ R4.out).mono ?_
    rintro e w5 ⟨v5, rfl, hr5, hb5⟩
    have B5 := hid (B4.out.trans (hb5.mono B4.out.size))
    replace R3 := hid (R3.out.below hb5)
    have R5 := hid hr5
    clear hr5
    clear hb5
    go_wp2_with fail
    refine (EQ.out _ _ _ _ R3.out R5.out).mono ?_
    rintro e w6 ⟨rfl, hb6⟩
    have B6 := hid (B5.out.trans (hb6.mono B5.out.size))
    clear hb6
    go_wp2_with fail
    go_ret
    exact ⟨rfl, B6.out⟩
  · have hd : decide ((len : Int) > 10) = true := by simp; omega
    clear h
    go_enter Tryd.func7, Tryd.ntmps7
    go_wp2_with fail
    refine (AW.out _ B0.out).mono ?_
    rintro e w1 ⟨rfl, hb1⟩
    have B1 := hid (B0.out.trans (hb1.mono B0.out.size))
    clear hb1
    go_wp2_with fail
    refine (AW.out _ B1.out).mono ?_
    rintro e w2 ⟨rfl, hb2⟩
    have B2 := hid (B1.out.trans (hb2.mono B1.out.size))
    clear hb2
    go_wp2_with fail
    go_ret
    exact ⟨rfl, B2.out⟩

theorem cExtraneousL (v : Value) (i : Int) (w : World) (hT : Tab w) (h : ArgC cF w v) :
    Calls Tryd.prog 8 #[v, .int .i64 i] w fun e w' => e = .returned (.bool true) ∧ Below w.heap.size w w' := by
  have AW := hid (fun (W : World) (hb : Below w.heap.size w W) => awake10_any W (hT.below hb))
  have B0 := hid (Below.refl w.heap.size w)
  obtain ⟨ao, len, cap, rfl, h⟩ := h
  by_cases hl : len ≤ 8
  · have hd : decide ((len : Int) > 8) = false := by simp; omega
    obtain ⟨fs, hfl, hr⟩ := h (by omega)
    have RW := hid (fun (W : World) (hb : Below w.heap.size w W) => raw_any fs _ W (hr.below hb) (by omega))
    have C1 := hid (fun (x : Value) (W : World) (hb : Below w.heap.size w W) (hx : RdF W x fs) => extraneousS_any fs i x W (hT.below hb) hx)
    have C2 := hid (fun (x : Value) (W : World) (hx : RdF W x fs) => refExtraneousS_any fs i x W hx)
    clear hr hfl h
    generalize exS fs i = s at *
    generalize exE fs i = r at *
    simp only [enc_eq] at C1 C2
    go_enter Tryd.func8, Tryd.ntmps8
    go_wp2_with fail
    refine (AW.out _ B0.out).mono ?_
    rintro e w1 ⟨rfl, hb1⟩
    have B1 := hid (B0.out.trans (hb1.mono B0.out.size))
    clear hb1
    go_wp2_with fail
    refine (RW.out _ B1.out).mono ?_
    rintro e w2 ⟨v2, rfl, hr2, hb2⟩
    have B2 := hid (B1.out.trans (hb2.mono B1.out.size))
    have R2 := hid hr2
    clear hr2
    clear hb2
    go_wp2_with fail
    refine (C1.out _ _ B2.out R2.out).mono ?_
    rintro e w3 ⟨rfl, hb3⟩
    have B3 := hid (B2.out.trans (hb3.mono B2.out.size))
    clear hb3
    go_wp2_with fail
    refine (RW.out _ B3.out).mono ?_
    rintro e w4 ⟨v4, rfl, hr4, hb4⟩
    have B4 := hid (B3.out.trans (hb4.mono B3.out.size))
    have R4 := hid hr4
    clear hr4
    clear hb4
    go_wp2_with fail
    refine (C2.out _ _ R4.out).mono ?_
    rintro e w5 ⟨rfl, hb5⟩
    have B5 := hid (B4.out.trans (hb5.mono B4.out.size))
    clear hb5
    go_wp2_with fail
    go_ret
    exact ⟨ret_bool (by simp), B5.out⟩
  · have hd : decide ((len : Int) > 8) = true := by simp; omega
    clear h
    go_enter Tryd.func8, Tryd.ntmps8
    go_wp2_with fail
    refine (AW.out _ B0.out).mono ?_
    rintro e w1 ⟨rfl, hb1⟩
    have B1 := hid (B0.out.trans (hb1.mono B0.out.size))
    clear hb1
    go_wp2_with fail
    refine (AW.out _ B1.out).mono ?_
    rintro e w2 ⟨rfl, hb2⟩
    have B2 := hid (B1.out.trans (hb2.mono B1.out.size))
    clear hb2
    go_wp2_with fail
    go_ret
    exact ⟨rfl, B2.out⟩

end Go.Proofs.YtmlbmdcmedglaaaDoor
