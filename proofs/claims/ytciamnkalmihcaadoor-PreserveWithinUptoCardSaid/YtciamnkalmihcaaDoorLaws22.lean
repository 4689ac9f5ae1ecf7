/- The laws of chapter 22, over the contracts of what they call. -/
import Derived.Test.YtciamnkalmihcaaDoorRaw22
namespace Go.Proofs.YtciamnkalmihcaaDoor
open Go.RowKit

attribute [local irreducible] Go.wpQuiet

theorem subsS_length (s : S) : (subsS s).length ≤ 4294967296 := by
  by_cases h : pop s ≤ 12
  · exact ord_bound ((subsS_P s).2 h).1 fun y _ => y.isLt
  · rw [(subsS_P s).1 (by omega)]; simp
theorem projR_length (fs : List F) (s : S) : (projR fs s).length ≤ 137438953472 := by
  unfold projR
  split
  · have h1 := mergeF_length (dropS (wL fs s (subsS s)) 0)
    have h2 := dropS_length _ (wL fs s (subsS s)) 0 (Nat.le_refl _)
    have h3 := wL_length fs s (subsS s)
    have h4 := subsS_length s
    have e : projS fs s (subsS s) = mergeF (dropS (wL fs s (subsS s)) 0) := rfl
    rw [e]; omega
  · simp
theorem projectRR (fs : List F) (s : S) (v : Value) (w : World) (hT : Tab w) (hv : RdF w v fs) :
    Calls Tryd.prog 12 #[v, enc s] w fun e w' => ∃ v', e = .returned (.tuple #[v', .int .i64 (projE fs s)]) ∧ RdF w' v' (projR fs s) ∧ Below w.heap.size w w' :=
  projectR fs s (by have := projR_length fs s; omega) v w hT hv
theorem refProjectR (fs : List F) (s : S) (v : Value) (w : World) (hv : RdF w v fs) :
    Calls Tryd.prog 14 #[v, enc s] w fun e w' => ∃ v', e = .returned (.tuple #[v', .int .i64 (projE fs s)]) ∧ RdF w' v' (projR fs s) ∧ Below w.heap.size w w' :=
  (refProject_any fs s v w hv).mono fun _ _ ⟨v', he, ho, hb⟩ => ⟨v', he, RdC.of_owns cF_length ho (by have := projR_length fs s; omega), hb⟩

theorem pProjectL (v : Value) (s : S) (w : World) (hT : Tab w) (h : ArgC cF w v) :
    Calls Tryd.prog 3 #[v, .int .u32 (iv s)] w fun e w' => e = .returned (.bool true) ∧ Below w.heap.size w w' := by
  have AW := hid (fun (W : World) (hb : Below w.heap.size w W) => awake22_any W (hT.below hb))
  have SZ := hid (size_any s w)
  have B0 := hid (Below.refl w.heap.size w)
  obtain ⟨ao, len, cap, rfl, h⟩ := h
  by_cases hl : len ≤ 6
  · have hd : decide ((len : Int) > 6) = false := by simp; omega
    by_cases hp : 5 < pop s ∧ pop s ≤ 8
    · have hd5 : decide ((pop s : Int) > 5) = true := by simp; omega
      have hd8 : decide ((pop s : Int) ≤ 8) = true := by simp; omega
      clear h hp hl
      generalize pop s = p at *
      simp only [enc_eq] at SZ
      go_enter Tryd.func3, Tryd.ntmps3
      go_wp2_with fail
      refine (SZ.out).mono ?_
      rintro e w1 ⟨rfl, hb1⟩
      have B1 := hid (B0.out.trans (hb1.mono B0.out.size))
      clear hb1
      go_wp2_with fail
      refine (AW.out _ B1.out).mono ?_
      rintro e w2 ⟨rfl, hb2⟩
      have B2 := hid (B1.out.trans (hb2.mono B1.out.size))
      clear hb2
      go_wp2_with fail
      refine (AW.out _ B2.out).mono ?_
      rintro e w3 ⟨rfl, hb3⟩
      have B3 := hid (B2.out.trans (hb3.mono B2.out.size))
      clear hb3
      go_wp2_with fail
      go_ret
      exact ⟨rfl, B3.out⟩
    · obtain ⟨fs, hfl, hr⟩ := h (by omega)
      have RW := hid (fun (W : World) (hb : Below w.heap.size w W) => raw22_any fs _ W (hr.below hb) (by omega))
      have C1 := hid (fun (x : Value) (W : World) (hb : Below w.heap.size w W) (hx : RdF W x fs) => projectRR fs s x W (hT.below hb) hx)
      have C2 := hid (fun (x : Value) (W : World) (hx : RdF W x fs) => refProjectR fs s x W hx)
      have EQ := hid equalFT
      have hpp : (decide ((pop s : Int) > 5) = false) ∨ (decide ((pop s : Int) > 5) = true ∧ decide ((pop s : Int) ≤ 8) = false) := by
        by_cases h5 : pop s ≤ 5
        · exact .inl (by simp; omega)
        · exact .inr ⟨by simp; omega, by simp; omega⟩
      clear hr hfl h hp
      generalize pop s = p at *
      generalize projR fs s = pr at *
      generalize projE fs s = pe at *
      simp only [enc_eq] at SZ C1 C2
      rcases hpp with h5 | ⟨h5, h8⟩
      all_goals
        go_enter Tryd.func3, Tryd.ntmps3
        go_wp2_with fail
        refine (SZ.out).mono ?_
        rintro e w1 ⟨rfl, hb1⟩
        have B1 := hid (B0.out.trans (hb1.mono B0.out.size))
        clear hb1
        go_wp2_with fail
        refine (AW.out _ B1.out).mono ?_
        rintro e w2 ⟨rfl, hb2⟩
        have B2 := hid (B1.out.trans (hb2.mono B1.out.size))
        clear hb2
        go_wp2_with fail
        refine (RW.out _ B2.out).mono ?_
        rintro e w3 ⟨v3, rfl, hr3, hb3⟩
        have B3 := hid (B2.out.trans (hb3.mono B2.out.size))
        have R3 := hid hr3
        clear hr3
        clear hb3
        go_wp2_with fail
        refine (C1.out _ _ B3.out R3.out).mono ?_
        rintro e w4 ⟨v4, rfl, hr4, hb4⟩
        have B4 := hid (B3.out.trans (hb4.mono B3.out.size))
        have R4 := hid hr4
        clear hr4
        clear hb4
        go_wp2_with fail
        refine (RW.out _ B4.out).mono ?_
        rintro e w5 ⟨v5, rfl, hr5, hb5⟩
        have B5 := hid (B4.out.trans (hb5.mono B4.out.size))
        replace R4 := hid (R4.out.below hb5)
        have R5 := hid hr5
        clear hr5
        clear hb5
        go_wp2_with fail
        refine (C2.out _ _ R5.out).mono ?_
        rintro e w6 ⟨v6, rfl, hr6, hb6⟩
        have B6 := hid (B5.out.trans (hb6.mono B5.out.size))
        replace R4 := hid (R4.out.below hb6)
        have R6 := hid hr6
        clear hr6
        clear hb6
        go_wp2_with fail
        refine (EQ.out _ _ _ _ R4.out R6.out).mono ?_
        rintro e w7 ⟨rfl, hb7⟩
        have B7 := hid (B6.out.trans (hb7.mono B6.out.size))
        clear hb7
        go_wp2_with fail
        go_ret
        exact ⟨rfl, B7.out⟩
  · have hd : decide ((len : Int) > 6) = true := by simp; omega
    clear h
    generalize pop s = p at *
    simp only [enc_eq] at SZ
    go_enter Tryd.func3, Tryd.ntmps3
    go_wp2_with fail
    refine (SZ.out).mono ?_
    rintro e w1 ⟨rfl, hb1⟩
    have B1 := hid (B0.out.trans (hb1.mono B0.out.size))
    clear hb1
    go_wp2_with fail
    refine (AW.out _ B1.out).mono ?_
    rintro e w2 ⟨rfl, hb2⟩
    have B2 := hid (B1.out.trans (hb2.mono B1.out.size))
    clear hb2
    go_wp2_with fail
    refine (AW.out _ B2.out).mono ?_
    rintro e w3 ⟨rfl, hb3⟩
    have B3 := hid (B2.out.trans (hb3.mono B2.out.size))
    clear hb3
    go_wp2_with fail
    go_ret
    exact ⟨rfl, B3.out⟩

theorem pLostL (v u : Value) (w : World) (hT : Tab w) (h : ArgC cF w v) (k : ArgL enc w u) :
    Calls Tryd.prog 6 #[v, u] w fun e w' => e = .returned (.bool true) ∧ Below w.heap.size w w' := by
  have AW := hid (fun (W : World) (hb : Below w.heap.size w W) => awake22_any W (hT.below hb))
  have B0 := hid (Below.refl w.heap.size w)
  obtain ⟨ao, len, cap, rfl, h⟩ := h
  obtain ⟨bo, len2, bcap, rfl, k⟩ := k
  by_cases hl : len ≤ 8
  · have hd : decide ((len : Int) > 8) = false := by simp; omega
    by_cases hl2 : len2 ≤ 6
    · have hd2 : decide ((len2 : Int) > 6) = false := by simp; omega
      obtain ⟨fs, hfl, hr⟩ := h (by omega)
      obtain ⟨ps, hpl, hk⟩ := k (by omega)
      have RW := hid (fun (W : World) (hb : Below w.heap.size w W) => raw22_any fs _ W (hr.below hb) (by omega))
      have SE := hid (fun (W : World) (hb : Below w.heap.size w W) => sets22_any ps _ W (hk.below hb) (by omega))
      have C1 := hid (fun (x y : Value) (W : World) (hx : RdF W x fs) (hy : RdE enc W y ps) => lost_any fs ps x y W hx hy (by omega))
      have C2 := hid (fun (x y : Value) (W : World) (hx : RdF W x fs) (hy : RdE enc W y ps) => refLost_any fs ps x y W hx hy (by omega))
      have C3 := hid (fun (x y : Value) (W : World) (hx : RdF W x fs) (hy : RdE enc W y ps) => all_any fs ps x y W hx hy (by omega))
      have EQ := hid equalIT
      clear hr hfl hk hpl h k
      generalize lostI fs ps = r at *
      go_enter Tryd.func6, Tryd.ntmps6
      go_wp2_with fail
      refine (AW.out _ B0.out).mono ?_
      rintro e w1 ⟨rfl, hb1⟩
      have B1 := hid (B0.out.trans (hb1.mono B0.out.size))
      clear hb1
      go_wp2_with fail
      refine (RW.out _ B1.out).mono ?_
      rintro e w2 ⟨v2, rfl, hr2, hb2⟩
      have B2 := hid (B1.out.trans (hb2.mono B1.out.size))
      have R2 := hid hr2
      clear hr2
      clear hb2
      go_wp2_with fail
      refine (SE.out _ B2.out).mono ?_
      rintro e w3 ⟨v3, rfl, hr3, hb3⟩
      have B3 := hid (B2.out.trans (hb3.mono B2.out.size))
      replace R2 := hid (R2.out.below hb3)
      have R3 := hid hr3
      clear hr3
      clear hb3
      go_wp2_with fail
      refine (C2.out _ _ _ R2.out R3.out).mono ?_
      rintro e w4 ⟨v4, rfl, hr4, hb4⟩
      have B4 := hid (B3.out.trans (hb4.mono B3.out.size))
      replace R2 := hid (R2.out.below hb4)
      replace R3 := hid (R3.out.below hb4)
      have R4 := hid hr4
      clear hr4
      clear hb4
      go_wp2_with fail
      refine (C1.out _ _ _ R2.out R3.out).mono ?_
      rintro e w5 ⟨v5, rfl, hr5, hb5⟩
      have B5 := hid (B4.out.trans (hb5.mono B4.out.size))
      replace R2 := hid (R2.out.below hb5)
      replace R3 := hid (R3.out.below hb5)
      replace R4 := hid (R4.out.below hb5)
      have R5 := hid hr5
      clear hr5
      clear hb5
      go_wp2_with fail
      refine (EQ.out _ _ _ _ R5.out R4.out).mono ?_
      rintro e w6 ⟨rfl, hb6⟩
      have B6 := hid (B5.out.trans (hb6.mono B5.out.size))
      replace R2 := hid (R2.out.below hb6)
      replace R3 := hid (R3.out.below hb6)
      replace R4 := hid (R4.out.below hb6)
      clear hb6
      obtain ⟨xo, xcap, rfl, -⟩ := R4.out.split
      go_wp2_with fail
      refine (C3.out _ _ _ R2.out R3.out).mono ?_
      rintro e w7 ⟨rfl, hb7⟩
      have B7 := hid (B6.out.trans (hb7.mono B6.out.size))
      clear hb7
      go_wp2_with fail
      go_ret
      exact ⟨ret_bool (by simp; rw [Bool.eq_iff_iff]; simp), B7.out⟩
    · have hd2 : decide ((len2 : Int) > 6) = true := by simp; omega
      clear h k
      go_enter Tryd.func6, Tryd.ntmps6
      go_wp2_with fail
      refine (AW.out _ B0.out).mono ?_
      rintro e w1 ⟨rfl, hb1⟩
      have B1 := hid (B0.out.trans (hb1.mono B0.out.size))
      clear hb1
      go_wp2_with fail
      refine (AW.out _ B1.out).mono ?_
      rintro e w2 ⟨rfl, hb2⟩
      have B2 := hid (B1.out.trans (hb2.mono B1.out.size))
      clear hb2
      go_wp2_with fail
      go_ret
      exact ⟨rfl, B2.out⟩
  · have hd : decide ((len : Int) > 8) = true := by simp; omega
    clear h k
    go_enter Tryd.func6, Tryd.ntmps6
    go_wp2_with fail
    refine (AW.out _ B0.out).mono ?_
    rintro e w1 ⟨rfl, hb1⟩
    have B1 := hid (B0.out.trans (hb1.mono B0.out.size))
    clear hb1
    go_wp2_with fail
    refine (AW.out _ B1.out).mono ?_
    rintro e w2 ⟨rfl, hb2⟩
    have B2 := hid (B1.out.trans (hb2.mono B1.out.size))
    clear hb2
    go_wp2_with fail
    go_ret
    exact ⟨rfl, B2.out⟩

set_option maxHeartbeats 1600000 in
set_option maxRecDepth 100000 in
theorem pKeptL (v u : Value) (f : F) (w : World) (hT : Tab w) (h : ArgC cF w v) (k : ArgL enc w u) :
    Calls Tryd.prog 5 #[v, u, .agg #[enc f.1, enc f.2]] w fun e w' => e = .returned (.bool true) ∧ Below w.heap.size w w' := by
  have AW := hid (fun (W : World) (hb : Below w.heap.size w W) => awake22_any W (hT.below hb))
  have hb0 := below_alloc w (.cells #[.int .u32 (iv f.1), .int .u32 (iv f.2)] 51)
  have c0 : (w.alloc (.cells #[.int .u32 (iv f.1), .int .u32 (iv f.2)] 51)).cell? ⟨w.heap.size, 0, none⟩ = some (.int .u32 (iv f.1)) := by simp
  have c1 : (w.alloc (.cells #[.int .u32 (iv f.1), .int .u32 (iv f.2)] 51)).cell? ⟨w.heap.size, 1, none⟩ = some (.int .u32 (iv f.2)) := by simp
  obtain ⟨w0, hw0⟩ : ∃ w0 : World, w.alloc (.cells #[.int .u32 (iv f.1), .int .u32 (iv f.2)] 51) = w0 := ⟨_, rfl⟩
  rw [hw0] at hb0 c0 c1
  have H2 := hid (held2 c0 c1)
  have B0 := hid hb0
  have W0 := hid hw0
  clear hb0 hw0 c0 c1
  obtain ⟨ao, len, cap, rfl, h⟩ := h
  obtain ⟨bo, len2, bcap, rfl, k⟩ := k
  by_cases hl : len ≤ 8
  · have hd : decide ((len : Int) > 8) = false := by simp; omega
    by_cases hl2 : len2 ≤ 6
    · have hd2 : decide ((len2 : Int) > 6) = false := by simp; omega
      obtain ⟨fs, hfl, hr⟩ := h (by omega)
      obtain ⟨ps, hpl, hk⟩ := k (by omega)
      have RW := hid (fun (W : World) (hb : Below w.heap.size w W) => raw22_any fs _ W (hr.below hb) (by omega))
      have SE := hid (fun (W : World) (hb : Below w.heap.size w W) => sets22_any ps _ W (hk.below hb) (by omega))
      have EQ := hid equalIT
      clear hr hfl hk hpl h k
      unfold enc
      go_enter Tryd.func5, Tryd.ntmps5
      go_wp2_with fail
      rw [W0.out]
      refine (AW.out _ B0.out).mono ?_
      rintro e w1 ⟨rfl, hb1⟩
      have B1 := hid (B0.out.trans (hb1.mono B0.out.size))
      obtain ⟨c0, c1⟩ := (H2.out _ hb1).2
      have HS := hid (held2 c0 c1)
      have RW1 := hid (fun (W : World) (hb : Below w1.heap.size w1 W) => RW.out W (B1.out.trans (hb.mono B1.out.size)))
      have SE1 := hid (fun (W : World) (hb : Below w1.heap.size w1 W) => SE.out W (B1.out.trans (hb.mono B1.out.size)))
      clear hb1
      go_wp2_with fail
      go_region_held3 (fun W => Below w1.heap.size w1 W ∧ W.cell? ⟨w.heap.size, 0, none⟩ = some (.int .u32 (iv f.1)) ∧ W.cell? ⟨w.heap.size, 1, none⟩ = some (.int .u32 (iv f.2)))
        (first | exact HS.out _ (Below.refl _ _).drew | exact HS.out _ (by assumption))
        (first
          | (go_at_call 13; have hS := And.left ‹Below w1.heap.size w1 _ ∧ _ ∧ _›; refine (RW1.out _ hS).mono ?_; rintro e w2 ⟨v2, rfl, hr2, hb2⟩; have hL := later hS hb2; clear hb2 hS)
          | (go_at_call 21; have hS := And.left ‹Below w1.heap.size w1 _ ∧ _ ∧ _›; refine (SE1.out _ hS).mono ?_; rintro e w3 ⟨v3, rfl, hr3, hb3⟩; have hr2' := hr2.below hb3; have hL3 := later hS hb3; clear hb3 hS))
      all_goals
        obtain ⟨c0, c1⟩ := (HS.out _ hL3).2
        have B3 := hid (B1.out.trans (hL3.mono B1.out.size))
        have R2 := hid (show RdF w3 v2 fs from hr2')
        have R3 := hid (show RdE enc w3 v3 ps from hr3)
        clear hL hL3 hr2 hr2' hr3 HS
        obtain ⟨xo, xcap, rfl, -⟩ := R2.out.split
        obtain ⟨yo, ycap, rfl, -⟩ := R3.out.split
        have hb4 := below_alloc w3 (.cells #[.int .u32 (iv f.1), .int .u32 (iv f.2)] 34)
        have g0 : (w3.alloc (.cells #[.int .u32 (iv f.1), .int .u32 (iv f.2)] 34)).cell? ⟨w3.heap.size, 0, none⟩ = some (.int .u32 (iv f.1)) := by simp
        have g1 : (w3.alloc (.cells #[.int .u32 (iv f.1), .int .u32 (iv f.2)] 34)).cell? ⟨w3.heap.size, 1, none⟩ = some (.int .u32 (iv f.2)) := by simp
        obtain ⟨w4, hw4⟩ : ∃ w4 : World, w3.alloc (.cells #[.int .u32 (iv f.1), .int .u32 (iv f.2)] 34) = w4 := ⟨_, rfl⟩
        rw [hw4] at hb4 g0 g1
        have G2 := hid (held2 g0 g1)
        have B4 := hid (B3.out.trans (hb4.mono B3.out.size))
        have R2' := hid (R2.out.below hb4)
        have R3' := hid (R3.out.below hb4)
        have W4 := hid hw4
        have C1 := hid (fun (W : World) (hb : Below w4.heap.size w4 W) => kept_any fs ps f.1 _ _ W (R2'.out.below hb) (R3'.out.below hb))
        have C2 := hid (fun (W : World) (hb : Below w4.heap.size w4 W) => refKept_any fs ps f.1 _ _ W (R2'.out.below hb) (R3'.out.below hb))
        have C3 := hid (fun (W : World) (hb : Below w4.heap.size w4 W) => preserves_any fs ps f _ _ W (R2'.out.below hb) (R3'.out.below hb))
        have C4 := hid (fun (W : World) (hb : Below w4.heap.size w4 W) => refPreserves_any fs ps f _ _ W (R2'.out.below hb) (R3'.out.below hb))
        have C5 := hid (fun (W : World) (hb : Below w4.heap.size w4 W) => ptrace_any fs ps f.1 _ _ W (R2'.out.below hb) (R3'.out.below hb))
        have C6 := hid (fun (W : World) (hb : Below w4.heap.size w4 W) => refPTrace_any fs ps f.1 _ _ W (R2'.out.below hb) (R3'.out.below hb))
        clear R2 R3 hb4 hw4 g0 g1
        generalize keptS fs ps f.1 = kp at *
        generalize presB fs ps f = pb at *
        generalize (followS fs ps f.1).2 = tr at *
        simp only [enc_eq] at C1 C2 C3 C4 C5 C6
        go_wp2_with fail
        rw [W4.out]
        obtain ⟨g0, g1⟩ := (G2.out _ (Below.refl _ _)).2
        go_region_held3 (fun W => Below w4.heap.size w4 W ∧ W.cell? ⟨w3.heap.size, 0, none⟩ = some (.int .u32 (iv f.1)) ∧ W.cell? ⟨w3.heap.size, 1, none⟩ = some (.int .u32 (iv f.2)))
          (first | exact G2.out _ (Below.refl _ _).drew | exact G2.out _ (by assumption))
          (first
            | (go_at_call 22; have hS := And.left ‹Below w4.heap.size w4 _ ∧ _ ∧ _›; refine (C1.out _ hS).mono ?_; rintro e w5 ⟨rfl, hb5⟩; have hL := later hS hb5; clear hb5 hS)
            | (go_at_call 23; have hS := And.left ‹Below w4.heap.size w4 _ ∧ _ ∧ _›; refine (C2.out _ hS).mono ?_; rintro e w6 ⟨rfl, hb6⟩; have hL := later hS hb6; clear hb6 hS)
            | (go_at_call 24; have hS := And.left ‹Below w4.heap.size w4 _ ∧ _ ∧ _›; refine (C3.out _ hS).mono ?_; rintro e w7 ⟨rfl, hb7⟩; have hL := later hS hb7; clear hb7 hS)
            | (go_at_call 25; have hS := And.left ‹Below w4.heap.size w4 _ ∧ _ ∧ _›; refine (C4.out _ hS).mono ?_; rintro e w8 ⟨rfl, hb8⟩; have hL := later hS hb8; clear hb8 hS)
            | (go_at_call 27; have hS := And.left ‹Below w4.heap.size w4 _ ∧ _ ∧ _›; refine (C5.out _ hS).mono ?_; rintro e w9 ⟨v9, rfl, hr9, hb9⟩; have hL := later hS hb9; clear hb9 hS)
            | (go_at_call 28; have hS := And.left ‹Below w4.heap.size w4 _ ∧ _ ∧ _›; refine (C6.out _ hS).mono ?_; rintro e w10 ⟨v10, rfl, hr10, hb10⟩; have hr9' := hr9.below hb10; have hL := later hS hb10; clear hb10 hS)
            | (go_at_call 26; have hS := And.left ‹Below w4.heap.size w4 _ ∧ _ ∧ _›; refine (EQ.out _ _ _ _ hr9' hr10).mono ?_; rintro e w11 ⟨rfl, hb11⟩; have hL11 := later hS hb11; clear hb11 hS))
        all_goals
          have HL := hid (B4.out.trans (hL11.mono B4.out.size))
          clear hL hL11
          go_wp2_with fail
          go_ret
          exact ⟨rfl, HL.out⟩
    · have hd2 : decide ((len2 : Int) > 6) = true := by simp; omega
      clear h k
      unfold enc
      go_enter Tryd.func5, Tryd.ntmps5
      go_wp2_with fail
      rw [W0.out]
      refine (AW.out _ B0.out).mono ?_
      rintro e w1 ⟨rfl, hb1⟩
      have B1 := hid (B0.out.trans (hb1.mono B0.out.size))
      clear hb1
      go_wp2_with fail
      refine (AW.out _ B1.out).mono ?_
      rintro e w2 ⟨rfl, hb2⟩
      have B2 := hid (B1.out.trans (hb2.mono B1.out.size))
      clear hb2
      go_wp2_with fail
      go_ret
      exact ⟨rfl, B2.out⟩
  · have hd : decide ((len : Int) > 8) = true := by simp; omega
    clear h k
    unfold enc
    go_enter Tryd.func5, Tryd.ntmps5
    go_wp2_with fail
    rw [W0.out]
    refine (AW.out _ B0.out).mono ?_
    rintro e w1 ⟨rfl, hb1⟩
    have B1 := hid (B0.out.trans (hb1.mono B0.out.size))
    clear hb1
    go_wp2_with fail
    refine (AW.out _ B1.out).mono ?_
    rintro e w2 ⟨rfl, hb2⟩
    have B2 := hid (B1.out.trans (hb2.mono B1.out.size))
    clear hb2
    go_wp2_with fail
    go_ret
    exact ⟨rfl, B2.out⟩

end Go.Proofs.YtciamnkalmihcaaDoor
