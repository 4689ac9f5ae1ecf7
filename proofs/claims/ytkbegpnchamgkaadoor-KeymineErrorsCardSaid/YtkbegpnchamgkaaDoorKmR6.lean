/- The walks of the reference of chapter 29: Error and Check. -/
import Derived.Test.YtkbegpnchamgkaaDoorKmR5
import Derived.Test.YtkbegpnchamgkaaDoorGSmall
import Derived.Test.YtkbegpnchamgkaaDoorGSort
import Derived.Test.YtkbegpnchamgkaaDoorAfter
namespace Go.Proofs.YtkbegpnchamgkaaDoor
open Go.RowKit
set_option linter.unusedVariables false

def rkE (t : T3) (most : Nat) (s : S) : Int := if tabE t ≠ 0 then tabE t else if 200 < t.2.2.length ∨ most < t.2.1.length then 3 else if sub s (fullN (min t.2.1.length 32)) then 0 else 1
theorem tabE_small {t : T3} (h : tabE t = 0) : t.2.1.length ≤ 16 := by
  unfold tabE at h
  split at h
  · cases h
  · split at h
    · cases h
    · rename_i h2; omega
theorem rkE_zero (t : T3) : rkE t 12 0#32 = kE t 0#32 true := by
  unfold rkE kE
  by_cases h1 : tabE t = 0
  · have e1 : ¬ (tabE t ≠ 0) := fun h => h h1
    rw [if_neg e1, if_neg e1]
    by_cases h2 : 200 < t.2.2.length ∨ 12 < t.2.1.length
    · have h3 : 200 < t.2.2.length ∨ true = true ∧ 12 < t.2.1.length := h2.imp id fun h => ⟨rfl, h⟩
      rw [if_pos h2, if_pos h3]
    · have h3 : ¬ (200 < t.2.2.length ∨ true = true ∧ 12 < t.2.1.length) := fun h => h2 (h.imp id And.right)
      have h4 : sub 0#32 (fullN (min t.2.1.length 32)) := fun i _ h => by simp at h
      have h5 : ¬ ((0#32 >>> min t.2.1.length 32 != 0#32) = true) := by simp
      rw [if_neg h2, if_neg h3, if_pos h4, if_neg h5]
  · rw [if_pos h1, if_pos h1]
theorem rkE_full (t : T3) (s : S) : rkE t 16 s = kE t s false := by
  unfold rkE kE
  by_cases h1 : tabE t = 0
  · have e1 : ¬ (tabE t ≠ 0) := fun h => h h1
    rw [if_neg e1, if_neg e1]
    have h16 := tabE_small h1
    by_cases h2 : 200 < t.2.2.length
    · have h3 : 200 < t.2.2.length ∨ 16 < t.2.1.length := Or.inl h2
      have h4 : 200 < t.2.2.length ∨ false = true ∧ 12 < t.2.1.length := Or.inl h2
      rw [if_pos h3, if_pos h4]
    · have h3 : ¬ (200 < t.2.2.length ∨ 16 < t.2.1.length) := by omega
      have h4 : ¬ (200 < t.2.2.length ∨ false = true ∧ 12 < t.2.1.length) := by rintro (h | ⟨h, _⟩); exact h2 h; cases h
      rw [if_neg h3, if_neg h4]
      have := shrOk_sub (s := s) (n := t.2.1.length) (by omega)
      unfold shrOk at this
      rw [Nat.min_eq_left (show t.2.1.length ≤ 32 by omega)]
      by_cases h5 : sub s (fullN t.2.1.length)
      · have h6 : ¬ ((s >>> t.2.1.length != 0#32) = true) := by rw [bne_iff_ne]; exact fun h => h (beq_iff_eq.1 (this.2 h5))
        rw [if_pos h5, if_neg h6]
      · have h6 : (s >>> t.2.1.length != 0#32) = true := by rw [bne_iff_ne]; exact fun e => h5 (this.1 (beq_iff_eq.2 e))
        rw [if_neg h5, if_pos h6]
  · rw [if_pos h1, if_pos h1]

set_option maxHeartbeats 1600000 in
set_option maxRecDepth 100000 in
theorem rerror_any (t : T3) (av rv : Value) (most : Nat) (s : S) (w : World) (ht : RdT w av rv t) :
    Calls Tryd.prog 20 #[.agg #[.string t.1, av, rv], .int .i64 (most : Int), .int .u32 (iv s)] w fun e w' => e = .returned (.int .i64 (rkE t most s)) ∧ Below w.heap.size w w' := by
  have hb0 := below_alloc w (.cells #[.string t.1, av, rv] 28)
  have C3 := hid (fun W h => cells3 (w := w) (a := .string t.1) (b := av) (c := rv) (t := 28) W h)
  have T0 := hid (ht.below hb0)
  obtain ⟨w0, hw0⟩ : ∃ w0 : World, w.alloc (.cells #[.string t.1, av, rv] 28) = w0 := ⟨_, rfl⟩
  rw [hw0] at hb0 C3 T0
  have B0 := hid hb0
  have W0 := hid hw0
  have hsz0 := hb0.size
  clear hb0 hw0
  have TV := hid (fun (W : World) (h : Below w0.heap.size w0 W) => refValidT_any t av rv W (T0.out.below h))
  obtain ⟨t00, t01, t02⟩ := C3.out _ (Below.refl _ _)
  have KE := hid (show rkE t most s = if tabE t ≠ 0 then tabE t else if 200 < t.2.2.length ∨ most < t.2.1.length then 3 else if sub s (fullN (min t.2.1.length 32)) then 0 else 1 from rfl)
  have D0 := hid (Below.refl w0.heap.size w0)
  have FU := hid (fun (W : World) => full_any (t.2.1.length : Int) W)
  have SB := hid (fun (W : World) => sub_any s (fullN (min t.2.1.length 32)) W)
  rw [Int.toNat_natCast] at FU
  unfold enc at FU SB
  obtain ⟨nm, ats, rs⟩ := t
  obtain ⟨ao, acap, hva, -⟩ := T0.out.1.split
  obtain ⟨ro, rcap, hvr, -⟩ := RdR.split T0.out.2
  simp only at hva hvr KE TV FU SB
  subst hva hvr
  generalize rkE (nm, ats, rs) most s = ke at *
  generalize tabE (nm, ats, rs) = te at *
  generalize fullN (min ats.length 32) = fu at *
  clear ht T0
  by_cases h0 : te = 0
  · subst h0
    rw [if_neg (by simp)] at KE
    by_cases h1 : 200 < rs.length
    · rw [if_pos (.inl h1)] at KE
      have i1 : decide ((200 : Int) < (rs.length : Int)) = true := by rw [decide_eq_true_iff]; omega
      have i1' : decide ((rs.length : Int) > (200 : Int)) = true := by rw [decide_eq_true_iff]; omega
      clear h1
      go_enter Tryd.func20, Tryd.ntmps20
      go_wp2_with fail
      rw [W0.out]
      go_wp2_with fail
      refine (TV.out _ D0.out).mono ?_
      rintro e w1 ⟨rfl, hb1⟩
      have D1 := hid (D0.out.trans (hb1.mono D0.out.size))
      obtain ⟨t10, t11, t12⟩ := C3.out _ D1.out
      clear hb1 t00 t01 t02
      go_wp2_with fail
      go_ret
      exact ⟨ret_int KE.out.symm, B0.out.trans (D1.out.mono hsz0)⟩
    · have i1 : decide ((200 : Int) < (rs.length : Int)) = false := by rw [decide_eq_false_iff_not]; omega
      have i1' : decide ((rs.length : Int) > (200 : Int)) = false := by rw [decide_eq_false_iff_not]; omega
      by_cases h2 : most < ats.length
      · rw [if_pos (.inr h2)] at KE
        have i2 : decide ((most : Int) < (ats.length : Int)) = true := by rw [decide_eq_true_iff]; omega
        have i2' : decide ((ats.length : Int) > (most : Int)) = true := by rw [decide_eq_true_iff]; omega
        have i3 : decide (most < ats.length) = true := by rw [decide_eq_true_iff]; exact h2
        clear h1 h2
        go_enter Tryd.func20, Tryd.ntmps20
        go_wp2_with fail
        rw [W0.out]
        go_wp2_with fail
        refine (TV.out _ D0.out).mono ?_
        rintro e w1 ⟨rfl, hb1⟩
        have D1 := hid (D0.out.trans (hb1.mono D0.out.size))
        obtain ⟨t10, t11, t12⟩ := C3.out _ D1.out
        clear hb1 t00 t01 t02
        go_wp2_with fail
        go_ret
        exact ⟨ret_int KE.out.symm, B0.out.trans (D1.out.mono hsz0)⟩
      · rw [if_neg (by rintro (h | h); exact h1 h; exact h2 h)] at KE
        have i2 : decide ((most : Int) < (ats.length : Int)) = false := by rw [decide_eq_false_iff_not]; omega
        have i2' : decide ((ats.length : Int) > (most : Int)) = false := by rw [decide_eq_false_iff_not]; omega
        have i3 : decide (most < ats.length) = false := by rw [decide_eq_false_iff_not]; exact h2
        clear h1 h2
        by_cases h3 : sub s fu
        · rw [if_pos h3] at KE
          rw [decide_eq_true h3] at SB
          clear h3
          go_enter Tryd.func20, Tryd.ntmps20
          go_wp2_with fail
          rw [W0.out]
          go_wp2_with fail
          refine (TV.out _ D0.out).mono ?_
          rintro e w1 ⟨rfl, hb1⟩
          have D1 := hid (D0.out.trans (hb1.mono D0.out.size))
          obtain ⟨t10, t11, t12⟩ := C3.out _ D1.out
          clear hb1 t00 t01 t02
          go_wp2_with fail
          refine (FU.out _).mono ?_
          rintro e w' ⟨rfl, rfl⟩
          go_wp2_with fail
          refine (SB.out _).mono ?_
          rintro e w' ⟨rfl, rfl⟩
          go_wp2_with fail
          go_ret
          exact ⟨ret_int KE.out.symm, B0.out.trans (D1.out.mono hsz0)⟩
        · rw [if_neg h3] at KE
          rw [decide_eq_false h3] at SB
          clear h3
          go_enter Tryd.func20, Tryd.ntmps20
          go_wp2_with fail
          rw [W0.out]
          go_wp2_with fail
          refine (TV.out _ D0.out).mono ?_
          rintro e w1 ⟨rfl, hb1⟩
          have D1 := hid (D0.out.trans (hb1.mono D0.out.size))
          obtain ⟨t10, t11, t12⟩ := C3.out _ D1.out
          clear hb1 t00 t01 t02
          go_wp2_with fail
          refine (FU.out _).mono ?_
          rintro e w' ⟨rfl, rfl⟩
          go_wp2_with fail
          refine (SB.out _).mono ?_
          rintro e w' ⟨rfl, rfl⟩
          go_wp2_with fail
          go_ret
          exact ⟨ret_int KE.out.symm, B0.out.trans (D1.out.mono hsz0)⟩
  · rw [if_pos h0] at KE
    have hne : (te != (0 : Int)) = true := by simpa using h0
    have KE2 := KE.out
    subst KE2
    clear KE h0
    go_enter Tryd.func20, Tryd.ntmps20
    go_wp2_with fail
    rw [W0.out]
    go_wp2_with fail
    refine (TV.out _ D0.out).mono ?_
    rintro e w1 ⟨rfl, hb1⟩
    have D1 := hid (D0.out.trans (hb1.mono D0.out.size))
    obtain ⟨t10, t11, t12⟩ := C3.out _ D1.out
    clear hb1 t00 t01 t02
    go_wp2_with fail
    go_ret
    exact ⟨rfl, B0.out.trans (D1.out.mono hsz0)⟩

theorem valid_edg {n : Nat} (hn : n ≤ 16) {ps : List S} (hl : ps.length ≤ 200) : validS (n : Int) (edgN n ps) = 0 := by
  unfold validS
  rw [if_neg (by omega), if_neg (by unfold edgN; rw [List.length_map]; omega), if_neg]
  rw [Bool.not_eq_true, List.any_eq_false]
  intro x hx
  unfold edgN at hx
  obtain ⟨p, _, rfl⟩ := List.mem_map.1 hx
  have h := (shrOk_sub (n := n) (s := fullN n &&& ~~~ p) (by omega)).2 (and_sub_left _ _)
  unfold shrOk at h
  have e : ((fullN n &&& ~~~ p) >>> n != 0#32) = false := by rw [bne_eq_false_iff_eq]; exact beq_iff_eq.1 h
  rw [Int.toNat_natCast, e]
  simp
theorem kuB_no {t : T3} (h : kE t 0#32 true = 0) {s : S} (hs : ¬ sub s (fullN t.2.1.length)) : kuB t s = false := by
  unfold kuB
  rw [decide_eq_false]
  · rfl
  · intro e
    exact hs (bits_sub (kE_ok e).2.1 (by have := (tabE2_ok (kE_ok h).1).1; omega))

attribute [local irreducible] Go.wpQuiet

end Go.Proofs.YtkbegpnchamgkaaDoor
