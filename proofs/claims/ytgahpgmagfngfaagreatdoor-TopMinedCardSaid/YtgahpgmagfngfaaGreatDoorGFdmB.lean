/- Texts that belong together, in one file. -/
import Derived.Test.YtgahpgmagfngfaaGreatDoorGFdmA
import Derived.Test.YtgahpgmagfngfaaGreatDoorGSmall
/- The walks of fdmine.All and agrees. -/
namespace Go.Proofs.YtgahpgmagfngfaaGreatDoor
open Go.RowKit Go.Shelf Go.Lib
set_option linter.unusedVariables false

theorem RdF.nil (w : World) : RdF w (.slice none 0 0) [] := RdC.of_owns (xs := []) cF_length (World.ownsRow_nil (w := w) 0 0 2) (by simp)
set_option maxHeartbeats 1600000 in
set_option maxRecDepth 100000 in
theorem fbnd_any (t : T3) (av rv : Value) (most : Int) (w : World) (ht : RdT w av rv t) (hT : Tab w) (hok : fE t = 0 → okT t) :
    Calls Tryz.prog 31 #[.agg #[.string t.1, av, rv], .int .i64 most] w fun e w' => ∃ v', e = .returned (.tuple #[v', .int .i64 (bE t most)]) ∧ RdF w' v' (bndR t most) ∧ Below w.heap.size w w' := by
  by_cases h0 : bE t most = 0
  · obtain ⟨hE, n, rfl⟩ := bE_ok h0
    refine (fbnd_ok t av rv n w ht hT hE (hok hE)).mono ?_
    rintro e w' ⟨v', rfl, h1, h2⟩
    exact ⟨v', by rw [h0], by unfold bndR; rw [if_pos h0]; exact h1, h2⟩
  · have BR : bndR t most = [] := by unfold bndR; rw [if_neg h0]
    rw [BR]
    have BE : bE t most = if fE t ≠ 0 then fE t else if most < 0 then 7 else 0 := rfl
    have hb0 := below_alloc w (.cells #[.string t.1, av, rv] 48)
    have C3 := hid (fun W h => cells3 (w := w) (a := .string t.1) (b := av) (c := rv) (t := 48) W h)
    have T0 := hid (ht.below hb0)
    obtain ⟨w0, hw0⟩ : ∃ w0 : World, w.alloc (.cells #[.string t.1, av, rv] 48) = w0 := ⟨_, rfl⟩
    rw [hw0] at hb0 C3 T0
    have B0 := hid hb0
    have W0 := hid hw0
    have hsz0 := hb0.size
    clear hb0 hw0
    have FA := hid (fun (W : World) (h : Below w0.heap.size w0 W) => flimits_any t av rv W (T0.out.below h))
    obtain ⟨nm, ats, rs⟩ := t
    obtain ⟨ao, acap, hva, -⟩ := T0.out.1.split
    simp only at hva FA
    subst hva
    generalize bE (nm, ats, rs) most = be at *
    generalize fE (nm, ats, rs) = fe at *
    obtain ⟨c0, c1, c2⟩ := C3.out _ (Below.refl _ _)
    clear ht hT hok BR
    by_cases hf : fe = 0
    · subst hf
      rw [if_neg (by simp)] at BE
      have hm : most < 0 := by
        apply Classical.byContradiction
        intro h
        rw [if_neg h] at BE
        exact h0 BE
      rw [if_pos hm] at BE
      subst BE
      have i1 : decide (most < 0) = true := decide_eq_true hm
      clear hm h0
      go_enter Tryz.func31, Tryz.ntmps31
      go_wp2_with fail
      rw [W0.out]
      go_wp2_with fail
      refine (FA.out _ (Below.refl _ _)).mono ?_
      rintro e w1 ⟨rfl, hb1⟩
      have H1 := hid (B0.out.trans (hb1.mono hsz0))
      clear hb1 c0 c1 c2
      go_wp2_with fail
      go_ret2
      exact ⟨_, rfl, RdF.nil _, H1.out⟩
    · rw [if_pos hf] at BE
      subst BE
      have hne : (be == 0) = false := beq_eq_false_iff_ne.2 hf
      have H0 := hid hf
      clear hf h0
      go_enter Tryz.func31, Tryz.ntmps31
      go_wp2_with fail
      rw [W0.out]
      go_wp2_with fail
      refine (FA.out _ (Below.refl _ _)).mono ?_
      rintro e w1 ⟨rfl, hb1⟩
      have H1 := hid (B0.out.trans (hb1.mono hsz0))
      clear hb1 c0 c1 c2
      go_wp2_with fail
      go_ret2
      exact ⟨_, rfl, RdF.nil _, H1.out⟩
/-- What All returns. -/
noncomputable def allR (t : T3) : List F := if fE t = 0 then bndL t.2.1.length t.2.2 16 else []
theorem allR_bnd (t : T3) : bndR t 16 = allR t ∧ bE t 16 = fE t := by
  have h : bE t 16 = fE t := by
    unfold bE
    by_cases h : fE t = 0
    · rw [if_neg (by simpa using h), h]; rfl
    · rw [if_pos h]
  refine ⟨?_, h⟩
  unfold bndR allR
  rw [h]; rfl
set_option maxRecDepth 100000 in
theorem fall_any (t : T3) (av rv : Value) (w : World) (ht : RdT w av rv t) (hT : Tab w) (hok : fE t = 0 → okT t) :
    Calls Tryz.prog 13 #[.agg #[.string t.1, av, rv]] w fun e w' => ∃ v', e = .returned (.tuple #[v', .int .i64 (fE t)]) ∧ RdF w' v' (allR t) ∧ Below w.heap.size w w' := by
  have hb0 := below_alloc w (.cells #[.string t.1, av, rv] 48)
  have C3 := hid (fun W h => cells3 (w := w) (a := .string t.1) (b := av) (c := rv) (t := 48) W h)
  have T0 := hid (ht.below hb0)
  obtain ⟨w0, hw0⟩ : ∃ w0 : World, w.alloc (.cells #[.string t.1, av, rv] 48) = w0 := ⟨_, rfl⟩
  rw [hw0] at hb0 C3 T0
  have B0 := hid hb0
  have W0 := hid hw0
  have hsz0 := hb0.size
  clear hb0 hw0
  have HT0 := hid (hT.below B0.out)
  have FA := hid (fbnd_any t av rv 16 w0 T0.out HT0.out hok)
  rw [(allR_bnd t).1, (allR_bnd t).2] at FA
  obtain ⟨nm, ats, rs⟩ := t
  obtain ⟨ao, acap, hva, -⟩ := T0.out.1.split
  simp only at hva FA
  subst hva
  generalize allR (nm, ats, rs) = ar at *
  generalize fE (nm, ats, rs) = fe at *
  obtain ⟨c0, c1, c2⟩ := C3.out _ (Below.refl _ _)
  clear ht hT hok
  go_enter Tryz.func13, Tryz.ntmps13
  go_wp2_with fail
  rw [W0.out]
  go_wp2_with fail
  refine FA.out.mono ?_
  rintro e w1 ⟨v1, rfl, hr, hb1⟩
  have HR := hid hr
  have H1 := hid (B0.out.trans (hb1.mono hsz0))
  clear hb1 c0 c1 c2 hr
  go_wp2_with fail
  go_ret2
  exact ⟨_, rfl, HR.out, H1.out⟩


end Go.Proofs.YtgahpgmagfngfaaGreatDoor


/- The walk of fdmine.first. -/
namespace Go.Proofs.YtgahpgmagfngfaaGreatDoor
open Go.RowKit
set_option linter.unusedVariables false


attribute [local irreducible] Go.wpQuiet

end Go.Proofs.YtgahpgmagfngfaaGreatDoor


/- The walk of fdmine.Evidence. -/
namespace Go.Proofs.YtgahpgmagfngfaaGreatDoor
open Go.RowKit
set_option linter.unusedVariables false

theorem RdW.nil (w : World) : RdW w (.slice none 0 0) [] := RdC.of_owns (xs := []) cW_length (World.ownsRow_nil (w := w) 0 0 3) (by simp)


end Go.Proofs.YtgahpgmagfngfaaGreatDoor


/- The walk of partition.Holds. -/
namespace Go.Proofs.YtgahpgmagfngfaaGreatDoor
open Go.RowKit
set_option linter.unusedVariables false



end Go.Proofs.YtgahpgmagfngfaaGreatDoor


/- The walk of fdmine.witnessed. -/
namespace Go.Proofs.YtgahpgmagfngfaaGreatDoor
open Go.RowKit
set_option linter.unusedVariables false


attribute [local irreducible] Go.wpQuiet

end Go.Proofs.YtgahpgmagfngfaaGreatDoor


/- The walk of fdmine.Check. -/
namespace Go.Proofs.YtgahpgmagfngfaaGreatDoor
open Go.RowKit
set_option linter.unusedVariables false



attribute [local irreducible] Go.wpQuiet

end Go.Proofs.YtgahpgmagfngfaaGreatDoor

