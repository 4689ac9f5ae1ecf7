/- The walk of transversal's order of sets. -/
import Derived.Test.YtkehelplmipenaaGWalk
import Derived.Test.YtkehelplmipenaaTrans
namespace Go.Proofs.Ytkehelplmipenaa
open Go.RowKit

theorem order_any (a b : S) (w : World) :
    Calls Try.prog 68 #[enc a, enc b] w fun e w' => e = .returned (.int .i64 (cmpS a b)) ∧ ∃ q, w' = w.drewN q := by
  have c1 := fun w => ones_any a w
  have c2 := fun w => ones_any b w
  have c3 := fun w => cmpInt_any (pop a : Nat) (pop b : Nat) w
  have c4 := fun w => cmpSet_any a b w
  have C1 := hid c1; have C2 := hid c2; have C3 := hid c3; have C4 := hid c4
  clear c1 c2 c3 c4
  unfold enc at *
  by_cases h : cmpI (pop a) (pop b) = 0
  · have e : cmpS a b = cmpI (iv a) (iv b) := by unfold cmpS; rw [if_neg (by simp [h])]
    rw [e]; clear e
    generalize cmpI (iv a) (iv b) = r at *
    have H := hid h
    clear h
    go_enter Try.func68, Try.ntmps68
    go_wp2_with fail
    refine (C1.out _).mono ?_
    rintro e w' ⟨rfl, q1, rfl⟩
    go_wp2_with fail
    refine (C2.out _).mono ?_
    rintro e w' ⟨rfl, q2, rfl⟩
    go_wp2_with fail
    refine (C3.out _).mono ?_
    rw [H.out]
    rintro e w' ⟨rfl, rfl⟩
    go_wp2_with fail
    refine (C4.out _).mono ?_
    rintro e w' ⟨rfl, rfl⟩
    go_wp2_with fail
    go_ret
    exact ⟨rfl, _, rfl⟩
  · have e : cmpS a b = cmpI (pop a) (pop b) := by unfold cmpS; rw [if_pos h]
    rw [e]; clear e
    have hne : (cmpI (pop a) (pop b) != (0 : Int)) = true := by simpa using h
    clear h
    generalize cmpI (pop a) (pop b) = r at *
    go_enter Try.func68, Try.ntmps68
    go_wp2_with fail
    refine (C1.out _).mono ?_
    rintro e w' ⟨rfl, q1, rfl⟩
    go_wp2_with fail
    refine (C2.out _).mono ?_
    rintro e w' ⟨rfl, q2, rfl⟩
    go_wp2_with fail
    refine (C3.out _).mono ?_
    rintro e w' ⟨rfl, rfl⟩
    go_wp2_with fail
    go_ret
    exact ⟨rfl, _, rfl⟩

end Go.Proofs.Ytkehelplmipenaa
