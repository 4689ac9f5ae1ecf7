/- The walks of attrset's order of sets: Size, cmp.Or, compare. -/
import Derived.Test.YtkehelplmipenaaGWalk
import Derived.Sort.OwnSorted
namespace Go.Proofs.Ytkehelplmipenaa
open Go.RowKit

/-- Size. -/
theorem asize_any (s : S) (w : World) :
    Calls Try.prog 83 #[enc s] w fun e w' => e = .returned (.int .i64 (pop s : Nat)) ∧ ∃ q, w' = w.drewN q := by
  have C := hid (ones_any s)
  unfold enc at *
  go_enter Try.func83, Try.ntmps83
  go_wp2_with fail
  refine (C.out _).mono ?_
  rintro e w' ⟨rfl, q, rfl⟩
  go_wp2_with fail
  go_ret
  exact ⟨rfl, q, rfl⟩

/-- cmp.Or of two numbers. -/
theorem or_any (x y : Int) (b : Nat) (w : World) (h0 : w.cell? ⟨b, 0, none⟩ = some (.int .i64 x)) (h1 : w.cell? ⟨b, 1, none⟩ = some (.int .i64 y)) :
    Calls Try.prog 81 #[.slice (some ⟨b, 0, none⟩) 2 2] w fun e w' => e = .returned (.int .i64 (if x ≠ 0 then x else y)) ∧ w = w' := by
  obtain ⟨r, hr⟩ : ∃ r, (if x ≠ 0 then x else y) = r := ⟨_, rfl⟩
  rw [hr]
  have R := hid hr
  clear hr
  go_enter Try.func81, Try.ntmps81
  go_wp2_with fail
  go_loop [8] (fun i => ∃ k : Nat, k ≤ 2 ∧ i = .int .i64 k ∧ Hid ((1 ≤ k → x = 0) ∧ (2 ≤ k → y = 0))) (fun i => 2 - (intOf i).toNat)
  case atStart => exact ⟨0, by omega, rfl, hid ⟨by omega, by omega⟩⟩
  case round =>
    obtain ⟨k, hk, rfl, H⟩ := hrel
    rcases (show k = 0 ∨ k = 1 ∨ k = 2 by omega) with rfl | rfl | rfl
    · cases hx : (x != (0 : Int)) with
      | true =>
        go_wp2_with fail
        go_ret
        exact ⟨by rw [← R.out, if_pos (by simpa using hx)]; rfl, rfl⟩
      | false =>
        have X := hid (show x = 0 by simpa using hx)
        go_wp2_with fail
        go_round
        case rel => exact ⟨1, by omega, rfl, hid ⟨fun _ => X.out, by omega⟩⟩
        case measure => simp [intOf]
    · cases hy : (y != (0 : Int)) with
      | true =>
        go_wp2_with fail
        go_ret
        exact ⟨by rw [← R.out, if_neg (by rw [H.out.1 (by omega)]; simp)]; rfl, rfl⟩
      | false =>
        have Y := hid (show y = 0 by simpa using hy)
        go_wp2_with fail
        go_round
        case rel => exact ⟨2, by omega, rfl, hid ⟨fun _ => H.out.1 (by omega), fun _ => Y.out⟩⟩
        case measure => simp [intOf]
    · go_wp2_with fail
      go_ret
      exact ⟨by rw [← R.out, if_neg (by rw [H.out.1 (by omega)]; simp), H.out.2 (by omega)]; rfl, rfl⟩

theorem cell_two {w : World} {u v : Value} {t : TypeId} : (w.alloc (.cells #[u, v] t)).cell? ⟨w.heap.size, 0, none⟩ = some u ∧ (w.alloc (.cells #[u, v] t)).cell? ⟨w.heap.size, 1, none⟩ = some v := by simp
theorem compare_any (a b : S) (w : World) :
    Calls Try.prog 60 #[enc a, enc b] w fun e w' => e = .returned (.int .i64 (cmpS a b)) ∧ ∃ q os, w' = Sort.grow (w.drewN q) os := by
  have c1 := fun w => asize_any a w
  have c2 := fun w => asize_any b w
  have c3 := fun w => cmpInt_any (pop a : Nat) (pop b : Nat) w
  have c4 := fun w => cmpSet_any a b w
  have C1 := hid c1; have C2 := hid c2; have C3 := hid c3; have C4 := hid c4
  clear c1 c2 c3 c4
  have e : cmpS a b = if cmpI (pop a) (pop b) ≠ 0 then cmpI (pop a) (pop b) else cmpI (iv a) (iv b) := rfl
  have C5 := hid (or_any (cmpI (pop a) (pop b)) (cmpI (iv a) (iv b)))
  rw [← e] at C5
  clear e
  unfold enc at *
  generalize cmpS a b = r at *
  generalize cmpI (pop a) (pop b) = x at *
  generalize cmpI (iv a) (iv b) = y at *
  go_enter Try.func60, Try.ntmps60
  go_wp2_with fail
  refine (C1.out _).mono ?_
  rintro e w' ⟨rfl, q1, rfl⟩
  go_wp2_with fail
  refine (C2.out _).mono ?_
  rintro e w' ⟨rfl, q2, rfl⟩
  go_wp2_with fail
  refine (C3.out _).mono ?_
  rintro e w' ⟨rfl, rfl⟩
  go_wp2_with fail
  refine (C4.out _).mono ?_
  rintro e w' ⟨rfl, rfl⟩
  go_wp2_with fail
  refine (C5.out w.heap.size ((w.drewN (q1 + q2)).alloc (.cells #[.int .i64 x, .int .i64 y] 3)) (cell_two (w := w.drewN (q1 + q2))).1 (cell_two (w := w.drewN (q1 + q2))).2).mono ?_
  rintro e w' ⟨rfl, rfl⟩
  go_wp2_with fail
  go_ret
  exact ⟨rfl, q1 + q2, _, by rw [← Sort.alloc_eq_grow]⟩

end Go.Proofs.Ytkehelplmipenaa
