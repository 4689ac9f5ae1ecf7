/- The walks of drossref01.Compare, agree.set and drossref27.Rows. -/
import Derived.Test.YtkehelplmipenaaTab7
namespace Go.Proofs.Ytkehelplmipenaa
open Go.RowKit

theorem cmpV_any (x y : V3) (w : World) (hx : x.2.2.size ≤ 200) :
    Calls Try.prog 70 #[.agg #[.int .i64 x.1, .int .i64 x.2.1, .string x.2.2], .agg #[.int .i64 y.1, .int .i64 y.2.1, .string y.2.2]] w fun e w' => e = .returned (.int .i64 (cmpV x y)) ∧ Below w.heap.size w w' := by
  obtain ⟨k, n, s⟩ := x
  obtain ⟨k', n', s'⟩ := y
  have CV := hid (show cmpV (k, n, s) (k', n', s') = if sgI k k' ≠ 0 then sgI k k' else if sgI n n' ≠ 0 then sgI n n' else strI s s' 0 s.size from rfl)
  have go : ∀ r : Int, cmpV (k, n, s) (k', n', s') = r → Calls Try.prog 70 #[.agg #[.int .i64 k, .int .i64 n, .string s], .agg #[.int .i64 k', .int .i64 n', .string s']] w fun e w' => e = .returned (.int .i64 r) ∧ Below w.heap.size w w' := by
    intro r hr
    rw [hr] at CV
    clear hr
    have hb1 := below_alloc w (.cells #[.int .i64 k, .int .i64 n, .string s] 64)
    have C1 := hid (fun W h => cells3 (w := w) (a := .int .i64 k) (b := .int .i64 n) (c := .string s) (t := 64) W h)
    obtain ⟨w1, hw1⟩ : ∃ w1 : World, w.alloc (.cells #[.int .i64 k, .int .i64 n, .string s] 64) = w1 := ⟨_, rfl⟩
    rw [hw1] at hb1 C1
    have hs1 : w1.heap.size = w.heap.size + 1 := by rw [← hw1]; simp
    have hb2 := below_alloc w1 (.cells #[.int .i64 k', .int .i64 n', .string s'] 64)
    have C2 := hid (fun W h => cells3 (w := w1) (a := .int .i64 k') (b := .int .i64 n') (c := .string s') (t := 64) W h)
    obtain ⟨w2, hw2⟩ : ∃ w2 : World, w1.alloc (.cells #[.int .i64 k', .int .i64 n', .string s'] 64) = w2 := ⟨_, rfl⟩
    rw [hw2] at hb2 C2
    have B2 := hid (hb1.trans (hb2.mono hb1.size))
    obtain ⟨c0, c1, c2⟩ := C1.out w2 hb2
    obtain ⟨d0, d1, d2⟩ := C2.out w2 (Below.refl _ _)
    rw [hs1] at d0 d1 d2
    have WW := hid (show (w.alloc (.cells #[.int .i64 k, .int .i64 n, .string s] 64)).alloc (.cells #[.int .i64 k', .int .i64 n', .string s'] 64) = w2 by rw [hw1, hw2])
    have ST := hid (strings_any s s' w2 hx)
    have S1 := hid (sign_any k k' w2)
    have S2 := hid (sign_any n n' w2)
    clear hb1 hb2 C1 C2 hw1 hw2 hs1
    generalize sgI k k' = g1 at *
    generalize sgI n n' = g2 at *
    generalize strI s s' 0 s.size = g3 at *
    by_cases h1 : g1 = 0
    · subst h1
      by_cases h2 : g2 = 0
      · subst h2
        have RF := hid (show g3 = r by rw [CV.out, if_neg (fun h => h rfl), if_neg (fun h => h rfl)])
        clear CV
        go_enter Try.func70, Try.ntmps70
        go_wp2_with fail
        rw [WW.out]
        go_wp2_with fail
        refine S1.out.mono ?_
        rintro e w' ⟨rfl, rfl⟩
        go_wp2_with fail
        refine S2.out.mono ?_
        rintro e w' ⟨rfl, rfl⟩
        go_wp2_with fail
        refine ST.out.mono ?_
        rintro e w' ⟨rfl, q, rfl⟩
        go_wp2_with fail
        go_ret
        exact ⟨ret_int RF.out, below_drewN' B2.out _⟩
      · have RF := hid (show g2 = r by rw [CV.out, if_neg (fun h => h rfl), if_pos h2])
        have q1 : (g2 == 0) = false := by simpa using h2
        have q2 : (g2 != 0) = true := by simpa using h2
        clear CV
        go_enter Try.func70, Try.ntmps70
        go_wp2_with fail
        rw [WW.out]
        go_wp2_with fail
        refine S1.out.mono ?_
        rintro e w' ⟨rfl, rfl⟩
        go_wp2_with fail
        refine S2.out.mono ?_
        rintro e w' ⟨rfl, rfl⟩
        go_wp2_with fail
        go_ret
        exact ⟨ret_int RF.out, B2.out⟩
    · have RF := hid (show g1 = r by rw [CV.out, if_pos h1])
      have q1 : (g1 == 0) = false := by simpa using h1
      have q2 : (g1 != 0) = true := by simpa using h1
      clear CV
      go_enter Try.func70, Try.ntmps70
      go_wp2_with fail
      rw [WW.out]
      go_wp2_with fail
      refine S1.out.mono ?_
      rintro e w' ⟨rfl, rfl⟩
      go_wp2_with fail
      go_ret
      exact ⟨ret_int RF.out, B2.out⟩
  exact go _ rfl

end Go.Proofs.Ytkehelplmipenaa
