/- The walks of the two Smallest, of Witness, of Dual, of few; All of both in one statement each. -/
import Derived.Test.YtpjcdiffigeajaaRefAll
import Derived.Test.YtpjcdiffigeajaaMap
namespace Go.Proofs.Ytpjcdiffigeajaa
open Go.RowKit

/-- What All returns, whatever the input: with the error there is no set. -/
def resS (n : Int) (xs : List S) : List S := if validS n xs = 0 then allS xs else []
theorem allW (n : Int) (xs : List S) (v : Value) (w : World) (hv : RdE enc w v xs) :
    Calls Try.prog 16 #[.int .i64 n, v] w fun e w' => ∃ v', e = .returned (.tuple #[v', .int .i64 (validS n xs)]) ∧ w'.ownsRow w.heap.size 28 1 v' (resS n xs).length ((resS n xs).map enc) ∧ (resS n xs).length ≤ 65536 ∧ Below w.heap.size w w' := by
  unfold resS
  by_cases h : validS n xs = 0
  · rw [if_pos h, h]; exact all_any n xs v w hv h
  · rw [if_neg h]
    exact (all_err n xs v w hv h).mono fun e w' ⟨he, hb⟩ => ⟨_, he, World.ownsRow_nil _ _ _ _, by simp, hb⟩
theorem refAllW (n : Int) (xs : List S) (v : Value) (w : World) (hv : RdE enc w v xs) :
    Calls Try.prog 17 #[.int .i64 n, v] w fun e w' => ∃ v', e = .returned (.tuple #[v', .int .i64 (validS n xs)]) ∧ w'.ownsRow w.heap.size 28 1 v' (resS n xs).length ((resS n xs).map enc) ∧ (resS n xs).length ≤ 65536 ∧ Below w.heap.size w w' := by
  unfold resS
  by_cases h : validS n xs = 0
  · rw [if_pos h, h]; exact refAll_any n xs v w hv h
  · rw [if_neg h]
    exact (refAll_err n xs v w hv h).mono fun e w' ⟨he, hb⟩ => ⟨_, he, World.ownsRow_nil _ _ _ _, by simp, hb⟩

/-- What Smallest returns. -/
def smallS (n : Int) (xs : List S) : S := (resS n xs).headD 0#32
def smallE (n : Int) (xs : List S) : Int := if validS n xs = 0 then (if (resS n xs).isEmpty then 12 else 0) else validS n xs

theorem smallest_any (n : Int) (xs : List S) (v : Value) (w : World) (hv : RdE enc w v xs) :
    Calls Try.prog 19 #[.int .i64 n, v] w fun e w' => e = .returned (.tuple #[enc (smallS n xs), .int .i64 (smallE n xs)]) ∧ Below w.heap.size w w' := by
  have C := hid (allW n xs v w hv)
  by_cases h : validS n xs = 0
  · cases hr : resS n xs with
    | nil =>
      rw [hr, h] at C
      have e1 : smallS n xs = 0#32 := by unfold smallS; rw [hr]; rfl
      have e2 : smallE n xs = 12 := by unfold smallE; rw [if_pos h, hr]; rfl
      rw [e1, e2]
      clear e1 e2 hr h hv
      go_enter Try.func19, Try.ntmps19
      go_wp2_with fail
      refine C.out.mono ?_
      rintro e w1 ⟨v1, rfl, hown, -, hb⟩
      obtain ⟨ao, cap, rfl, -⟩ := RdE.of_owns hown (by simp)
      have B := hid hb
      clear hb hown
      simp only [List.length_nil]
      go_wp2_with fail
      go_ret2
      exact ⟨rfl, B.out⟩
    | cons s l =>
      rw [hr, h] at C
      have e1 : smallS n xs = s := by unfold smallS; rw [hr]; rfl
      have e2 : smallE n xs = 0 := by unfold smallE; rw [if_pos h, hr]; rfl
      rw [e1, e2]
      clear e1 e2 hr h hv
      go_enter Try.func19, Try.ntmps19
      go_wp2_with fail
      refine C.out.mono ?_
      rintro e w1 ⟨v1, rfl, hown, hl, hb⟩
      obtain ⟨ao, cap, rfl, -, -, h3⟩ := RdE.of_owns hown (by omega)
      obtain ⟨b, off, rfl, -, hc⟩ := h3 (by simp)
      have e0 : w1.cell? ⟨b, off, none⟩ = some (.int .u32 (iv s)) := hc 0 s rfl
      have B := hid hb
      clear hb hown hc h3
      rw [List.length_cons] at hl ⊢
      generalize l.length = m at *
      have m0 : (((m + 1 : Nat) : Int) == 0) = false := by simp; omega
      have m1 : (0 : Int) < (m : Int) + 1 := by omega
      go_wp2_with fail
      go_ret2
      exact ⟨rfl, B.out⟩
  · have e1 : smallS n xs = 0#32 := by unfold smallS resS; rw [if_neg h]; rfl
    have e2 : smallE n xs = validS n xs := by unfold smallE; rw [if_neg h]
    rw [e1, e2]
    have hne : (validS n xs != 0) = true := by simpa using h
    clear e1 e2 h hv
    generalize validS n xs = r at *
    go_enter Try.func19, Try.ntmps19
    go_wp2_with fail
    refine C.out.mono ?_
    rintro e w1 ⟨v1, rfl, -, -, hb⟩
    have B := hid hb
    clear hb
    go_wp2_with fail
    go_ret2
    exact ⟨rfl, B.out⟩

theorem refSmallest_any (n : Int) (xs : List S) (v : Value) (w : World) (hv : RdE enc w v xs) :
    Calls Try.prog 20 #[.int .i64 n, v] w fun e w' => e = .returned (.tuple #[enc (smallS n xs), .int .i64 (smallE n xs)]) ∧ Below w.heap.size w w' := by
  have C := hid (refAllW n xs v w hv)
  by_cases h : validS n xs = 0
  · cases hr : resS n xs with
    | nil =>
      rw [hr, h] at C
      have e1 : smallS n xs = 0#32 := by unfold smallS; rw [hr]; rfl
      have e2 : smallE n xs = 12 := by unfold smallE; rw [if_pos h, hr]; rfl
      rw [e1, e2]
      clear e1 e2 hr h hv
      go_enter Try.func20, Try.ntmps20
      go_wp2_with fail
      refine C.out.mono ?_
      rintro e w1 ⟨v1, rfl, hown, -, hb⟩
      obtain ⟨ao, cap, rfl, -⟩ := RdE.of_owns hown (by simp)
      have B := hid hb
      clear hb hown
      simp only [List.length_nil]
      go_wp2_with fail
      go_ret2
      exact ⟨rfl, B.out⟩
    | cons s l =>
      rw [hr, h] at C
      have e1 : smallS n xs = s := by unfold smallS; rw [hr]; rfl
      have e2 : smallE n xs = 0 := by unfold smallE; rw [if_pos h, hr]; rfl
      rw [e1, e2]
      clear e1 e2 hr h hv
      go_enter Try.func20, Try.ntmps20
      go_wp2_with fail
      refine C.out.mono ?_
      rintro e w1 ⟨v1, rfl, hown, hl, hb⟩
      obtain ⟨ao, cap, rfl, -, -, h3⟩ := RdE.of_owns hown (by omega)
      obtain ⟨b, off, rfl, -, hc⟩ := h3 (by simp)
      have e0 : w1.cell? ⟨b, off, none⟩ = some (.int .u32 (iv s)) := hc 0 s rfl
      have B := hid hb
      clear hb hown hc h3
      rw [List.length_cons] at hl ⊢
      generalize l.length = m at *
      have m0 : (((m + 1 : Nat) : Int) == 0) = false := by simp; omega
      have m1 : (0 : Int) < (m : Int) + 1 := by omega
      go_wp2_with fail
      go_ret2
      exact ⟨rfl, B.out⟩
  · have e1 : smallS n xs = 0#32 := by unfold smallS resS; rw [if_neg h]; rfl
    have e2 : smallE n xs = validS n xs := by unfold smallE; rw [if_neg h]
    rw [e1, e2]
    have hne : (validS n xs != 0) = true := by simpa using h
    clear e1 e2 h hv
    generalize validS n xs = r at *
    go_enter Try.func20, Try.ntmps20
    go_wp2_with fail
    refine C.out.mono ?_
    rintro e w1 ⟨v1, rfl, -, -, hb⟩
    have B := hid hb
    clear hb
    go_wp2_with fail
    go_ret2
    exact ⟨rfl, B.out⟩

/-- Witness of the reference. -/
def inL (l : List S) (s : S) : Bool := l.any (· == s)
theorem inL_iff {l : List S} {s : S} : inL l s = true ↔ s ∈ l := by
  unfold inL; rw [List.any_eq_true]; simp
def witS (n : Int) (xs sets : List S) (s : S) : Bool := ((s &&& ~~~ fullN (min n.toNat 32) == 0#32) && minS xs s) != inL sets s
theorem inW (xs : List S) (s : S) (v : Value) (w : World) (hv : RdE enc w v xs) :
    Calls Try.prog 35 #[v, enc s] w fun e w' => e = .returned (.bool (inL xs s)) ∧ w = w' := in_any xs s v w hv
theorem witness_any (n : Int) (xs sets : List S) (s : S) (v u : Value) (w : World) (hv : RdE enc w v xs) (hu : RdE enc w u sets) :
    Calls Try.prog 23 #[.int .i64 n, v, u, enc s] w fun e w' => e = .returned (.bool (witS n xs sets s)) ∧ w = w' := by
  have C1 := hid (full_any n)
  have C2 := hid (refMinimal_any xs s v w hv)
  have C3 := hid (inW sets s u w hu)
  unfold witS
  clear hv hu
  generalize fullN (min n.toNat 32) = fu at *
  cases h1 : (s &&& ~~~ fu == 0#32) with
  | false =>
    unfold enc at *
    generalize inL sets s = r at *
    rw [Bool.false_and]
    go_enter Try.func23, Try.ntmps23
    go_wp2_with fail
    refine (C1.out _).mono ?_
    rintro e w1 ⟨rfl, rfl⟩
    go_wp2_with fail
    refine C3.out.mono ?_
    rintro e w1 ⟨rfl, rfl⟩
    go_wp2_with fail
    go_ret
    exact ⟨ret_bool (by cases r <;> rfl), rfl⟩
  | true =>
    unfold enc at *
    generalize inL sets s = r at *
    generalize minS xs s = t at *
    rw [Bool.true_and]
    go_enter Try.func23, Try.ntmps23
    go_wp2_with fail
    refine (C1.out _).mono ?_
    rintro e w1 ⟨rfl, rfl⟩
    go_wp2_with fail
    refine C2.out.mono ?_
    rintro e w1 ⟨rfl, rfl⟩
    go_wp2_with fail
    refine C3.out.mono ?_
    rintro e w1 ⟨rfl, rfl⟩
    go_wp2_with fail
    go_ret
    exact ⟨ret_bool (by cases r <;> cases t <;> rfl), rfl⟩

end Go.Proofs.Ytpjcdiffigeajaa
