/- The walks of the two Smallest, of Witness, of Dual, of few; All of both in one statement each. -/
import Derived.Test.YtciamnkalmihcaaRefAll
import Derived.Test.YtciamnkalmihcaaMap
namespace Go.Proofs.Ytciamnkalmihcaa
open Go.RowKit

/-- What All returns, whatever the input: with the error there is no set. -/
def resS (n : Int) (xs : List S) : List S := if validS n xs = 0 then allS xs else []
theorem allW (n : Int) (xs : List S) (v : Value) (w : World) (hv : RdE enc w v xs) :
    Calls Try.prog 102 #[.int .i64 n, v] w fun e w' => ∃ v', e = .returned (.tuple #[v', .int .i64 (validS n xs)]) ∧ w'.ownsRow w.heap.size 24 1 v' (resS n xs).length ((resS n xs).map enc) ∧ (resS n xs).length ≤ 65536 ∧ Below w.heap.size w w' := by
  unfold resS
  by_cases h : validS n xs = 0
  · rw [if_pos h, h]; exact all_any n xs v w hv h
  · rw [if_neg h]
    exact (all_err n xs v w hv h).mono fun e w' ⟨he, hb⟩ => ⟨_, he, World.ownsRow_nil _ _ _ _, by simp, hb⟩
theorem refAllW (n : Int) (xs : List S) (v : Value) (w : World) (hv : RdE enc w v xs) :
    Calls Try.prog 39 #[.int .i64 n, v] w fun e w' => ∃ v', e = .returned (.tuple #[v', .int .i64 (validS n xs)]) ∧ w'.ownsRow w.heap.size 24 1 v' (resS n xs).length ((resS n xs).map enc) ∧ (resS n xs).length ≤ 65536 ∧ Below w.heap.size w w' := by
  unfold resS
  by_cases h : validS n xs = 0
  · rw [if_pos h, h]; exact refAll_any n xs v w hv h
  · rw [if_neg h]
    exact (refAll_err n xs v w hv h).mono fun e w' ⟨he, hb⟩ => ⟨_, he, World.ownsRow_nil _ _ _ _, by simp, hb⟩

/-- What Smallest returns. -/
def smallS (n : Int) (xs : List S) : S := (resS n xs).headD 0#32
def smallE (n : Int) (xs : List S) : Int := if validS n xs = 0 then (if (resS n xs).isEmpty then 12 else 0) else validS n xs



/-- Witness of the reference. -/
def inL (l : List S) (s : S) : Bool := l.any (· == s)
theorem inL_iff {l : List S} {s : S} : inL l s = true ↔ s ∈ l := by
  unfold inL; rw [List.any_eq_true]; simp
def witS (n : Int) (xs sets : List S) (s : S) : Bool := ((s &&& ~~~ fullN (min n.toNat 32) == 0#32) && minS xs s) != inL sets s
theorem inW (xs : List S) (s : S) (v : Value) (w : World) (hv : RdE enc w v xs) :
    Calls Try.prog 37 #[v, enc s] w fun e w' => e = .returned (.bool (inL xs s)) ∧ w = w' := in_any xs s v w hv

end Go.Proofs.Ytciamnkalmihcaa
