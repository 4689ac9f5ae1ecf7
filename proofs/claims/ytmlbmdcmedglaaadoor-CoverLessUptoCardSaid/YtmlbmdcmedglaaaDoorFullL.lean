/- Plain laws of the set of the first numbers. No program. -/
import Derived.Test.YtmlbmdcmedglaaaDoorOrdL
namespace Go.Proofs.YtmlbmdcmedglaaaDoor

def fullN : Nat → S
  | 0 => 0#32
  | k + 1 => fullN k ||| 1#32 <<< k

theorem fullN_get (k i : Nat) (hi : i < 32) : (fullN k).getLsbD i = decide (i < k) := by
  induction k with
  | zero => simp [fullN]
  | succ k ih =>
    unfold fullN
    rw [BitVec.getLsbD_or, ih, show (1#32 <<< k) = bit k from rfl, bit_get k i hi]
    by_cases h1 : i < k
    · simp [h1]; omega
    · by_cases h2 : i = k
      · subst h2; simp
      · simp [h1, h2]; omega
theorem sub_full {x : S} {n : Nat} : sub x (fullN n) ↔ x >>> n = 0#32 := by
  constructor
  · intro h
    apply bv_ext
    intro i hi
    rw [BitVec.getLsbD_ushiftRight, BitVec.getLsbD_zero]
    by_cases h2 : n + i < 32
    · cases hx : x.getLsbD (n + i) with
      | false => rfl
      | true =>
        have := h (n + i) h2 hx
        rw [fullN_get n _ h2, decide_eq_true_iff] at this; omega
    · exact BitVec.getLsbD_of_ge _ _ (by omega)
  · intro h i hi hx
    rw [fullN_get n i hi, decide_eq_true_iff]
    apply Classical.byContradiction
    intro hn2
    have := congrArg (fun x : S => x.getLsbD (i - n)) h
    simp only [BitVec.getLsbD_ushiftRight, BitVec.getLsbD_zero] at this
    rw [show n + (i - n) = i by omega, hx] at this; cases this
theorem over_full (x : S) (n : Nat) : (x &&& ~~~ fullN n != 0#32) = (x >>> n != 0#32) := by
  rw [Bool.eq_iff_iff, bne_iff_ne, bne_iff_ne, ne_eq, ne_eq, andNot_zero_iff, sub_full]
theorem fullN_toNat (m : Nat) (h : m ≤ 32) : (fullN m).toNat = 2 ^ m - 1 := by
  apply Nat.eq_of_testBit_eq
  intro i
  rw [Nat.testBit_two_pow_sub_one]
  by_cases hi : i < 32
  · exact fullN_get m i hi
  · have : ¬ i < m := by omega
    simp [this]
    exact BitVec.getLsbD_of_ge _ _ (by omega)

end Go.Proofs.YtmlbmdcmedglaaaDoor
