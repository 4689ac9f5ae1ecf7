/- Plain laws on 32-bit sets: the lowest member, a set without it, single members. No program. -/
import Derived.Test.YtmlbmdcmedglaaaDoorBase
namespace Go.Proofs.YtmlbmdcmedglaaaDoor

theorem bv_ext {a b : S} (h : ∀ i, i < 32 → a.getLsbD i = b.getLsbD i) : a = b := BitVec.eq_of_getLsbD_eq h

/-- The set with one member. -/
def bit (i : Nat) : S := 1#32 <<< i
theorem bit_get (i j : Nat) (hj : j < 32) : (bit i).getLsbD j = decide (j = i) := by
  unfold bit
  rw [BitVec.getLsbD_shiftLeft]
  by_cases h : j < i
  · simp [h]; omega
  · by_cases e : j = i
    · subst e; simp [hj]
    · simp [hj, h, BitVec.getLsbD_one, e]; omega

theorem ne_zero_bit {r : S} (h : r ≠ 0#32) : ∃ i, i < 32 ∧ r.getLsbD i = true := by
  apply Classical.byContradiction
  intro hn
  apply h
  apply bv_ext
  intro i hi
  have : ¬ r.getLsbD i = true := fun e => hn ⟨i, hi, e⟩
  simpa using this

/-- The least member. -/
theorem least_bit (r : S) : ∀ n, (∃ i, i < n ∧ r.getLsbD i = true) → ∃ i, i < n ∧ r.getLsbD i = true ∧ ∀ j, j < i → r.getLsbD j = false := by
  intro n
  induction n with
  | zero => rintro ⟨i, hi, _⟩; omega
  | succ n ih =>
    intro h
    by_cases h' : ∃ i, i < n ∧ r.getLsbD i = true
    · obtain ⟨i, hi, h1, h2⟩ := ih h'
      exact ⟨i, by omega, h1, h2⟩
    · obtain ⟨i, hi, h1⟩ := h
      refine ⟨i, hi, h1, fun j hj => ?_⟩
      have : ¬ r.getLsbD j = true := fun e => h' ⟨j, by omega, e⟩
      simpa using this

theorem nat_low {a i : Nat} (h1 : a.testBit i = true) (h2 : ∀ j, j < i → a.testBit j = false) : ∃ m, a = 2 ^ i * (2 * m + 1) := by
  have hmod : a % 2 ^ i = 0 := by
    apply Nat.eq_of_testBit_eq
    intro j
    rw [Nat.testBit_mod_two_pow]
    by_cases hj : j < i
    · simp [h2 j hj]
    · simp [hj]
  have hd : a = 2 ^ i * (a / 2 ^ i) := by
    have := Nat.div_add_mod a (2 ^ i)
    omega
  have hodd : (a / 2 ^ i) % 2 = 1 := by
    rw [Nat.testBit_eq_decide_div_mod_eq] at h1
    simpa using h1
  refine ⟨a / 2 ^ i / 2, ?_⟩
  have : 2 * (a / 2 ^ i / 2) + 1 = a / 2 ^ i := by omega
  rw [this]; exact hd

theorem sub_one_bit {r : S} {i : Nat} (hi : i < 32) (h1 : r.getLsbD i = true) (h2 : ∀ j, j < i → r.getLsbD j = false) (j : Nat) (hj : j < 32) :
    (r - 1#32).getLsbD j = if j < i then true else if j = i then false else r.getLsbD j := by
  obtain ⟨m, hm⟩ := nat_low (a := r.toNat) (i := i) (by simpa [BitVec.getLsbD] using h1) (fun j hj => by simpa [BitVec.getLsbD] using h2 j hj)
  have hp : 0 < 2 ^ i := Nat.two_pow_pos i
  have hlt := r.isLt
  have hsub : (r - 1#32).toNat = 2 ^ i * (2 * m) + (2 ^ i - 1) := by
    have e : 2 ^ i * (2 * m + 1) = 2 ^ i * (2 * m) + 2 ^ i := by rw [Nat.mul_add, Nat.mul_one]
    rw [BitVec.toNat_sub]
    simp only [BitVec.toNat_ofNat]
    omega
  have hr : r.toNat = 2 ^ i * (2 * m + 1) + 0 := by omega
  simp only [BitVec.getLsbD, hsub]
  rw [hr, Nat.testBit_two_pow_mul_add _ (by omega : 2 ^ i - 1 < 2 ^ i), Nat.testBit_two_pow_mul_add _ hp]
  by_cases h : j < i
  · simp [h, Nat.testBit_two_pow_sub_one]
  · rw [if_neg h, if_neg h, if_neg h]
    by_cases e : j = i
    · subst e; simp
    · rw [if_neg e]
      obtain ⟨t, rfl⟩ : ∃ t, j = i + (t + 1) := ⟨j - i - 1, by omega⟩
      rw [show i + (t + 1) - i = t + 1 by omega, Nat.testBit_succ, Nat.testBit_succ]
      congr 1; omega

/-- 'rest & -rest' is the set of the least member, 'rest & (rest - 1)' the set without it. -/
theorem low_bit {r : S} (h : r ≠ 0#32) : ∃ i, i < 32 ∧ r.getLsbD i = true ∧ (∀ j, j < i → r.getLsbD j = false) ∧ r &&& -r = bit i ∧ r &&& (r - 1#32) = r &&& ~~~ bit i := by
  obtain ⟨i, hi, h1, h2⟩ := least_bit r 32 (ne_zero_bit h)
  have hs := sub_one_bit hi h1 h2
  refine ⟨i, hi, h1, h2, ?_, ?_⟩
  · have e : -r = ~~~ (r - 1#32) := by
      apply BitVec.eq_of_toNat_eq
      rw [BitVec.toNat_neg, BitVec.toNat_not, BitVec.toNat_sub]
      have := r.isLt
      simp
      omega
    rw [e]
    apply bv_ext
    intro j hj
    rw [BitVec.getLsbD_and, BitVec.getLsbD_not, hs j hj, bit_get i j hj]
    by_cases a : j < i
    · simp [a, h2 j a]; omega
    · by_cases b : j = i
      · subst b; simp [h1, hj]
      · simp [a, b]; intros; assumption
  · apply bv_ext
    intro j hj
    rw [BitVec.getLsbD_and, BitVec.getLsbD_and, BitVec.getLsbD_not, hs j hj, bit_get i j hj]
    by_cases a : j < i
    · simp [a, h2 j a]
    · by_cases b : j = i
      · subst b; simp
      · simp [a, b, hj]

theorem drop_low_lt {r : S} (h : r ≠ 0#32) : (r &&& (r - 1#32)).toNat < r.toNat := by
  have h0 : r.toNat ≠ 0 := fun e => h (BitVec.eq_of_toNat_eq (by simpa using e))
  rw [BitVec.toNat_and]
  refine Nat.lt_of_le_of_lt Nat.and_le_right ?_
  rw [BitVec.toNat_sub]
  have := r.isLt
  simp
  omega

end Go.Proofs.YtmlbmdcmedglaaaDoor
