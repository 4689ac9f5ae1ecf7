/- Plain laws of the subsets of a set, in falling and in rising order of their numbers. No program. -/
import Derived.Test.YtmlbmdcmedglaaaDoorFdL
namespace Go.Proofs.YtmlbmdcmedglaaaDoor

theorem and_mod2 (a b : Nat) : (a &&& b) % 2 = (a % 2) * (b % 2) := by
  have h := Nat.and_mod_two_pow (a := a) (b := b) (n := 1)
  simp only [Nat.pow_one] at h
  rw [h]
  rcases Nat.mod_two_eq_zero_or_one a with ha | ha <;> rcases Nat.mod_two_eq_zero_or_one b with hb | hb <;> rw [ha, hb] <;> rfl
theorem and_half (a b : Nat) : (a &&& b) / 2 = a / 2 &&& b / 2 := Nat.and_div_two
theorem and_split (a b : Nat) : a &&& b = 2 * (a / 2 &&& b / 2) + (a % 2) * (b % 2) := by
  have h1 := and_half a b
  have h2 := and_mod2 a b
  omega
theorem nsub_half {x s : Nat} (h : x &&& s = x) : x / 2 &&& s / 2 = x / 2 ∧ x % 2 ≤ s % 2 := by
  refine ⟨by rw [← and_half, h], ?_⟩
  have := and_mod2 x s
  rw [h] at this
  rcases Nat.mod_two_eq_zero_or_one s with hb | hb <;> rw [hb] at this ⊢ <;> omega
theorem nsub_le {x s : Nat} (h : x &&& s = x) : x ≤ s := by rw [← h]; exact Nat.and_le_right

/-- The greatest subset below x. -/
theorem pred_sub : ∀ (n x y s : Nat), x < n → x &&& s = x → y &&& s = y → y < x → y ≤ (x - 1) &&& s := by
  intro n
  induction n with
  | zero => intro x y s h; omega
  | succ n ih =>
    intro x y s hn hx hy hlt
    obtain ⟨hx1, hx2⟩ := nsub_half hx
    obtain ⟨hy1, hy2⟩ := nsub_half hy
    have hsp := and_split (x - 1) s
    rcases Nat.mod_two_eq_zero_or_one x with hm | hm
    · have e1 : (x - 1) / 2 = x / 2 - 1 := by omega
      have e2 : (x - 1) % 2 = 1 := by omega
      rw [e1, e2, Nat.one_mul] at hsp
      have := ih (x / 2) (y / 2) (s / 2) (by omega) hx1 hy1
      by_cases h : y / 2 < x / 2
      · have := this h; omega
      · omega
    · have e1 : (x - 1) / 2 = x / 2 := by omega
      have e2 : (x - 1) % 2 = 0 := by omega
      rw [e1, e2, Nat.zero_mul, hx1] at hsp
      omega

theorem same_sub : ∀ (k x s : Nat), s < 2 ^ k → x &&& s = x → (x + 2 ^ k - 1 - s) &&& s = x := by
  intro k
  induction k with
  | zero => intro x s h hx; have := nsub_le hx; simp at h; subst h; simp; omega
  | succ k ih =>
    intro x s h hx
    have hle := nsub_le hx
    obtain ⟨hx1, hx2⟩ := nsub_half hx
    have hle1 := nsub_le hx1
    rw [Nat.pow_succ] at h ⊢
    generalize hN : 2 ^ k = N at *
    have hsp := and_split (x + N * 2 - 1 - s) s
    have hi := ih (x / 2) (s / 2) (by omega) hx1
    rcases Nat.mod_two_eq_zero_or_one x with hm | hm <;> rcases Nat.mod_two_eq_zero_or_one s with hs | hs
    · have e1 : (x + N * 2 - 1 - s) / 2 = x / 2 + N - 1 - s / 2 := by omega
      rw [e1, hi, hs, Nat.mul_zero] at hsp; omega
    · have e1 : (x + N * 2 - 1 - s) / 2 = x / 2 + N - 1 - s / 2 := by omega
      have e2 : (x + N * 2 - 1 - s) % 2 = 0 := by omega
      rw [e1, e2, hi, Nat.zero_mul] at hsp; omega
    · omega
    · have e1 : (x + N * 2 - 1 - s) / 2 = x / 2 + N - 1 - s / 2 := by omega
      have e2 : (x + N * 2 - 1 - s) % 2 = 1 := by omega
      rw [e1, e2, hi, hs] at hsp; omega

/-- The least subset above x. -/
theorem succ_sub : ∀ (k x y s : Nat), s < 2 ^ k → x &&& s = x → y &&& s = y → x < y → (x + 2 ^ k - s) &&& s ≤ y ∧ x < (x + 2 ^ k - s) &&& s := by
  intro k
  induction k with
  | zero => intro x y s h hx hy; have := nsub_le hx; have := nsub_le hy; simp at h; omega
  | succ k ih =>
    intro x y s h hx hy hlt
    have hle := nsub_le hx
    have hley := nsub_le hy
    obtain ⟨hx1, hx2⟩ := nsub_half hx
    obtain ⟨hy1, hy2⟩ := nsub_half hy
    have hle1 := nsub_le hx1
    have hle2 := nsub_le hy1
    have hsm := same_sub k (x / 2) (s / 2) (by rw [Nat.pow_succ] at h; omega) hx1
    rw [Nat.pow_succ] at h ⊢
    have hi := ih (x / 2) (y / 2) (s / 2) (by omega) hx1 hy1
    generalize hN : 2 ^ k = N at *
    have hsp := and_split (x + N * 2 - s) s
    rcases Nat.mod_two_eq_zero_or_one x with hm | hm <;> rcases Nat.mod_two_eq_zero_or_one s with hs | hs
    · have e1 : (x + N * 2 - s) / 2 = x / 2 + N - s / 2 := by omega
      rw [e1, hs, Nat.mul_zero] at hsp
      have := hi (by omega); omega
    · have e1 : (x + N * 2 - s) / 2 = x / 2 + N - 1 - s / 2 := by omega
      have e2 : (x + N * 2 - s) % 2 = 1 := by omega
      rw [e1, e2, hsm, hs] at hsp; omega
    · omega
    · have e1 : (x + N * 2 - s) / 2 = x / 2 + N - s / 2 := by omega
      have e2 : (x + N * 2 - s) % 2 = 0 := by omega
      rw [e1, e2, Nat.zero_mul] at hsp
      have := hi (by omega); omega

/-! The same at sets. -/
theorem sub_nat {a b : S} : sub a b ↔ a.toNat &&& b.toNat = a.toNat := by
  rw [← and_self_iff, ← BitVec.toNat_and]
  exact ⟨fun h => by rw [h], fun h => BitVec.eq_of_toNat_eq h⟩
theorem and_sub_right (a b : S) : sub (a &&& b) b := fun i hi h => by rw [BitVec.getLsbD_and, Bool.and_eq_true] at h; exact h.2
theorem and_sub_left (a b : S) : sub (a &&& b) a := fun i hi h => by rw [BitVec.getLsbD_and, Bool.and_eq_true] at h; exact h.1
theorem pred_toNat {x : S} (h : x ≠ 0#32) : (x - 1#32).toNat = x.toNat - 1 := by
  have : x.toNat ≠ 0 := fun e => h (BitVec.eq_of_toNat_eq (by simpa using e))
  rw [BitVec.toNat_sub]
  have := x.isLt
  simp; omega
/-- What the falling walk has met at x: the subsets that are not less. -/
theorem fall_next {s x y : S} (hx : sub x s) (h0 : x ≠ 0#32) (hy : sub y s) : ((x - 1#32) &&& s).toNat ≤ y.toNat ↔ y = (x - 1#32) &&& s ∨ x.toNat ≤ y.toNat := by
  have hp := pred_toNat h0
  have h1 : x.toNat ≠ 0 := fun e => h0 (BitVec.eq_of_toNat_eq (by simpa using e))
  have hl := pred_sub (x.toNat + 1) x.toNat y.toNat s.toNat (by omega) (sub_nat.1 hx) (sub_nat.1 hy)
  have e : ((x - 1#32) &&& s).toNat = (x.toNat - 1) &&& s.toNat := by rw [BitVec.toNat_and, hp]
  have hle : (x.toNat - 1) &&& s.toNat ≤ x.toNat - 1 := Nat.and_le_left
  constructor
  · intro h
    by_cases h2 : x.toNat ≤ y.toNat
    · exact .inr h2
    · refine .inl (BitVec.eq_of_toNat_eq ?_)
      have := hl (by omega)
      omega
  · rintro (rfl | h)
    · exact Nat.le_refl _
    · omega
theorem fall_less {s x : S} (h0 : x ≠ 0#32) : ((x - 1#32) &&& s).toNat < x.toNat := by
  have h1 : x.toNat ≠ 0 := fun e => h0 (BitVec.eq_of_toNat_eq (by simpa using e))
  have hp := pred_toNat h0
  rw [BitVec.toNat_and, hp]
  have : (x.toNat - 1) &&& s.toNat ≤ x.toNat - 1 := Nat.and_le_left
  omega

theorem IsOrd.filter {xs : List S} {p : S → Prop} (h : IsOrd xs p) (q : S → Bool) : IsOrd (xs.filter q) (fun s => p s ∧ q s = true) :=
  ⟨h.1.sublist List.filter_sublist, fun s => by rw [List.mem_filter, h.2 s]⟩

end Go.Proofs.YtmlbmdcmedglaaaDoor
