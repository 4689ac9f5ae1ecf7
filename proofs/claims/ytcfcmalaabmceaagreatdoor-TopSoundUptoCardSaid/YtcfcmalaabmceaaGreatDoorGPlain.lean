/- Texts that belong together, in one file. -/
import Derived.Test.YtcfcmalaabmceaaGreatDoorBase
/- Plain laws on 32-bit sets: the lowest member, a set without it, single members. No program. -/
namespace Go.Proofs.YtcfcmalaabmceaaGreatDoor

theorem bv_ext {a b : S} (h : ∀ i, i < 32 → a.getLsbD i = b.getLsbD i) : a = b := BitVec.eq_of_getLsbD_eq h

/-- The set with one member. -/
def bit (i : Nat) : S := 1#32 <<< i
theorem bit_get (i j : Nat) (hj : j < 32) : (bit i).getLsbD j = decide (j = i) := by
  unfold bit
  rw [BitVec.getLsbD_shiftLeft]
  by_cases h : j < i
  · simp [h]; omega
  · by_cases e : j = i
    · subst e; simp [hj]
    · simp [hj, h, BitVec.getLsbD_one, e]; omega

theorem ne_zero_bit {r : S} (h : r ≠ 0#32) : ∃ i, i < 32 ∧ r.getLsbD i = true := by
  apply Classical.byContradiction
  intro hn
  apply h
  apply bv_ext
  intro i hi
  have : ¬ r.getLsbD i = true := fun e => hn ⟨i, hi, e⟩
  simpa using this

/-- The least member. -/
theorem least_bit (r : S) : ∀ n, (∃ i, i < n ∧ r.getLsbD i = true) → ∃ i, i < n ∧ r.getLsbD i = true ∧ ∀ j, j < i → r.getLsbD j = false := by
  intro n
  induction n with
  | zero => rintro ⟨i, hi, _⟩; omega
  | succ n ih =>
    intro h
    by_cases h' : ∃ i, i < n ∧ r.getLsbD i = true
    · obtain ⟨i, hi, h1, h2⟩ := ih h'
      exact ⟨i, by omega, h1, h2⟩
    · obtain ⟨i, hi, h1⟩ := h
      refine ⟨i, hi, h1, fun j hj => ?_⟩
      have : ¬ r.getLsbD j = true := fun e => h' ⟨j, by omega, e⟩
      simpa using this

theorem nat_low {a i : Nat} (h1 : a.testBit i = true) (h2 : ∀ j, j < i → a.testBit j = false) : ∃ m, a = 2 ^ i * (2 * m + 1) := by
  have hmod : a % 2 ^ i = 0 := by
    apply Nat.eq_of_testBit_eq
    intro j
    rw [Nat.testBit_mod_two_pow]
    by_cases hj : j < i
    · simp [h2 j hj]
    · simp [hj]
  have hd : a = 2 ^ i * (a / 2 ^ i) := by
    have := Nat.div_add_mod a (2 ^ i)
    omega
  have hodd : (a / 2 ^ i) % 2 = 1 := by
    rw [Nat.testBit_eq_decide_div_mod_eq] at h1
    simpa using h1
  refine ⟨a / 2 ^ i / 2, ?_⟩
  have : 2 * (a / 2 ^ i / 2) + 1 = a / 2 ^ i := by omega
  rw [this]; exact hd

theorem sub_one_bit {r : S} {i : Nat} (hi : i < 32) (h1 : r.getLsbD i = true) (h2 : ∀ j, j < i → r.getLsbD j = false) (j : Nat) (hj : j < 32) :
    (r - 1#32).getLsbD j = if j < i then true else if j = i then false else r.getLsbD j := by
  obtain ⟨m, hm⟩ := nat_low (a := r.toNat) (i := i) (by simpa [BitVec.getLsbD] using h1) (fun j hj => by simpa [BitVec.getLsbD] using h2 j hj)
  have hp : 0 < 2 ^ i := Nat.two_pow_pos i
  have hlt := r.isLt
  have hsub : (r - 1#32).toNat = 2 ^ i * (2 * m) + (2 ^ i - 1) := by
    have e : 2 ^ i * (2 * m + 1) = 2 ^ i * (2 * m) + 2 ^ i := by rw [Nat.mul_add, Nat.mul_one]
    rw [BitVec.toNat_sub]
    simp only [BitVec.toNat_ofNat]
    omega
  have hr : r.toNat = 2 ^ i * (2 * m + 1) + 0 := by omega
  simp only [BitVec.getLsbD, hsub]
  rw [hr, Nat.testBit_two_pow_mul_add _ (by omega : 2 ^ i - 1 < 2 ^ i), Nat.testBit_two_pow_mul_add _ hp]
  by_cases h : j < i
  · simp [h, Nat.testBit_two_pow_sub_one]
  · rw [if_neg h, if_neg h, if_neg h]
    by_cases e : j = i
    · subst e; simp
    · rw [if_neg e]
      obtain ⟨t, rfl⟩ : ∃ t, j = i + (t + 1) := ⟨j - i - 1, by omega⟩
      rw [show i + (t + 1) - i = t + 1 by omega, Nat.testBit_succ, Nat.testBit_succ]
      congr 1; omega

/-- 'rest & -rest' is the set of the least member, 'rest & (rest - 1)' the set without it. -/
theorem low_bit {r : S} (h : r ≠ 0#32) : ∃ i, i < 32 ∧ r.getLsbD i = true ∧ (∀ j, j < i → r.getLsbD j = false) ∧ r &&& -r = bit i ∧ r &&& (r - 1#32) = r &&& ~~~ bit i := by
  obtain ⟨i, hi, h1, h2⟩ := least_bit r 32 (ne_zero_bit h)
  have hs := sub_one_bit hi h1 h2
  refine ⟨i, hi, h1, h2, ?_, ?_⟩
  · have e : -r = ~~~ (r - 1#32) := by
      apply BitVec.eq_of_toNat_eq
      rw [BitVec.toNat_neg, BitVec.toNat_not, BitVec.toNat_sub]
      have := r.isLt
      simp
      omega
    rw [e]
    apply bv_ext
    intro j hj
    rw [BitVec.getLsbD_and, BitVec.getLsbD_not, hs j hj, bit_get i j hj]
    by_cases a : j < i
    · simp [a, h2 j a]; omega
    · by_cases b : j = i
      · subst b; simp [h1, hj]
      · simp [a, b]; intros; assumption
  · apply bv_ext
    intro j hj
    rw [BitVec.getLsbD_and, BitVec.getLsbD_and, BitVec.getLsbD_not, hs j hj, bit_get i j hj]
    by_cases a : j < i
    · simp [a, h2 j a]
    · by_cases b : j = i
      · subst b; simp
      · simp [a, b, hj]

theorem drop_low_lt {r : S} (h : r ≠ 0#32) : (r &&& (r - 1#32)).toNat < r.toNat := by
  have h0 : r.toNat ≠ 0 := fun e => h (BitVec.eq_of_toNat_eq (by simpa using e))
  rw [BitVec.toNat_and]
  refine Nat.lt_of_le_of_lt Nat.and_le_right ?_
  rw [BitVec.toNat_sub]
  have := r.isLt
  simp
  omega

end Go.Proofs.YtcfcmalaabmceaaGreatDoor


/- Plain laws on the order of sets: sizes, the order, sorted lists without repetition. No program. -/
namespace Go.Proofs.YtcfcmalaabmceaaGreatDoor

/-- How many of the k lowest bits are set. -/
def popN : Nat → Nat → Nat
  | 0, _ => 0
  | k + 1, x => x % 2 + popN k (x / 2)
theorem popN_split (j k : Nat) : ∀ a b, b < 2 ^ j → popN (j + k) (2 ^ j * a + b) = popN j b + popN k a := by
  induction j with
  | zero => intro a b hb; simp at hb; subst hb; simp [popN]
  | succ j ih =>
    intro a b hb
    have e1 : (2 ^ (j + 1) * a + b) % 2 = b % 2 := by
      rw [Nat.pow_succ, Nat.mul_comm (2 ^ j) 2, Nat.mul_assoc]; omega
    have e2 : (2 ^ (j + 1) * a + b) / 2 = 2 ^ j * a + b / 2 := by
      rw [Nat.pow_succ, Nat.mul_comm (2 ^ j) 2, Nat.mul_assoc]; omega
    rw [show j + 1 + k = (j + k) + 1 by omega]
    simp only [popN]
    rw [e1, e2, ih a (b / 2) (by rw [Nat.pow_succ] at hb; omega)]
    omega
theorem popN_count (k : Nat) : ∀ x : Nat, (List.range k).countP (fun i => x.testBit i) = popN k x := by
  induction k with
  | zero => intro x; rfl
  | succ k ih =>
    intro x
    rw [List.range_succ_eq_map, List.countP_cons, List.countP_map, popN, ← ih (x / 2)]
    have : (fun i => x.testBit i) ∘ Nat.succ = fun i => (x / 2).testBit i := by funext i; simp [Nat.testBit_succ]
    rw [this, Nat.testBit_zero]
    have := Nat.mod_two_eq_zero_or_one x
    rcases this with h | h <;> simp [h] <;> omega
theorem popN_le (k : Nat) : ∀ x, popN k x ≤ k := by
  induction k with
  | zero => intro x; simp [popN]
  | succ k ih => intro x; have := ih (x / 2); have := Nat.mod_lt x (show 2 > 0 by omega); simp only [popN]; omega
/-- The size of a set. -/
def pop (s : S) : Nat := popN 32 s.toNat
theorem pop_bytes (s : S) : pop s = popN 8 (s >>> 24).toNat + popN 8 (s >>> 16 &&& 255#32).toNat + popN 8 (s >>> 8 &&& 255#32).toNat + popN 8 (s &&& 255#32).toNat := by
  have hs := s.isLt
  have m : ∀ x : S, (x &&& 255#32).toNat = x.toNat % 256 := by
    intro x
    rw [BitVec.toNat_and]
    exact Nat.and_two_pow_sub_one_eq_mod x.toNat 8
  rw [m, m, m]
  simp only [BitVec.toNat_ushiftRight, Nat.shiftRight_eq_div_pow]
  have h1 := popN_split 8 24 (s.toNat / 256) (s.toNat % 256) (by omega)
  have h2 := popN_split 8 16 (s.toNat / 256 / 256) (s.toNat / 256 % 256) (by omega)
  have h3 := popN_split 8 8 (s.toNat / 256 / 256 / 256) (s.toNat / 256 / 256 % 256) (by omega)
  have e1 : 2 ^ 8 * (s.toNat / 256) + s.toNat % 256 = s.toNat := by omega
  have e2 : 2 ^ 8 * (s.toNat / 256 / 256) + s.toNat / 256 % 256 = s.toNat / 256 := by omega
  have e3 : 2 ^ 8 * (s.toNat / 256 / 256 / 256) + s.toNat / 256 / 256 % 256 = s.toNat / 256 / 256 := by omega
  rw [e1] at h1; rw [e2] at h2; rw [e3] at h3
  unfold pop
  rw [show 8 + 24 = 32 by rfl] at h1
  rw [show 8 + 16 = 24 by rfl] at h2
  rw [show 8 + 8 = 16 by rfl] at h3
  rw [h1, h2, h3, show s.toNat / 2 ^ 24 = s.toNat / 256 / 256 / 256 by omega, show s.toNat / 2 ^ 16 = s.toNat / 256 / 256 by omega, show s.toNat / 2 ^ 8 = s.toNat / 256 by omega]
  omega

/-- cmp.Compare. -/
def cmpI (x y : Int) : Int := if x < y then -1 else if y < x then 1 else 0
/-- The order of sets. -/
def cmpS (a b : S) : Int := if cmpI (pop a) (pop b) ≠ 0 then cmpI (pop a) (pop b) else cmpI (iv a) (iv b)

/-- a comes before b. -/
def bef (a b : S) : Prop := cmpS a b < 0
instance (a b : S) : Decidable (bef a b) := inferInstanceAs (Decidable (cmpS a b < 0))
theorem bef_iff (a b : S) : bef a b ↔ pop a < pop b ∨ pop a = pop b ∧ a.toNat < b.toNat := by
  unfold bef cmpS cmpI iv
  by_cases h1 : (pop a : Int) < pop b
  · simp [h1]; omega
  · by_cases h2 : (pop b : Int) < pop a
    · simp [h1, h2]; omega
    · have h3 : pop a = pop b := by omega
      simp [h3]
      split <;> (try split) <;> omega
theorem bef_irrefl (a : S) : ¬ bef a a := by rw [bef_iff]; omega
theorem bef_trans {a b c : S} (h : bef a b) (k : bef b c) : bef a c := by rw [bef_iff] at *; omega
theorem bef_total {a b : S} (h : ¬ bef a b) (k : ¬ bef b a) : a = b := by
  rw [bef_iff] at *
  exact BitVec.eq_of_toNat_eq (by omega)
theorem bef_asymm {a b : S} (h : bef a b) : ¬ bef b a := by rw [bef_iff] at *; omega

/-- ys holds just the sets with the property p, each once, in order. -/
def IsOrd (ys : List S) (p : S → Prop) : Prop := ys.Pairwise bef ∧ ∀ s, s ∈ ys ↔ p s

theorem sorted_uniq : ∀ (xs ys : List S), xs.Pairwise bef → ys.Pairwise bef → (∀ s, s ∈ xs ↔ s ∈ ys) → xs = ys := by
  intro xs
  induction xs with
  | nil =>
    intro ys _ _ h
    cases ys with
    | nil => rfl
    | cons y ys => exact absurd ((h y).2 (by simp)) (by simp)
  | cons x xs ih =>
    intro ys hx hy h
    cases ys with
    | nil => exact absurd ((h x).1 (by simp)) (by simp)
    | cons y ys =>
      rw [List.pairwise_cons] at hx hy
      have hxy : x = y := by
        have h1 := (h x).1 (by simp)
        have h2 := (h y).2 (by simp)
        rw [List.mem_cons] at h1 h2
        rcases h1 with h1 | h1
        · exact h1
        · rcases h2 with h2 | h2
          · exact h2.symm
          · exact absurd (hx.1 y h2) (bef_asymm (hy.1 x h1))
      subst hxy
      rw [ih ys hx.2 hy.2 (fun s => ?_)]
      constructor
      · intro hs
        have h1 := (h s).1 (List.mem_cons_of_mem _ hs)
        rw [List.mem_cons] at h1
        rcases h1 with rfl | h1
        · exact absurd (hx.1 s hs) (bef_irrefl _)
        · exact h1
      · intro hs
        have h1 := (h s).2 (List.mem_cons_of_mem _ hs)
        rw [List.mem_cons] at h1
        rcases h1 with rfl | h1
        · exact absurd (hy.1 s hs) (bef_irrefl _)
        · exact h1
theorem IsOrd.uniq {xs ys : List S} {p q : S → Prop} (h : IsOrd xs p) (k : IsOrd ys q) (e : ∀ s, p s ↔ q s) : xs = ys :=
  sorted_uniq xs ys h.1 k.1 (fun s => (h.2 s).trans ((e s).trans (k.2 s).symm))
theorem IsOrd.congr {xs : List S} {p q : S → Prop} (h : IsOrd xs p) (e : ∀ s, p s ↔ q s) : IsOrd xs q := ⟨h.1, fun s => (h.2 s).trans (e s)⟩

/-- Subsets. -/
def sub (a b : S) : Prop := ∀ i, i < 32 → a.getLsbD i = true → b.getLsbD i = true
theorem sub_refl (a : S) : sub a a := fun _ _ h => h
theorem sub_trans {a b c : S} (h : sub a b) (k : sub b c) : sub a c := fun i hi x => k i hi (h i hi x)
theorem sub_antisymm {a b : S} (h : sub a b) (k : sub b a) : a = b := bv_ext fun i hi => by
  rw [Bool.eq_iff_iff]; exact ⟨h i hi, k i hi⟩
theorem and_self_iff {a b : S} : a &&& b = a ↔ sub a b := by
  constructor
  · intro h i hi ha
    rw [← h, BitVec.getLsbD_and] at ha
    simp at ha; exact ha.2
  · intro h
    apply bv_ext
    intro i hi
    rw [BitVec.getLsbD_and]
    have := h i hi
    cases hx : a.getLsbD i <;> simp_all
theorem andNot_zero_iff {a b : S} : a &&& ~~~ b = 0#32 ↔ sub a b := by
  constructor
  · intro h i hi ha
    have := congrArg (fun x : S => x.getLsbD i) h
    rw [BitVec.getLsbD_and, BitVec.getLsbD_not, ha] at this
    simpa [hi] using this
  · intro h
    apply bv_ext
    intro i hi
    rw [BitVec.getLsbD_and, BitVec.getLsbD_not]
    have := h i hi
    cases hx : a.getLsbD i <;> simp_all
theorem and_zero_iff {a b : S} : a &&& b = 0#32 ↔ ∀ i, i < 32 → a.getLsbD i = true → b.getLsbD i = false := by
  constructor
  · intro h i hi ha
    have := congrArg (fun x : S => x.getLsbD i) h
    rw [BitVec.getLsbD_and, ha] at this
    simpa using this
  · intro h
    apply bv_ext
    intro i hi
    rw [BitVec.getLsbD_and]
    have := h i hi
    cases hx : a.getLsbD i <;> simp_all
theorem pop_count (s : S) : pop s = (List.range 32).countP (fun i => s.getLsbD i) := by
  unfold pop; rw [← popN_count]; rfl
theorem countP_le_of {α : Type} (p q : α → Bool) : ∀ (l : List α), (∀ x ∈ l, p x = true → q x = true) → l.countP p ≤ l.countP q ∧ ((∃ x ∈ l, p x = false ∧ q x = true) → l.countP p < l.countP q) := by
  intro l
  induction l with
  | nil => intro _; simp
  | cons x l ih =>
    intro h
    have ⟨h1, h2⟩ := ih (fun y hy => h y (List.mem_cons_of_mem _ hy))
    have hx := h x (by simp)
    rw [List.countP_cons, List.countP_cons]
    refine ⟨?_, ?_⟩
    · cases hp : p x <;> cases hq : q x <;> simp_all <;> omega
    · rintro ⟨y, hy, hpy, hqy⟩
      rw [List.mem_cons] at hy
      rcases hy with rfl | hy
      · simp [hpy, hqy]; omega
      · have := h2 ⟨y, hy, hpy, hqy⟩
        cases hp : p x <;> cases hq : q x <;> simp_all <;> omega
theorem sub_pop_lt {a b : S} (h : sub a b) (hne : a ≠ b) : pop a < pop b := by
  rw [pop_count, pop_count]
  refine (countP_le_of _ _ _ (fun i hi => h i (List.mem_range.1 hi))).2 ?_
  apply Classical.byContradiction
  intro hn
  apply hne
  apply bv_ext
  intro i hi
  rw [Bool.eq_iff_iff]
  refine ⟨h i hi, fun hb => ?_⟩
  apply Classical.byContradiction
  intro ha
  exact hn ⟨i, List.mem_range.2 hi, by simpa using ha, hb⟩

/-- The sort: what comes before stays before. -/
def sortS (xs : List S) : List S := xs.mergeSort (fun x y => !decide (bef y x))
theorem sortS_perm (xs : List S) : (sortS xs).Perm xs := List.mergeSort_perm _ _
theorem sortS_sorted (xs : List S) : (sortS xs).Pairwise (fun x y => ¬ bef y x) := by
  have h := List.pairwise_mergeSort (le := fun x y : S => !decide (bef y x)) ?_ ?_ xs
  · exact h.imp (fun h => by simpa using h)
  · intro a b c
    simp only [Bool.not_eq_true', decide_eq_false_iff_not]
    intro h1 h2 h3
    rw [bef_iff] at *; omega
  · intro a b
    simp only [Bool.or_eq_true, Bool.not_eq_true', decide_eq_false_iff_not]
    by_cases h : bef b a
    · right; exact bef_asymm h
    · left; exact h


/-! The insertion. -/

/-! Transversals. -/
/-- s has a common member with each edge. -/
def hitsS (xs : List S) (s : S) : Bool := !xs.any (fun x => x &&& s == 0#32)
/-- Some member below n can leave. -/
def leaves (xs : List S) (s : S) (n : Nat) : Bool := (List.range n).any (fun i => s.getLsbD i && hitsS xs (s &&& ~~~ bit i))
end Go.Proofs.YtcfcmalaabmceaaGreatDoor


/- Plain laws on minimal transversals: the extension edge by edge gives them all. No program. -/
namespace Go.Proofs.YtcfcmalaabmceaaGreatDoor

theorem andNot_bit (s : S) (i j : Nat) (hj : j < 32) : (s &&& ~~~ bit i).getLsbD j = (s.getLsbD j && !decide (j = i)) := by
  rw [BitVec.getLsbD_and, BitVec.getLsbD_not, bit_get i j hj]; simp [hj]

/-- The members, ascending. -/
def memN (s : S) (k : Nat) : List Nat := (List.range k).filter (fun i => s.getLsbD i)
theorem memN_yes {s : S} {k : Nat} (h : s.getLsbD k = true) : memN s (k + 1) = memN s k ++ [k] := by
  unfold memN; rw [List.range_succ, List.filter_append]; simp [h]
theorem memN_no {s : S} {k : Nat} (h : s.getLsbD k = false) : memN s (k + 1) = memN s k := by
  unfold memN; rw [List.range_succ, List.filter_append]; simp [h]
theorem memN_length (s : S) (k : Nat) : (memN s k).length ≤ k := by
  unfold memN; have := List.length_filter_le (fun i => s.getLsbD i) (List.range k); simpa using this
theorem mem_memN {s : S} {k i : Nat} : i ∈ memN s k ↔ i < k ∧ s.getLsbD i = true := by
  unfold memN; rw [List.mem_filter, List.mem_range]
theorem memN_zero : memN 0#32 32 = [] := by
  unfold memN; rw [List.filter_eq_nil_iff]; intro i _; simp
theorem memN_low {r : S} {i : Nat} (hi : i < 32) (h1 : r.getLsbD i = true) (h2 : ∀ j, j < i → r.getLsbD j = false) : memN r 32 = i :: memN (r &&& ~~~ bit i) 32 := by
  have hr : List.range 32 = List.range i ++ (i :: (List.range' (i + 1) (31 - i))) := by
    rw [List.range_eq_range', List.range_eq_range']
    have e : List.range' 0 32 = List.range' 0 i ++ List.range' i (32 - i) := by
      have := @List.range'_append_1 0 i (32 - i)
      rw [show i + (32 - i) = 32 by omega] at this
      simpa using this.symm
    rw [e, show 32 - i = (31 - i) + 1 by omega, List.range'_succ]
  unfold memN
  rw [hr, List.filter_append, List.filter_append, List.filter_cons, List.filter_cons]
  have a1 : (List.range i).filter (fun j => r.getLsbD j) = [] := by
    rw [List.filter_eq_nil_iff]; intro j hj; simp [h2 j (List.mem_range.1 hj)]
  have a2 : (List.range i).filter (fun j => (r &&& ~~~ bit i).getLsbD j) = [] := by
    rw [List.filter_eq_nil_iff]; intro j hj; simp [h2 j (List.mem_range.1 hj)]
  have a3 : (r &&& ~~~ bit i).getLsbD i = false := by rw [andNot_bit r i i hi]; simp
  rw [a1, a2, h1, a3]
  simp only [List.nil_append, if_true, Bool.false_eq_true, if_false]
  congr 1
  apply List.filter_congr
  intro j hj
  rw [List.mem_range'_1] at hj
  rw [andNot_bit r i j (by omega)]
  have : ¬ j = i := by omega
  simp [this]

theorem or_bit_get (s : S) (i j : Nat) (hj : j < 32) : (s ||| bit i).getLsbD j = (s.getLsbD j || decide (j = i)) := by
  rw [BitVec.getLsbD_or, bit_get i j hj]

/-! How long such lists are. -/
theorem lt_of_bits {s : S} {n : Nat} (h : ∀ i, i < 32 → n ≤ i → s.getLsbD i = false) : s.toNat < 2 ^ n := by
  apply Nat.lt_pow_two_of_testBit
  intro i hi
  by_cases h32 : i < 32
  · exact h i h32 hi
  · exact BitVec.getLsbD_of_ge s i (by omega)

end Go.Proofs.YtcfcmalaabmceaaGreatDoor


/- Plain laws of the set of the first numbers. No program. -/
namespace Go.Proofs.YtcfcmalaabmceaaGreatDoor

def fullN : Nat → S
  | 0 => 0#32
  | k + 1 => fullN k ||| 1#32 <<< k

theorem fullN_get (k i : Nat) (hi : i < 32) : (fullN k).getLsbD i = decide (i < k) := by
  induction k with
  | zero => simp [fullN]
  | succ k ih =>
    unfold fullN
    rw [BitVec.getLsbD_or, ih, show (1#32 <<< k) = bit k from rfl, bit_get k i hi]
    by_cases h1 : i < k
    · simp [h1]; omega
    · by_cases h2 : i = k
      · subst h2; simp
      · simp [h1, h2]; omega
theorem sub_full {x : S} {n : Nat} : sub x (fullN n) ↔ x >>> n = 0#32 := by
  constructor
  · intro h
    apply bv_ext
    intro i hi
    rw [BitVec.getLsbD_ushiftRight, BitVec.getLsbD_zero]
    by_cases h2 : n + i < 32
    · cases hx : x.getLsbD (n + i) with
      | false => rfl
      | true =>
        have := h (n + i) h2 hx
        rw [fullN_get n _ h2, decide_eq_true_iff] at this; omega
    · exact BitVec.getLsbD_of_ge _ _ (by omega)
  · intro h i hi hx
    rw [fullN_get n i hi, decide_eq_true_iff]
    apply Classical.byContradiction
    intro hn2
    have := congrArg (fun x : S => x.getLsbD (i - n)) h
    simp only [BitVec.getLsbD_ushiftRight, BitVec.getLsbD_zero] at this
    rw [show n + (i - n) = i by omega, hx] at this; cases this
theorem fullN_toNat (m : Nat) (h : m ≤ 32) : (fullN m).toNat = 2 ^ m - 1 := by
  apply Nat.eq_of_testBit_eq
  intro i
  rw [Nat.testBit_two_pow_sub_one]
  by_cases hi : i < 32
  · exact fullN_get m i hi
  · have : ¬ i < m := by omega
    simp [this]
    exact BitVec.getLsbD_of_ge _ _ (by omega)

end Go.Proofs.YtcfcmalaabmceaaGreatDoor


/- Plain laws of closures: dependencies as pairs of sets, the least closed set, the trace. No program. -/
namespace Go.Proofs.YtcfcmalaabmceaaGreatDoor


/-- A dependency: its left and its right side. -/
abbrev F := S × S

theorem sub_or_left (a b : S) : sub a (a ||| b) := fun i hi h => by rw [BitVec.getLsbD_or, h]; rfl
theorem sub_or_right (a b : S) : sub b (a ||| b) := fun i hi h => by rw [BitVec.getLsbD_or, h]; simp
theorem or_sub {a b c : S} (h : sub a c) (k : sub b c) : sub (a ||| b) c := fun i hi x => by
  rw [BitVec.getLsbD_or, Bool.or_eq_true] at x
  exact x.elim (h i hi) (k i hi)
theorem sub_toNat {a b : S} (h : sub a b) : a.toNat ≤ b.toNat := by
  rw [← and_self_iff] at h
  rw [← h, BitVec.toNat_and]
  exact Nat.and_le_right
theorem sub_toNat_lt {a b : S} (h : sub a b) (hne : a ≠ b) : a.toNat < b.toNat := by
  have := sub_toNat h
  have : a.toNat ≠ b.toNat := fun e => hne (BitVec.eq_of_toNat_eq e)
  omega
instance (a b : S) : Decidable (sub a b) := decidable_of_iff _ and_self_iff
theorem beq_sub' (a b : S) : (a &&& ~~~ b == 0#32) = decide (sub a b) := by rw [Bool.eq_iff_iff, beq_iff_eq, decide_eq_true_iff]; exact andNot_zero_iff

/-- One dependency applied to a set. -/
def stepF (s : S) (f : F) : S := if sub f.1 s then s ||| f.2 else s
def passF (fs : List F) (s : S) : S := fs.foldl stepF s
theorem passF_next {fs : List F} {k : Nat} {f : F} (h : fs[k]? = some f) (s : S) : passF (fs.take (k + 1)) s = stepF (passF (fs.take k) s) f := by
  unfold passF; rw [take_next h, List.foldl_append]; rfl
theorem stepF_yes {s : S} {f : F} (h : sub f.1 s) : stepF s f = s ||| f.2 := if_pos h
theorem stepF_no {s : S} {f : F} (h : ¬ sub f.1 s) : stepF s f = s := if_neg h
theorem stepF_sub (s : S) (f : F) : sub s (stepF s f) := by
  unfold stepF; split
  · exact sub_or_left _ _
  · exact sub_refl _
theorem passF_sub (fs : List F) : ∀ s, sub s (passF fs s) := by
  induction fs with
  | nil => intro s; exact sub_refl s
  | cons f fs ih => intro s; exact sub_trans (stepF_sub s f) (ih _)

/-- A set is closed under a list. -/
def closedF (fs : List F) (s : S) : Prop := ∀ f ∈ fs, sub f.1 s → sub f.2 s
instance (fs : List F) (s : S) : Decidable (closedF fs s) := inferInstanceAs (Decidable (∀ f ∈ fs, sub f.1 s → sub f.2 s))
theorem stepF_below {fs : List F} {s d : S} {f : F} (hf : f ∈ fs) (hd : closedF fs d) (h : sub s d) : sub (stepF s f) d := by
  unfold stepF; split
  · rename_i h1; exact or_sub h (hd f hf (sub_trans h1 h))
  · exact h
theorem passF_below {fs : List F} {d : S} (hd : closedF fs d) : ∀ (gs : List F), (∀ g ∈ gs, g ∈ fs) → ∀ s, sub s d → sub (passF gs s) d := by
  intro gs
  induction gs with
  | nil => intro _ s h; exact h
  | cons g gs ih => intro hg s h; exact ih (fun x hx => hg x (List.mem_cons_of_mem _ hx)) _ (stepF_below (hg g (List.mem_cons_self ..)) hd h)
theorem passF_fix {s : S} : ∀ {fs : List F}, passF fs s = s → closedF fs s := by
  intro fs
  induction fs with
  | nil => intro _ f hf; cases hf
  | cons g fs ih =>
    intro h f hf
    have h1 : stepF s g = s := by
      apply sub_antisymm _ (stepF_sub s g)
      have := passF_sub fs (stepF s g)
      rwa [show passF fs (stepF s g) = s from h] at this
    have h2 : passF fs s = s := by
      have h' : passF fs (stepF s g) = s := h
      rwa [h1] at h'
    rcases List.mem_cons.1 hf with rfl | hf
    · intro h3
      rw [stepF_yes h3] at h1
      rw [← h1]; exact sub_or_right _ _
    · exact ih h2 f hf

/-- c is the closure of s. -/
def IsCl (fs : List F) (s c : S) : Prop := sub s c ∧ closedF fs c ∧ ∀ d, sub s d → closedF fs d → sub c d
theorem IsCl.uniq {fs : List F} {s c d : S} (h : IsCl fs s c) (k : IsCl fs s d) : c = d := sub_antisymm (h.2.2 d k.1 k.2.1) (k.2.2 c h.1 h.2.1)
/-- t lies between s and its closure. -/
def Mid (fs : List F) (s t : S) : Prop := sub s t ∧ ∀ d, sub s d → closedF fs d → sub t d
theorem mid_refl (fs : List F) (s : S) : Mid fs s s := ⟨sub_refl s, fun _ h _ => h⟩
theorem Mid.pass {fs : List F} {s t : S} (h : Mid fs s t) : Mid fs s (passF fs t) :=
  ⟨sub_trans h.1 (passF_sub fs t), fun d hd hc => passF_below hc fs (fun _ h => h) t (h.2 d hd hc)⟩
theorem Mid.step {fs : List F} {s t : S} {f : F} (h : Mid fs s t) (hf : f ∈ fs) (h1 : sub f.1 t) : Mid fs s (t ||| f.2) :=
  ⟨sub_trans h.1 (sub_or_left _ _), fun d hd hc => or_sub (h.2 d hd hc) (hc f hf (sub_trans h1 (h.2 d hd hc)))⟩
theorem Mid.close {fs : List F} {s t : S} (h : Mid fs s t) (hc : closedF fs t) : IsCl fs s t := ⟨h.1, hc, h.2⟩
theorem exists_cl (fs : List F) (s : S) : ∀ (n : Nat) (t : S), 2 ^ 32 - t.toNat ≤ n → Mid fs s t → ∃ c, IsCl fs s c := by
  intro n
  induction n with
  | zero => intro t h _; have := t.isLt; omega
  | succ n ih =>
    intro t h hm
    by_cases hp : passF fs t = t
    · exact ⟨t, hm.close (passF_fix hp)⟩
    · refine ih (passF fs t) ?_ hm.pass
      have := sub_toNat_lt (passF_sub fs t) (Ne.symm hp)
      omega
/-- The closure. -/
noncomputable def closeS (fs : List F) (s : S) : S := Classical.choose (exists_cl fs s _ s (Nat.le_refl _) (mid_refl fs s))
theorem closeS_cl (fs : List F) (s : S) : IsCl fs s (closeS fs s) := Classical.choose_spec (exists_cl fs s _ s (Nat.le_refl _) (mid_refl fs s))
theorem closeS_of {fs : List F} {s c : S} (h : IsCl fs s c) : closeS fs s = c := (closeS_cl fs s).uniq h
theorem closeS_fix {fs : List F} {s t : S} (h : Mid fs s t) (hp : passF fs t = t) : closeS fs s = t := closeS_of (h.close (passF_fix hp))
theorem pass_grows {fs : List F} {t : S} (hp : passF fs t ≠ t) : t.toNat < (passF fs t).toNat := sub_toNat_lt (passF_sub fs t) (Ne.symm hp)

/-- A dependency follows. -/
noncomputable def impS (fs : List F) (f : F) : Bool := decide (sub f.2 (closeS fs f.1))

/-- A dependency enlarges a set. -/
def enl (s : S) (f : F) : Bool := decide (sub f.1 s) && !decide (sub f.2 s)
theorem closed_iff {fs : List F} {s : S} : closedF fs s ↔ fs.any (enl s) = false := by
  rw [List.any_eq_false]
  refine ⟨fun h f hf e => ?_, fun h f hf h1 => ?_⟩
  · unfold enl at e; simp at e; exact e.2 (h f hf e.1)
  · have := h f hf; unfold enl at this; simp at this; exact this h1

/-- The trace of a set. -/
def traceN (fs : List F) : Nat → S → List Nat
  | 0, _ => []
  | n + 1, s => match fs.findIdx? (enl s) with
    | none => []
    | some i => i :: traceN fs n (s ||| (fs.getD i (0#32, 0#32)).2)
theorem enl_grows {s : S} {f : F} (h : enl s f = true) : s.toNat < (s ||| f.2).toNat := by
  unfold enl at h; simp at h
  refine sub_toNat_lt (sub_or_left _ _) fun e => h.2 ?_
  rw [e]; exact sub_or_right _ _
theorem traceN_more (fs : List F) : ∀ (n m : Nat) (s : S), 2 ^ 32 - s.toNat ≤ n → n ≤ m → traceN fs m s = traceN fs n s := by
  intro n
  induction n with
  | zero => intro m s h _; have := s.isLt; omega
  | succ n ih =>
    intro m s h hm
    obtain ⟨m, rfl⟩ : ∃ k, m = k + 1 := ⟨m - 1, by omega⟩
    unfold traceN
    cases hf : fs.findIdx? (enl s) with
    | none => rfl
    | some i =>
      simp only [List.cons.injEq, true_and]
      obtain ⟨hi, he, _⟩ := List.findIdx?_eq_some_iff_getElem.1 hf
      have := enl_grows he
      have e : fs.getD i (0#32, 0#32) = fs[i] := by simp [List.getD, hi]
      rw [e]
      exact ih m _ (by omega) (by omega)
def traceS (fs : List F) (s : S) : List Nat := traceN fs (2 ^ 32 - s.toNat) s
theorem traceS_none {fs : List F} {s : S} (h : fs.findIdx? (enl s) = none) : traceS fs s = [] := by
  unfold traceS
  obtain ⟨n, hn⟩ : ∃ n, 2 ^ 32 - s.toNat = n + 1 := ⟨2 ^ 32 - s.toNat - 1, by have := s.isLt; omega⟩
  rw [hn]; unfold traceN; rw [h]
theorem traceS_some {fs : List F} {s : S} {i : Nat} {f : F} (h : fs.findIdx? (enl s) = some i) (hf : fs[i]? = some f) : traceS fs s = i :: traceS fs (s ||| f.2) := by
  obtain ⟨hi, he, _⟩ := List.findIdx?_eq_some_iff_getElem.1 h
  obtain ⟨_, rfl⟩ := List.getElem?_eq_some_iff.1 hf
  have hg := enl_grows he
  have e : fs.getD i (0#32, 0#32) = fs[i] := by simp [List.getD, hi]
  unfold traceS
  obtain ⟨n, hn⟩ : ∃ n, 2 ^ 32 - s.toNat = n + 1 := ⟨2 ^ 32 - s.toNat - 1, by have := s.isLt; omega⟩
  rw [hn]; conv => lhs; unfold traceN
  rw [h]
  simp only [List.cons.injEq, true_and]
  rw [e]
  exact traceN_more fs _ n _ (Nat.le_refl _) (by omega)


end Go.Proofs.YtcfcmalaabmceaaGreatDoor


/- Plain laws of the subsets of a set, in falling and in rising order of their numbers. No program. -/
namespace Go.Proofs.YtcfcmalaabmceaaGreatDoor





/-! The same at sets. -/
theorem and_sub_right (a b : S) : sub (a &&& b) b := fun i hi h => by rw [BitVec.getLsbD_and, Bool.and_eq_true] at h; exact h.2

theorem IsOrd.filter {xs : List S} {p : S → Prop} (h : IsOrd xs p) (q : S → Bool) : IsOrd (xs.filter q) (fun s => p s ∧ q s = true) :=
  ⟨h.1.sublist List.filter_sublist, fun s => by rw [List.mem_filter, h.2 s]⟩

/-- The subsets of a set that Subsets lists: none where it is greater than twelve. -/
def SubsP (s : S) (ys : List S) : Prop := (12 < pop s → ys = []) ∧ (pop s ≤ 12 → IsOrd ys (fun x => sub x s))
theorem SubsP.uniq {s : S} {xs ys : List S} (h : SubsP s xs) (k : SubsP s ys) : xs = ys := by
  by_cases hp : pop s ≤ 12
  · exact (h.2 hp).uniq (k.2 hp) fun _ => Iff.rfl
  · rw [h.1 (by omega), k.1 (by omega)]


end Go.Proofs.YtcfcmalaabmceaaGreatDoor


/- Plain laws of the trace: where it ends, what it used; the closure by rounds. No program. -/
namespace Go.Proofs.YtcfcmalaabmceaaGreatDoor

/-- The closure after some rounds, where they suffice. -/
def iterF (fs : List F) : Nat → S → S
  | 0, s => s
  | n + 1, s => iterF fs n (passF fs s)
theorem iterF_mid {fs : List F} {s : S} : ∀ (n : Nat) (t : S), Mid fs s t → Mid fs s (iterF fs n t) := by
  intro n
  induction n with
  | zero => intro t h; exact h
  | succ n ih => intro t h; exact ih _ h.pass
theorem closeS_iter {fs : List F} {s : S} (n : Nat) (h : closedF fs (iterF fs n s)) : closeS fs s = iterF fs n s := closeS_of ((iterF_mid n s (mid_refl fs s)).close h)

def traceUse (fs : List F) (l : List Nat) : List F := l.map fun i => fs.getD i (0#32, 0#32)
def traceEnd (fs : List F) (s : S) (l : List Nat) : S := l.foldl (fun t i => t ||| (fs.getD i (0#32, 0#32)).2) s
theorem trace_spec (fs : List F) : ∀ (n : Nat) (s : S), 2 ^ 32 - s.toNat ≤ n → (∀ i ∈ traceS fs s, i < fs.length) ∧ closedF fs (traceEnd fs s (traceS fs s)) ∧ sub s (traceEnd fs s (traceS fs s)) ∧ ∀ f ∈ traceUse fs (traceS fs s), sub f.2 (traceEnd fs s (traceS fs s)) := by
  intro n
  induction n with
  | zero => intro s h; have := s.isLt; omega
  | succ n ih =>
    intro s h
    cases hf : fs.findIdx? (enl s) with
    | none =>
      rw [traceS_none hf]
      refine ⟨by simp, ?_, sub_refl s, by simp [traceUse]⟩
      show closedF fs s
      rw [closed_iff, List.any_eq_false]
      rw [List.findIdx?_eq_none_iff] at hf
      intro x hx; simpa using hf x hx
    | some i =>
      obtain ⟨hi, he, _⟩ := List.findIdx?_eq_some_iff_getElem.1 hf
      have hg := enl_grows he
      have hget : fs[i]? = some fs[i] := List.getElem?_eq_getElem hi
      obtain ⟨h1, h2, h3, h4⟩ := ih (s ||| fs[i].2) (by omega)
      rw [traceS_some hf hget]
      have e : traceEnd fs s (i :: traceS fs (s ||| fs[i].2)) = traceEnd fs (s ||| fs[i].2) (traceS fs (s ||| fs[i].2)) := by
        unfold traceEnd; rw [List.foldl_cons]; simp [List.getD, hget]
      rw [e]
      refine ⟨fun j hj => ?_, h2, sub_trans (sub_or_left _ _) h3, fun f hf => ?_⟩
      · rcases List.mem_cons.1 hj with rfl | hj
        · exact hi
        · exact h1 j hj
      · have hc : traceUse fs (i :: traceS fs (s ||| fs[i].2)) = fs[i] :: traceUse fs (traceS fs (s ||| fs[i].2)) := by
          unfold traceUse; rw [List.map_cons]; simp [List.getD, hget]
        rw [hc] at hf
        rcases List.mem_cons.1 hf with rfl | hf
        · exact sub_trans (sub_or_right _ _) h3
        · exact h4 f hf


end Go.Proofs.YtcfcmalaabmceaaGreatDoor


/- Plain laws of covers: what follows, lists without repeats, one attribute on the right, the minimal and the canonical cover. No program. -/
namespace Go.Proofs.YtcfcmalaabmceaaGreatDoor

theorem imp_iff {fs : List F} {f : F} : impS fs f = true ↔ ∀ d, closedF fs d → sub f.1 d → sub f.2 d := by
  unfold impS
  rw [decide_eq_true_iff]
  obtain ⟨h1, h2, h3⟩ := closeS_cl fs f.1
  exact ⟨fun h d hd hs => sub_trans h (h3 d hs hd), fun h => h _ h2 h1⟩
/-- Two lists from which the same follows: the same sets are closed. -/
def Eqv (l m : List F) : Prop := ∀ d, closedF l d ↔ closedF m d
theorem Eqv.refl (l : List F) : Eqv l l := fun _ => Iff.rfl
theorem Eqv.symm {l m : List F} (h : Eqv l m) : Eqv m l := fun d => (h d).symm
theorem Eqv.trans {l m n : List F} (h : Eqv l m) (k : Eqv m n) : Eqv l n := fun d => (h d).trans (k d)
theorem Eqv.imp {l m : List F} (h : Eqv l m) (f : F) : impS l f = impS m f := by
  rw [Bool.eq_iff_iff, imp_iff, imp_iff]
  exact ⟨fun k d hd => k d ((h d).2 hd), fun k d hd => k d ((h d).1 hd)⟩
theorem Eqv.close {l m : List F} (h : Eqv l m) (s : S) : closeS l s = closeS m s := by
  obtain ⟨h1, h2, h3⟩ := closeS_cl l s
  exact (closeS_of ⟨h1, (h _).1 h2, fun d hd hc => h3 d hd ((h d).2 hc)⟩).symm

/-! Lists without repeats. -/

/-! One attribute on the right. -/

/-! A list without one dependency. -/

/-! The attributes of a left side that are not needed are taken out. -/
noncomputable def extrB (l : List F) (x : F) (a : Nat) : Bool := impS l (x.1 &&& ~~~ bit a, x.2)

/-! Dependencies that follow from the others are left out, one after the other. -/

end Go.Proofs.YtcfcmalaabmceaaGreatDoor


/- Plain laws of covers, on: what is left is equivalent, trimmed on the left, and none of it follows from the others. No program. -/
namespace Go.Proofs.YtcfcmalaabmceaaGreatDoor





/-- The left sides have nothing superfluous; the right sides have one attribute, which is not on the left. -/
def LeftMin (l : List F) : Prop := ∀ x ∈ l, ∀ a, x.1.getLsbD a = true → extrB l x a = false
def UnitR (l : List F) : Prop := ∀ x ∈ l, ∃ a, a < 32 ∧ x.2 = bit a ∧ x.1.getLsbD a = false
theorem LeftMin.of {l m : List F} (h : LeftMin l) (e : Eqv m l) (hm : ∀ f ∈ m, f ∈ l) : LeftMin m := fun x hx a ha => by
  have := h x (hm x hx) a ha
  unfold extrB at this ⊢
  rw [e.imp]; exact this
theorem UnitR.of {l m : List F} (h : UnitR l) (hm : ∀ f ∈ m, f ∈ l) : UnitR m := fun x hx => h x (hm x hx)



end Go.Proofs.YtcfcmalaabmceaaGreatDoor


/- Plain laws of the closed sets of a few attributes: they meet in closed sets. No program. -/
namespace Go.Proofs.YtcfcmalaabmceaaGreatDoor


end Go.Proofs.YtcfcmalaabmceaaGreatDoor

