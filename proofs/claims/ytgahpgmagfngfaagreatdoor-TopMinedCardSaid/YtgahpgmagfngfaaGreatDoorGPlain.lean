/- Texts that belong together, in one file. -/
import Derived.Test.YtgahpgmagfngfaaGreatDoorBase
/- Plain laws on 32-bit sets: the lowest member, a set without it, single members. No program. -/
namespace Go.Proofs.YtgahpgmagfngfaaGreatDoor

theorem bv_ext {a b : S} (h : ∀ i, i < 32 → a.getLsbD i = b.getLsbD i) : a = b := BitVec.eq_of_getLsbD_eq h

/-- The set with one member. -/
def bit (i : Nat) : S := 1#32 <<< i
theorem bit_get (i j : Nat) (hj : j < 32) : (bit i).getLsbD j = decide (j = i) := by
  unfold bit
  rw [BitVec.getLsbD_shiftLeft]
  by_cases h : j < i
  · simp [h]; omega
  · by_cases e : j = i
    · subst e; simp [hj]
    · simp [hj, h, BitVec.getLsbD_one, e]; omega

theorem ne_zero_bit {r : S} (h : r ≠ 0#32) : ∃ i, i < 32 ∧ r.getLsbD i = true := by
  apply Classical.byContradiction
  intro hn
  apply h
  apply bv_ext
  intro i hi
  have : ¬ r.getLsbD i = true := fun e => hn ⟨i, hi, e⟩
  simpa using this

/-- The least member. -/
theorem least_bit (r : S) : ∀ n, (∃ i, i < n ∧ r.getLsbD i = true) → ∃ i, i < n ∧ r.getLsbD i = true ∧ ∀ j, j < i → r.getLsbD j = false := by
  intro n
  induction n with
  | zero => rintro ⟨i, hi, _⟩; omega
  | succ n ih =>
    intro h
    by_cases h' : ∃ i, i < n ∧ r.getLsbD i = true
    · obtain ⟨i, hi, h1, h2⟩ := ih h'
      exact ⟨i, by omega, h1, h2⟩
    · obtain ⟨i, hi, h1⟩ := h
      refine ⟨i, hi, h1, fun j hj => ?_⟩
      have : ¬ r.getLsbD j = true := fun e => h' ⟨j, by omega, e⟩
      simpa using this

theorem nat_low {a i : Nat} (h1 : a.testBit i = true) (h2 : ∀ j, j < i → a.testBit j = false) : ∃ m, a = 2 ^ i * (2 * m + 1) := by
  have hmod : a % 2 ^ i = 0 := by
    apply Nat.eq_of_testBit_eq
    intro j
    rw [Nat.testBit_mod_two_pow]
    by_cases hj : j < i
    · simp [h2 j hj]
    · simp [hj]
  have hd : a = 2 ^ i * (a / 2 ^ i) := by
    have := Nat.div_add_mod a (2 ^ i)
    omega
  have hodd : (a / 2 ^ i) % 2 = 1 := by
    rw [Nat.testBit_eq_decide_div_mod_eq] at h1
    simpa using h1
  refine ⟨a / 2 ^ i / 2, ?_⟩
  have : 2 * (a / 2 ^ i / 2) + 1 = a / 2 ^ i := by omega
  rw [this]; exact hd

theorem sub_one_bit {r : S} {i : Nat} (hi : i < 32) (h1 : r.getLsbD i = true) (h2 : ∀ j, j < i → r.getLsbD j = false) (j : Nat) (hj : j < 32) :
    (r - 1#32).getLsbD j = if j < i then true else if j = i then false else r.getLsbD j := by
  obtain ⟨m, hm⟩ := nat_low (a := r.toNat) (i := i) (by simpa [BitVec.getLsbD] using h1) (fun j hj => by simpa [BitVec.getLsbD] using h2 j hj)
  have hp : 0 < 2 ^ i := Nat.two_pow_pos i
  have hlt := r.isLt
  have hsub : (r - 1#32).toNat = 2 ^ i * (2 * m) + (2 ^ i - 1) := by
    have e : 2 ^ i * (2 * m + 1) = 2 ^ i * (2 * m) + 2 ^ i := by rw [Nat.mul_add, Nat.mul_one]
    rw [BitVec.toNat_sub]
    simp only [BitVec.toNat_ofNat]
    omega
  have hr : r.toNat = 2 ^ i * (2 * m + 1) + 0 := by omega
  simp only [BitVec.getLsbD, hsub]
  rw [hr, Nat.testBit_two_pow_mul_add _ (by omega : 2 ^ i - 1 < 2 ^ i), Nat.testBit_two_pow_mul_add _ hp]
  by_cases h : j < i
  · simp [h, Nat.testBit_two_pow_sub_one]
  · rw [if_neg h, if_neg h, if_neg h]
    by_cases e : j = i
    · subst e; simp
    · rw [if_neg e]
      obtain ⟨t, rfl⟩ : ∃ t, j = i + (t + 1) := ⟨j - i - 1, by omega⟩
      rw [show i + (t + 1) - i = t + 1 by omega, Nat.testBit_succ, Nat.testBit_succ]
      congr 1; omega

/-- 'rest & -rest' is the set of the least member, 'rest & (rest - 1)' the set without it. -/
theorem low_bit {r : S} (h : r ≠ 0#32) : ∃ i, i < 32 ∧ r.getLsbD i = true ∧ (∀ j, j < i → r.getLsbD j = false) ∧ r &&& -r = bit i ∧ r &&& (r - 1#32) = r &&& ~~~ bit i := by
  obtain ⟨i, hi, h1, h2⟩ := least_bit r 32 (ne_zero_bit h)
  have hs := sub_one_bit hi h1 h2
  refine ⟨i, hi, h1, h2, ?_, ?_⟩
  · have e : -r = ~~~ (r - 1#32) := by
      apply BitVec.eq_of_toNat_eq
      rw [BitVec.toNat_neg, BitVec.toNat_not, BitVec.toNat_sub]
      have := r.isLt
      simp
      omega
    rw [e]
    apply bv_ext
    intro j hj
    rw [BitVec.getLsbD_and, BitVec.getLsbD_not, hs j hj, bit_get i j hj]
    by_cases a : j < i
    · simp [a, h2 j a]; omega
    · by_cases b : j = i
      · subst b; simp [h1, hj]
      · simp [a, b]; intros; assumption
  · apply bv_ext
    intro j hj
    rw [BitVec.getLsbD_and, BitVec.getLsbD_and, BitVec.getLsbD_not, hs j hj, bit_get i j hj]
    by_cases a : j < i
    · simp [a, h2 j a]
    · by_cases b : j = i
      · subst b; simp
      · simp [a, b, hj]

theorem drop_low_lt {r : S} (h : r ≠ 0#32) : (r &&& (r - 1#32)).toNat < r.toNat := by
  have h0 : r.toNat ≠ 0 := fun e => h (BitVec.eq_of_toNat_eq (by simpa using e))
  rw [BitVec.toNat_and]
  refine Nat.lt_of_le_of_lt Nat.and_le_right ?_
  rw [BitVec.toNat_sub]
  have := r.isLt
  simp
  omega

end Go.Proofs.YtgahpgmagfngfaaGreatDoor


/- Plain laws on the order of sets: sizes, the order, sorted lists without repetition. No program. -/
namespace Go.Proofs.YtgahpgmagfngfaaGreatDoor

/-- How many of the k lowest bits are set. -/
def popN : Nat → Nat → Nat
  | 0, _ => 0
  | k + 1, x => x % 2 + popN k (x / 2)
theorem popN_split (j k : Nat) : ∀ a b, b < 2 ^ j → popN (j + k) (2 ^ j * a + b) = popN j b + popN k a := by
  induction j with
  | zero => intro a b hb; simp at hb; subst hb; simp [popN]
  | succ j ih =>
    intro a b hb
    have e1 : (2 ^ (j + 1) * a + b) % 2 = b % 2 := by
      rw [Nat.pow_succ, Nat.mul_comm (2 ^ j) 2, Nat.mul_assoc]; omega
    have e2 : (2 ^ (j + 1) * a + b) / 2 = 2 ^ j * a + b / 2 := by
      rw [Nat.pow_succ, Nat.mul_comm (2 ^ j) 2, Nat.mul_assoc]; omega
    rw [show j + 1 + k = (j + k) + 1 by omega]
    simp only [popN]
    rw [e1, e2, ih a (b / 2) (by rw [Nat.pow_succ] at hb; omega)]
    omega
theorem popN_count (k : Nat) : ∀ x : Nat, (List.range k).countP (fun i => x.testBit i) = popN k x := by
  induction k with
  | zero => intro x; rfl
  | succ k ih =>
    intro x
    rw [List.range_succ_eq_map, List.countP_cons, List.countP_map, popN, ← ih (x / 2)]
    have : (fun i => x.testBit i) ∘ Nat.succ = fun i => (x / 2).testBit i := by funext i; simp [Nat.testBit_succ]
    rw [this, Nat.testBit_zero]
    have := Nat.mod_two_eq_zero_or_one x
    rcases this with h | h <;> simp [h] <;> omega
theorem popN_le (k : Nat) : ∀ x, popN k x ≤ k := by
  induction k with
  | zero => intro x; simp [popN]
  | succ k ih => intro x; have := ih (x / 2); have := Nat.mod_lt x (show 2 > 0 by omega); simp only [popN]; omega
/-- The size of a set. -/
def pop (s : S) : Nat := popN 32 s.toNat
theorem pop_le (s : S) : pop s ≤ 32 := popN_le 32 _
theorem pop_bytes (s : S) : pop s = popN 8 (s >>> 24).toNat + popN 8 (s >>> 16 &&& 255#32).toNat + popN 8 (s >>> 8 &&& 255#32).toNat + popN 8 (s &&& 255#32).toNat := by
  have hs := s.isLt
  have m : ∀ x : S, (x &&& 255#32).toNat = x.toNat % 256 := by
    intro x
    rw [BitVec.toNat_and]
    exact Nat.and_two_pow_sub_one_eq_mod x.toNat 8
  rw [m, m, m]
  simp only [BitVec.toNat_ushiftRight, Nat.shiftRight_eq_div_pow]
  have h1 := popN_split 8 24 (s.toNat / 256) (s.toNat % 256) (by omega)
  have h2 := popN_split 8 16 (s.toNat / 256 / 256) (s.toNat / 256 % 256) (by omega)
  have h3 := popN_split 8 8 (s.toNat / 256 / 256 / 256) (s.toNat / 256 / 256 % 256) (by omega)
  have e1 : 2 ^ 8 * (s.toNat / 256) + s.toNat % 256 = s.toNat := by omega
  have e2 : 2 ^ 8 * (s.toNat / 256 / 256) + s.toNat / 256 % 256 = s.toNat / 256 := by omega
  have e3 : 2 ^ 8 * (s.toNat / 256 / 256 / 256) + s.toNat / 256 / 256 % 256 = s.toNat / 256 / 256 := by omega
  rw [e1] at h1; rw [e2] at h2; rw [e3] at h3
  unfold pop
  rw [show 8 + 24 = 32 by rfl] at h1
  rw [show 8 + 16 = 24 by rfl] at h2
  rw [show 8 + 8 = 16 by rfl] at h3
  rw [h1, h2, h3, show s.toNat / 2 ^ 24 = s.toNat / 256 / 256 / 256 by omega, show s.toNat / 2 ^ 16 = s.toNat / 256 / 256 by omega, show s.toNat / 2 ^ 8 = s.toNat / 256 by omega]
  omega

/-- cmp.Compare. -/
def cmpI (x y : Int) : Int := if x < y then -1 else if y < x then 1 else 0
/-- The order of sets. -/
def cmpS (a b : S) : Int := if cmpI (pop a) (pop b) ≠ 0 then cmpI (pop a) (pop b) else cmpI (iv a) (iv b)

/-- a comes before b. -/
def bef (a b : S) : Prop := cmpS a b < 0
instance (a b : S) : Decidable (bef a b) := inferInstanceAs (Decidable (cmpS a b < 0))
theorem bef_iff (a b : S) : bef a b ↔ pop a < pop b ∨ pop a = pop b ∧ a.toNat < b.toNat := by
  unfold bef cmpS cmpI iv
  by_cases h1 : (pop a : Int) < pop b
  · simp [h1]; omega
  · by_cases h2 : (pop b : Int) < pop a
    · simp [h1, h2]; omega
    · have h3 : pop a = pop b := by omega
      simp [h3]
      split <;> (try split) <;> omega
theorem bef_irrefl (a : S) : ¬ bef a a := by rw [bef_iff]; omega
theorem bef_trans {a b c : S} (h : bef a b) (k : bef b c) : bef a c := by rw [bef_iff] at *; omega
theorem bef_total {a b : S} (h : ¬ bef a b) (k : ¬ bef b a) : a = b := by
  rw [bef_iff] at *
  exact BitVec.eq_of_toNat_eq (by omega)
theorem bef_asymm {a b : S} (h : bef a b) : ¬ bef b a := by rw [bef_iff] at *; omega

/-- ys holds just the sets with the property p, each once, in order. -/
def IsOrd (ys : List S) (p : S → Prop) : Prop := ys.Pairwise bef ∧ ∀ s, s ∈ ys ↔ p s

theorem sorted_uniq : ∀ (xs ys : List S), xs.Pairwise bef → ys.Pairwise bef → (∀ s, s ∈ xs ↔ s ∈ ys) → xs = ys := by
  intro xs
  induction xs with
  | nil =>
    intro ys _ _ h
    cases ys with
    | nil => rfl
    | cons y ys => exact absurd ((h y).2 (by simp)) (by simp)
  | cons x xs ih =>
    intro ys hx hy h
    cases ys with
    | nil => exact absurd ((h x).1 (by simp)) (by simp)
    | cons y ys =>
      rw [List.pairwise_cons] at hx hy
      have hxy : x = y := by
        have h1 := (h x).1 (by simp)
        have h2 := (h y).2 (by simp)
        rw [List.mem_cons] at h1 h2
        rcases h1 with h1 | h1
        · exact h1
        · rcases h2 with h2 | h2
          · exact h2.symm
          · exact absurd (hx.1 y h2) (bef_asymm (hy.1 x h1))
      subst hxy
      rw [ih ys hx.2 hy.2 (fun s => ?_)]
      constructor
      · intro hs
        have h1 := (h s).1 (List.mem_cons_of_mem _ hs)
        rw [List.mem_cons] at h1
        rcases h1 with rfl | h1
        · exact absurd (hx.1 s hs) (bef_irrefl _)
        · exact h1
      · intro hs
        have h1 := (h s).2 (List.mem_cons_of_mem _ hs)
        rw [List.mem_cons] at h1
        rcases h1 with rfl | h1
        · exact absurd (hy.1 s hs) (bef_irrefl _)
        · exact h1
theorem IsOrd.uniq {xs ys : List S} {p q : S → Prop} (h : IsOrd xs p) (k : IsOrd ys q) (e : ∀ s, p s ↔ q s) : xs = ys :=
  sorted_uniq xs ys h.1 k.1 (fun s => (h.2 s).trans ((e s).trans (k.2 s).symm))
theorem IsOrd.congr {xs : List S} {p q : S → Prop} (h : IsOrd xs p) (e : ∀ s, p s ↔ q s) : IsOrd xs q := ⟨h.1, fun s => (h.2 s).trans (e s)⟩

/-- Subsets. -/
def sub (a b : S) : Prop := ∀ i, i < 32 → a.getLsbD i = true → b.getLsbD i = true
theorem sub_refl (a : S) : sub a a := fun _ _ h => h
theorem sub_trans {a b c : S} (h : sub a b) (k : sub b c) : sub a c := fun i hi x => k i hi (h i hi x)
theorem sub_antisymm {a b : S} (h : sub a b) (k : sub b a) : a = b := bv_ext fun i hi => by
  rw [Bool.eq_iff_iff]; exact ⟨h i hi, k i hi⟩
theorem and_self_iff {a b : S} : a &&& b = a ↔ sub a b := by
  constructor
  · intro h i hi ha
    rw [← h, BitVec.getLsbD_and] at ha
    simp at ha; exact ha.2
  · intro h
    apply bv_ext
    intro i hi
    rw [BitVec.getLsbD_and]
    have := h i hi
    cases hx : a.getLsbD i <;> simp_all
theorem andNot_zero_iff {a b : S} : a &&& ~~~ b = 0#32 ↔ sub a b := by
  constructor
  · intro h i hi ha
    have := congrArg (fun x : S => x.getLsbD i) h
    rw [BitVec.getLsbD_and, BitVec.getLsbD_not, ha] at this
    simpa [hi] using this
  · intro h
    apply bv_ext
    intro i hi
    rw [BitVec.getLsbD_and, BitVec.getLsbD_not]
    have := h i hi
    cases hx : a.getLsbD i <;> simp_all
theorem and_zero_iff {a b : S} : a &&& b = 0#32 ↔ ∀ i, i < 32 → a.getLsbD i = true → b.getLsbD i = false := by
  constructor
  · intro h i hi ha
    have := congrArg (fun x : S => x.getLsbD i) h
    rw [BitVec.getLsbD_and, ha] at this
    simpa using this
  · intro h
    apply bv_ext
    intro i hi
    rw [BitVec.getLsbD_and]
    have := h i hi
    cases hx : a.getLsbD i <;> simp_all
theorem pop_count (s : S) : pop s = (List.range 32).countP (fun i => s.getLsbD i) := by
  unfold pop; rw [← popN_count]; rfl
theorem countP_le_of {α : Type} (p q : α → Bool) : ∀ (l : List α), (∀ x ∈ l, p x = true → q x = true) → l.countP p ≤ l.countP q ∧ ((∃ x ∈ l, p x = false ∧ q x = true) → l.countP p < l.countP q) := by
  intro l
  induction l with
  | nil => intro _; simp
  | cons x l ih =>
    intro h
    have ⟨h1, h2⟩ := ih (fun y hy => h y (List.mem_cons_of_mem _ hy))
    have hx := h x (by simp)
    rw [List.countP_cons, List.countP_cons]
    refine ⟨?_, ?_⟩
    · cases hp : p x <;> cases hq : q x <;> simp_all <;> omega
    · rintro ⟨y, hy, hpy, hqy⟩
      rw [List.mem_cons] at hy
      rcases hy with rfl | hy
      · simp [hpy, hqy]; omega
      · have := h2 ⟨y, hy, hpy, hqy⟩
        cases hp : p x <;> cases hq : q x <;> simp_all <;> omega
theorem sub_pop {a b : S} (h : sub a b) : pop a ≤ pop b := by
  rw [pop_count, pop_count]
  exact (countP_le_of _ _ _ (fun i hi => h i (List.mem_range.1 hi))).1
theorem sub_pop_lt {a b : S} (h : sub a b) (hne : a ≠ b) : pop a < pop b := by
  rw [pop_count, pop_count]
  refine (countP_le_of _ _ _ (fun i hi => h i (List.mem_range.1 hi))).2 ?_
  apply Classical.byContradiction
  intro hn
  apply hne
  apply bv_ext
  intro i hi
  rw [Bool.eq_iff_iff]
  refine ⟨h i hi, fun hb => ?_⟩
  apply Classical.byContradiction
  intro ha
  exact hn ⟨i, List.mem_range.2 hi, by simpa using ha, hb⟩
theorem sub_bef {a b : S} (h : sub a b) (hne : a ≠ b) : bef a b := (bef_iff a b).2 (.inl (sub_pop_lt h hne))

/-- The sort: what comes before stays before. -/
def sortS (xs : List S) : List S := xs.mergeSort (fun x y => !decide (bef y x))
theorem sortS_perm (xs : List S) : (sortS xs).Perm xs := List.mergeSort_perm _ _
theorem sortS_sorted (xs : List S) : (sortS xs).Pairwise (fun x y => ¬ bef y x) := by
  have h := List.pairwise_mergeSort (le := fun x y : S => !decide (bef y x)) ?_ ?_ xs
  · exact h.imp (fun h => by simpa using h)
  · intro a b c
    simp only [Bool.not_eq_true', decide_eq_false_iff_not]
    intro h1 h2 h3
    rw [bef_iff] at *; omega
  · intro a b
    simp only [Bool.or_eq_true, Bool.not_eq_true', decide_eq_false_iff_not]
    by_cases h : bef b a
    · right; exact bef_asymm h
    · left; exact h

/-- Reduce, an element at a time. -/
def redStep (out : List S) (e : S) : List S := if out.any (fun f => f &&& e == f) then out else out ++ [e]
def redL (l : List S) : List S := l.foldl redStep []
theorem redL_next {l : List S} {k : Nat} {e : S} (h : l[k]? = some e) : redL (l.take (k + 1)) = redStep (redL (l.take k)) e := by
  unfold redL; rw [take_next h, List.foldl_append]; rfl
def isMin (l : List S) (s : S) : Prop := s ∈ l ∧ ∀ f ∈ l, sub f s → f = s
theorem min_below (l : List S) : ∀ (n : Nat) (g : S), pop g ≤ n → g ∈ l → ∃ f, isMin l f ∧ sub f g := by
  intro n
  induction n with
  | zero =>
    intro g hg hl
    refine ⟨g, ⟨hl, fun f hf hs => ?_⟩, sub_refl _⟩
    apply Classical.byContradiction
    intro hne
    have := sub_pop_lt hs hne; omega
  | succ n ih =>
    intro g hg hl
    by_cases h : ∃ f ∈ l, sub f g ∧ f ≠ g
    · obtain ⟨f, hf, hs, hne⟩ := h
      have := sub_pop_lt hs hne
      obtain ⟨m, hm, hms⟩ := ih f (by omega) hf
      exact ⟨m, hm, sub_trans hms hs⟩
    · refine ⟨g, ⟨hl, fun f hf hs => ?_⟩, sub_refl _⟩
      apply Classical.byContradiction
      intro hne
      exact h ⟨f, hf, hs, hne⟩
theorem redStep_ord {l : List S} {e : S} {out : List S} (hpw : (l ++ [e]).Pairwise (fun x y => ¬ bef y x)) (h : IsOrd out (isMin l)) : IsOrd (redStep out e) (isMin (l ++ [e])) := by
  have hle : ∀ x ∈ l, ¬ bef e x := fun x hx => (List.pairwise_append.1 hpw).2.2 x hx e (by simp)
  unfold redStep
  split
  · rename_i hany
    rw [List.any_eq_true] at hany
    obtain ⟨f, hf, hfe⟩ := hany
    have hfe := and_self_iff.1 (by simpa using hfe)
    have hfm := (h.2 f).1 hf
    refine ⟨h.1, fun s => (h.2 s).trans ⟨fun ⟨hs, hm⟩ => ⟨List.mem_append_left _ hs, fun g hg hgs => ?_⟩, fun ⟨hs, hm⟩ => ?_⟩⟩
    · rw [List.mem_append, List.mem_singleton] at hg
      rcases hg with hg | rfl
      · exact hm g hg hgs
      · apply Classical.byContradiction
        intro hne
        exact hle s hs (sub_bef hgs hne)
    · rw [List.mem_append, List.mem_singleton] at hs
      rcases hs with hs | rfl
      · exact ⟨hs, fun g hg => hm g (List.mem_append_left _ hg)⟩
      · have := hm f (List.mem_append_left _ hfm.1) hfe
        subst this; exact hfm
  · rename_i hany
    have hno : ∀ f ∈ out, ¬ sub f e := by
      intro f hf hfe
      apply hany
      rw [List.any_eq_true]
      exact ⟨f, hf, by simpa using and_self_iff.2 hfe⟩
    have hmin : isMin (l ++ [e]) e := by
      refine ⟨by simp, fun g hg hgs => ?_⟩
      rw [List.mem_append, List.mem_singleton] at hg
      rcases hg with hg | rfl
      · obtain ⟨m, hm, hms⟩ := min_below l _ g (Nat.le_refl _) hg
        exact absurd (sub_trans hms hgs) (hno m ((h.2 m).2 hm))
      · rfl
    refine ⟨List.pairwise_append.2 ⟨h.1, by simp, fun x hx y hy => ?_⟩, fun s => ?_⟩
    · rw [List.mem_singleton] at hy
      subst hy
      have hxl := ((h.2 x).1 hx).1
      apply Classical.byContradiction
      intro hb
      have := bef_total hb (hle x hxl)
      subst this
      exact hno x hx (sub_refl _)
    · rw [List.mem_append, List.mem_singleton]
      constructor
      · rintro (hs | rfl)
        · obtain ⟨hs, hm⟩ := (h.2 s).1 hs
          refine ⟨List.mem_append_left _ hs, fun g hg hgs => ?_⟩
          rw [List.mem_append, List.mem_singleton] at hg
          rcases hg with hg | rfl
          · exact hm g hg hgs
          · apply Classical.byContradiction
            intro hne
            exact hle s hs (sub_bef hgs hne)
        · exact hmin
      · rintro ⟨hs, hm⟩
        rw [List.mem_append, List.mem_singleton] at hs
        rcases hs with hs | rfl
        · left; exact (h.2 s).2 ⟨hs, fun g hg => hm g (List.mem_append_left _ hg)⟩
        · right; rfl
theorem redL_ord {l : List S} (hs : l.Pairwise (fun x y => ¬ bef y x)) : ∀ k, k ≤ l.length → IsOrd (redL (l.take k)) (isMin (l.take k)) := by
  intro k
  induction k with
  | zero => intro _; refine ⟨by simp [redL], fun s => by simp [redL, isMin]⟩
  | succ k ih =>
    intro hk
    obtain ⟨e, he⟩ := get_some (show k < l.length by omega)
    rw [redL_next he, take_next he]
    refine redStep_ord ?_ (ih (by omega))
    rw [← take_next he]
    exact hs.sublist (List.take_sublist _ _)
/-- What Reduce returns. -/
def redS (xs : List S) : List S := redL (sortS xs)
theorem isMin_perm {l m : List S} (h : l.Perm m) (s : S) : isMin l s ↔ isMin m s := by
  unfold isMin
  constructor
  · rintro ⟨a, b⟩; exact ⟨h.mem_iff.1 a, fun f hf => b f (h.mem_iff.2 hf)⟩
  · rintro ⟨a, b⟩; exact ⟨h.mem_iff.2 a, fun f hf => b f (h.mem_iff.1 hf)⟩
theorem redS_ord (xs : List S) : IsOrd (redS xs) (isMin xs) := by
  have h := redL_ord (sortS_sorted xs) (sortS xs).length (Nat.le_refl _)
  rw [List.take_length] at h
  exact h.congr (isMin_perm (sortS_perm xs))

/-! The insertion. -/

/-! Transversals. -/
/-- s has a common member with each edge. -/
def hitsS (xs : List S) (s : S) : Bool := !xs.any (fun x => x &&& s == 0#32)
/-- Some member below n can leave. -/
def leaves (xs : List S) (s : S) (n : Nat) : Bool := (List.range n).any (fun i => s.getLsbD i && hitsS xs (s &&& ~~~ bit i))
/-- A transversal that no member can leave. -/
def minS (xs : List S) (s : S) : Bool := hitsS xs s && !leaves xs s 32
theorem leaves_hit {xs : List S} {s : S} {k n : Nat} (h : k < n) (hk : (s.getLsbD k && hitsS xs (s &&& ~~~ bit k)) = true) : leaves xs s n = true :=
  List.any_eq_true.2 ⟨k, List.mem_range.2 h, hk⟩
theorem leaves_none {xs : List S} {s : S} {n : Nat} (h : ∀ i, i < n → (s.getLsbD i && hitsS xs (s &&& ~~~ bit i)) = false) : leaves xs s n = false := by
  unfold leaves; rw [List.any_eq_false]; intro i hi; simp only [h i (List.mem_range.1 hi)]; simp
end Go.Proofs.YtgahpgmagfngfaaGreatDoor


/- Plain laws on minimal transversals: the extension edge by edge gives them all. No program. -/
namespace Go.Proofs.YtgahpgmagfngfaaGreatDoor

theorem hits_iff {xs : List S} {s : S} : hitsS xs s = true ↔ ∀ x ∈ xs, x &&& s ≠ 0#32 := by
  unfold hitsS
  rw [Bool.not_eq_true', List.any_eq_false]
  simp
theorem hits_mono {xs : List S} {s t : S} (h : hitsS xs s = true) (hs : sub s t) : hitsS xs t = true := by
  rw [hits_iff] at *
  intro x hx e
  apply h x hx
  rw [and_zero_iff] at *
  intro i hi hxi
  cases hsi : s.getLsbD i with
  | false => rfl
  | true =>
    have := hs i hi hsi
    have h2 := e i hi hxi
    rw [this] at h2; cases h2
theorem andNot_bit (s : S) (i j : Nat) (hj : j < 32) : (s &&& ~~~ bit i).getLsbD j = (s.getLsbD j && !decide (j = i)) := by
  rw [BitVec.getLsbD_and, BitVec.getLsbD_not, bit_get i j hj]; simp [hj]
/-- A minimal transversal is one that has no other one in it. -/
theorem minS_iff {xs : List S} {s : S} : minS xs s = true ↔ hitsS xs s = true ∧ ∀ t, sub t s → hitsS xs t = true → t = s := by
  unfold minS
  rw [Bool.and_eq_true, Bool.not_eq_true']
  constructor
  · rintro ⟨h, hl⟩
    refine ⟨h, fun t ht hh => ?_⟩
    apply sub_antisymm ht
    intro i hi hsi
    apply Classical.byContradiction
    intro hti
    have hq : hitsS xs (s &&& ~~~ bit i) = true := by
      apply hits_mono hh
      intro j hj htj
      rw [andNot_bit s i j hj, ht j hj htj]
      by_cases e : j = i
      · subst e; exact absurd htj hti
      · simp [e]
    have := leaves_hit (xs := xs) (s := s) (n := 32) hi (by rw [hsi, hq]; rfl)
    rw [hl] at this; cases this
  · rintro ⟨h, hm⟩
    refine ⟨h, leaves_none fun i hi => ?_⟩
    cases hsi : s.getLsbD i with
    | false => rfl
    | true =>
      cases hq : hitsS xs (s &&& ~~~ bit i) with
      | false => rfl
      | true =>
        have hsub : sub (s &&& ~~~ bit i) s := fun j hj h => by
          rw [andNot_bit s i j hj] at h; simp at h; exact h.1
        have e := hm _ hsub hq
        have h3 := congrArg (fun x : S => x.getLsbD i) e
        simp only [andNot_bit s i i hi] at h3
        rw [hsi] at h3; simp at h3
/-- Each transversal contains a minimal one. -/
theorem min_in (xs : List S) : ∀ (n : Nat) (t : S), pop t ≤ n → hitsS xs t = true → ∃ s, minS xs s = true ∧ sub s t := by
  intro n
  induction n with
  | zero =>
    intro t hn ht
    refine ⟨t, minS_iff.2 ⟨ht, fun u hu _ => ?_⟩, sub_refl _⟩
    apply Classical.byContradiction
    intro hne
    have := sub_pop_lt hu hne; omega
  | succ n ih =>
    intro t hn ht
    by_cases h : ∃ u, sub u t ∧ u ≠ t ∧ hitsS xs u = true
    · obtain ⟨u, hu, hne, hh⟩ := h
      have := sub_pop_lt hu hne
      obtain ⟨s, hs, hsu⟩ := ih u (by omega) hh
      exact ⟨s, hs, sub_trans hsu hu⟩
    · refine ⟨t, minS_iff.2 ⟨ht, fun u hu hh => ?_⟩, sub_refl _⟩
      apply Classical.byContradiction
      intro hne
      exact h ⟨u, hu, hne, hh⟩
theorem hits_append {xs : List S} {e s : S} : hitsS (xs ++ [e]) s = true ↔ hitsS xs s = true ∧ e &&& s ≠ 0#32 := by
  rw [hits_iff, hits_iff]
  constructor
  · intro h; exact ⟨fun x hx => h x (List.mem_append_left _ hx), h e (by simp)⟩
  · rintro ⟨h1, h2⟩ x hx
    rw [List.mem_append, List.mem_singleton] at hx
    rcases hx with hx | rfl
    · exact h1 x hx
    · exact h2

/-- The members, ascending. -/
def memN (s : S) (k : Nat) : List Nat := (List.range k).filter (fun i => s.getLsbD i)
theorem memN_yes {s : S} {k : Nat} (h : s.getLsbD k = true) : memN s (k + 1) = memN s k ++ [k] := by
  unfold memN; rw [List.range_succ, List.filter_append]; simp [h]
theorem memN_no {s : S} {k : Nat} (h : s.getLsbD k = false) : memN s (k + 1) = memN s k := by
  unfold memN; rw [List.range_succ, List.filter_append]; simp [h]
theorem memN_length (s : S) (k : Nat) : (memN s k).length ≤ k := by
  unfold memN; have := List.length_filter_le (fun i => s.getLsbD i) (List.range k); simpa using this
theorem mem_memN {s : S} {k i : Nat} : i ∈ memN s k ↔ i < k ∧ s.getLsbD i = true := by
  unfold memN; rw [List.mem_filter, List.mem_range]
theorem memN_zero : memN 0#32 32 = [] := by
  unfold memN; rw [List.filter_eq_nil_iff]; intro i _; simp
theorem memN_low {r : S} {i : Nat} (hi : i < 32) (h1 : r.getLsbD i = true) (h2 : ∀ j, j < i → r.getLsbD j = false) : memN r 32 = i :: memN (r &&& ~~~ bit i) 32 := by
  have hr : List.range 32 = List.range i ++ (i :: (List.range' (i + 1) (31 - i))) := by
    rw [List.range_eq_range', List.range_eq_range']
    have e : List.range' 0 32 = List.range' 0 i ++ List.range' i (32 - i) := by
      have := @List.range'_append_1 0 i (32 - i)
      rw [show i + (32 - i) = 32 by omega] at this
      simpa using this.symm
    rw [e, show 32 - i = (31 - i) + 1 by omega, List.range'_succ]
  unfold memN
  rw [hr, List.filter_append, List.filter_append, List.filter_cons, List.filter_cons]
  have a1 : (List.range i).filter (fun j => r.getLsbD j) = [] := by
    rw [List.filter_eq_nil_iff]; intro j hj; simp [h2 j (List.mem_range.1 hj)]
  have a2 : (List.range i).filter (fun j => (r &&& ~~~ bit i).getLsbD j) = [] := by
    rw [List.filter_eq_nil_iff]; intro j hj; simp [h2 j (List.mem_range.1 hj)]
  have a3 : (r &&& ~~~ bit i).getLsbD i = false := by rw [andNot_bit r i i hi]; simp
  rw [a1, a2, h1, a3]
  simp only [List.nil_append, if_true, Bool.false_eq_true, if_false]
  congr 1
  apply List.filter_congr
  intro j hj
  rw [List.mem_range'_1] at hj
  rw [andNot_bit r i j (by omega)]
  have : ¬ j = i := by omega
  simp [this]

/-- The extension of s by the members of e, if s has none of them. -/
def extS (e s : S) : List S := if s &&& e != 0#32 then [s] else (memN e 32).map (fun i => s ||| bit i)
def nextS (e : S) (l : List S) : List S := l.flatMap (extS e)
def allL (es : List S) : List S := es.foldl (fun l e => redS (nextS e l)) [0#32]
theorem allL_take {es : List S} {k : Nat} {e : S} (h : es[k]? = some e) : allL (es.take (k + 1)) = redS (nextS e (allL (es.take k))) := by
  unfold allL; rw [take_next h, List.foldl_append]; rfl
theorem mem_extS {e s t : S} : t ∈ extS e s ↔ (s &&& e ≠ 0#32 ∧ t = s) ∨ (s &&& e = 0#32 ∧ ∃ i, i < 32 ∧ e.getLsbD i = true ∧ t = s ||| bit i) := by
  unfold extS
  by_cases h : s &&& e = 0#32
  · simp only [h, bne_self_eq_false, Bool.false_eq_true, if_false, ne_eq, not_true_eq_false, false_and, true_and, false_or, List.mem_map, mem_memN]
    constructor
    · rintro ⟨i, ⟨hi, h1⟩, rfl⟩; exact ⟨i, hi, h1, rfl⟩
    · rintro ⟨i, hi, h1, rfl⟩; exact ⟨i, ⟨hi, h1⟩, rfl⟩
  · have : (s &&& e != 0#32) = true := by simpa using h
    rw [this]
    simp [h]
theorem or_bit_get (s : S) (i j : Nat) (hj : j < 32) : (s ||| bit i).getLsbD j = (s.getLsbD j || decide (j = i)) := by
  rw [BitVec.getLsbD_or, bit_get i j hj]
theorem ext_hits {xs : List S} {e s t : S} (h : hitsS xs s = true) (ht : t ∈ extS e s) : hitsS (xs ++ [e]) t = true := by
  rw [hits_append]
  rcases mem_extS.1 ht with ⟨hne, rfl⟩ | ⟨_, i, hi, hei, rfl⟩
  · exact ⟨h, by rwa [BitVec.and_comm]⟩
  · refine ⟨hits_mono h (fun j hj hs => by rw [or_bit_get s i j hj, hs]; rfl), fun e0 => ?_⟩
    rw [and_zero_iff] at e0
    have := e0 i hi hei
    rw [or_bit_get s i i hi] at this
    simp at this
theorem next_ord {xs l : List S} {e : S} (h : IsOrd l (fun s => minS xs s = true)) : IsOrd (redS (nextS e l)) (fun s => minS (xs ++ [e]) s = true) := by
  have hall : ∀ t ∈ nextS e l, hitsS (xs ++ [e]) t = true := by
    intro t ht
    obtain ⟨s, hs, hts⟩ := List.mem_flatMap.1 ht
    exact ext_hits (minS_iff.1 ((h.2 s).1 hs)).1 hts
  have hin : ∀ t, minS (xs ++ [e]) t = true → t ∈ nextS e l := by
    intro t ht
    obtain ⟨hh, hm⟩ := minS_iff.1 ht
    obtain ⟨h1, h2⟩ := hits_append.1 hh
    obtain ⟨s, hs, hst⟩ := min_in xs _ t (Nat.le_refl _) h1
    apply List.mem_flatMap.2
    refine ⟨s, (h.2 s).2 hs, ?_⟩
    by_cases h0 : s &&& e = 0#32
    · obtain ⟨i, hi, hbi⟩ := ne_zero_bit h2
      rw [BitVec.getLsbD_and] at hbi
      simp at hbi
      have hmem : s ||| bit i ∈ extS e s := mem_extS.2 (.inr ⟨h0, i, hi, hbi.1, rfl⟩)
      have hsub : sub (s ||| bit i) t := by
        intro j hj hb
        rw [or_bit_get s i j hj] at hb
        simp at hb
        rcases hb with hb | rfl
        · exact hst j hj hb
        · exact hbi.2
      have := hm _ hsub (ext_hits (minS_iff.1 hs).1 hmem)
      rw [← this]; exact hmem
    · have hmem : s ∈ extS e s := mem_extS.2 (.inl ⟨h0, rfl⟩)
      have := hm _ hst (ext_hits (minS_iff.1 hs).1 hmem)
      rw [← this]; exact hmem
  refine (redS_ord (nextS e l)).congr fun s => ?_
  constructor
  · rintro ⟨hs, hmin⟩
    refine minS_iff.2 ⟨hall s hs, fun t hts hth => ?_⟩
    obtain ⟨u, hu, hut⟩ := min_in _ _ t (Nat.le_refl _) hth
    have e1 := hmin u (hin u hu) (sub_trans hut hts)
    subst e1
    exact sub_antisymm hts hut
  · intro hs
    exact ⟨hin s hs, fun f hf hfs => (minS_iff.1 hs).2 f hfs (hall f hf)⟩
theorem allL_ord (es : List S) : ∀ k, k ≤ es.length → IsOrd (allL (es.take k)) (fun s => minS (es.take k) s = true) := by
  intro k
  induction k with
  | zero =>
    intro _
    refine ⟨by simp [allL], fun s => ?_⟩
    simp only [List.take_zero, allL, List.foldl_nil, List.mem_singleton]
    rw [minS_iff]
    constructor
    · rintro rfl
      refine ⟨by rw [hits_iff]; simp, fun t ht _ => sub_antisymm ht (fun i _ h => by simp at h)⟩
    · rintro ⟨_, h⟩
      exact (h 0#32 (fun i _ h => by simp at h) (by rw [hits_iff]; simp)).symm
  | succ k ih =>
    intro hk
    obtain ⟨e, he⟩ := get_some (show k < es.length by omega)
    rw [allL_take he, take_next he]
    exact next_ord (ih (by omega))
theorem hits_red (xs : List S) (s : S) : hitsS (redS xs) s = hitsS xs s := by
  rw [Bool.eq_iff_iff, hits_iff, hits_iff]
  constructor
  · intro h x hx e
    obtain ⟨f, hf, hfx⟩ := min_below xs _ x (Nat.le_refl _) hx
    apply h f (((redS_ord xs).2 f).2 hf)
    rw [and_zero_iff] at *
    exact fun i hi hfi => e i hi (hfx i hi hfi)
  · intro h x hx
    exact h x (((redS_ord xs).2 x).1 hx).1
theorem min_red (xs : List S) (s : S) : minS (redS xs) s = minS xs s := by
  rw [Bool.eq_iff_iff, minS_iff, minS_iff]
  simp only [hits_red]
/-- What All returns. -/
def allS (xs : List S) : List S := allL (redS xs)
theorem allS_ord (xs : List S) : IsOrd (allS xs) (fun s => minS xs s = true) := by
  have h := allL_ord (redS xs) _ (Nat.le_refl _)
  rw [List.take_length] at h
  exact h.congr fun s => by rw [min_red]

/-! How long such lists are. -/
theorem nodup_bound : ∀ (n : Nat) (l : List Nat), l.Nodup → (∀ x ∈ l, x < n) → l.length ≤ n := by
  intro n
  induction n with
  | zero =>
    intro l _ h
    cases l with
    | nil => simp
    | cons x l => exact absurd (h x (by simp)) (by omega)
  | succ n ih =>
    intro l hn h
    by_cases hm : n ∈ l
    · have h1 := ih (l.erase n) (hn.erase n) (fun x hx => by
        have h2 := h x (List.mem_of_mem_erase hx)
        have h3 : x ≠ n := fun e => by subst e; exact (List.Nodup.not_mem_erase hn) hx
        omega)
      rw [List.length_erase_of_mem hm] at h1
      omega
    · have := ih l hn (fun x hx => by
        have h2 := h x hx
        have h3 : x ≠ n := fun e => by subst e; exact hm hx
        omega)
      omega
theorem ord_bound {l : List S} {n : Nat} (h : l.Pairwise bef) (hb : ∀ s ∈ l, s.toNat < n) : l.length ≤ n := by
  have h1 := nodup_bound n (l.map BitVec.toNat) ?_ ?_
  · simpa using h1
  · rw [List.Nodup, List.pairwise_map]
    exact h.imp (fun {a b} hab e => by
      have := BitVec.eq_of_toNat_eq e
      subst this
      exact bef_irrefl _ hab)
  · intro x hx
    obtain ⟨s, hs, rfl⟩ := List.mem_map.1 hx
    exact hb s hs
theorem lt_of_bits {s : S} {n : Nat} (h : ∀ i, i < 32 → n ≤ i → s.getLsbD i = false) : s.toNat < 2 ^ n := by
  apply Nat.lt_pow_two_of_testBit
  intro i hi
  by_cases h32 : i < 32
  · exact h i h32 hi
  · exact BitVec.getLsbD_of_ge s i (by omega)
/-- A minimal transversal has members of the edges alone. -/
theorem min_within {xs : List S} {s : S} {n : Nat} (h : minS xs s = true) (hx : ∀ x ∈ xs, ∀ i, i < 32 → n ≤ i → x.getLsbD i = false) : ∀ i, i < 32 → n ≤ i → s.getLsbD i = false := by
  intro i hi hn
  cases hs : s.getLsbD i with
  | false => rfl
  | true =>
    obtain ⟨h1, h2⟩ := minS_iff.1 h
    have hsub : sub (s &&& ~~~ bit i) s := fun j hj h => by
      rw [andNot_bit s i j hj] at h; simp at h; exact h.1
    have hh : hitsS xs (s &&& ~~~ bit i) = true := by
      rw [hits_iff] at *
      intro x hxm e
      apply h1 x hxm
      rw [and_zero_iff] at *
      intro j hj hxj
      have h3 := e j hj hxj
      rw [andNot_bit s i j hj] at h3
      by_cases e1 : j = i
      · subst e1
        rw [hx x hxm j hj hn] at hxj; cases hxj
      · simpa [e1] using h3
    have h3 := congrArg (fun x : S => x.getLsbD i) (h2 _ hsub hh)
    simp only [andNot_bit s i i hi] at h3
    rw [hs] at h3; simp at h3

end Go.Proofs.YtgahpgmagfngfaaGreatDoor


/- Plain laws of the set of the first numbers. No program. -/
namespace Go.Proofs.YtgahpgmagfngfaaGreatDoor

def fullN : Nat → S
  | 0 => 0#32
  | k + 1 => fullN k ||| 1#32 <<< k

theorem fullN_get (k i : Nat) (hi : i < 32) : (fullN k).getLsbD i = decide (i < k) := by
  induction k with
  | zero => simp [fullN]
  | succ k ih =>
    unfold fullN
    rw [BitVec.getLsbD_or, ih, show (1#32 <<< k) = bit k from rfl, bit_get k i hi]
    by_cases h1 : i < k
    · simp [h1]; omega
    · by_cases h2 : i = k
      · subst h2; simp
      · simp [h1, h2]; omega
theorem sub_full {x : S} {n : Nat} : sub x (fullN n) ↔ x >>> n = 0#32 := by
  constructor
  · intro h
    apply bv_ext
    intro i hi
    rw [BitVec.getLsbD_ushiftRight, BitVec.getLsbD_zero]
    by_cases h2 : n + i < 32
    · cases hx : x.getLsbD (n + i) with
      | false => rfl
      | true =>
        have := h (n + i) h2 hx
        rw [fullN_get n _ h2, decide_eq_true_iff] at this; omega
    · exact BitVec.getLsbD_of_ge _ _ (by omega)
  · intro h i hi hx
    rw [fullN_get n i hi, decide_eq_true_iff]
    apply Classical.byContradiction
    intro hn2
    have := congrArg (fun x : S => x.getLsbD (i - n)) h
    simp only [BitVec.getLsbD_ushiftRight, BitVec.getLsbD_zero] at this
    rw [show n + (i - n) = i by omega, hx] at this; cases this
theorem fullN_toNat (m : Nat) (h : m ≤ 32) : (fullN m).toNat = 2 ^ m - 1 := by
  apply Nat.eq_of_testBit_eq
  intro i
  rw [Nat.testBit_two_pow_sub_one]
  by_cases hi : i < 32
  · exact fullN_get m i hi
  · have : ¬ i < m := by omega
    simp [this]
    exact BitVec.getLsbD_of_ge _ _ (by omega)

end Go.Proofs.YtgahpgmagfngfaaGreatDoor


/- Plain laws of closures: dependencies as pairs of sets, the least closed set, the trace. No program. -/
namespace Go.Proofs.YtgahpgmagfngfaaGreatDoor

theorem snocRec {α : Type} {p : List α → Prop} (nil : p []) (snoc : ∀ (l : List α) (x : α), p l → p (l ++ [x])) : ∀ l, p l := by
  intro l
  have h : ∀ m : List α, p m.reverse := by
    intro m
    induction m with
    | nil => exact nil
    | cons a m ih => rw [List.reverse_cons]; exact snoc _ a ih
  rw [← List.reverse_reverse l]; exact h _

/-- A dependency: its left and its right side. -/
abbrev F := S × S

theorem sub_or_left (a b : S) : sub a (a ||| b) := fun i hi h => by rw [BitVec.getLsbD_or, h]; rfl
theorem sub_or_right (a b : S) : sub b (a ||| b) := fun i hi h => by rw [BitVec.getLsbD_or, h]; simp
theorem or_sub {a b c : S} (h : sub a c) (k : sub b c) : sub (a ||| b) c := fun i hi x => by
  rw [BitVec.getLsbD_or, Bool.or_eq_true] at x
  exact x.elim (h i hi) (k i hi)
theorem sub_toNat {a b : S} (h : sub a b) : a.toNat ≤ b.toNat := by
  rw [← and_self_iff] at h
  rw [← h, BitVec.toNat_and]
  exact Nat.and_le_right
theorem sub_toNat_lt {a b : S} (h : sub a b) (hne : a ≠ b) : a.toNat < b.toNat := by
  have := sub_toNat h
  have : a.toNat ≠ b.toNat := fun e => hne (BitVec.eq_of_toNat_eq e)
  omega
instance (a b : S) : Decidable (sub a b) := decidable_of_iff _ and_self_iff
theorem beq_sub' (a b : S) : (a &&& ~~~ b == 0#32) = decide (sub a b) := by rw [Bool.eq_iff_iff, beq_iff_eq, decide_eq_true_iff]; exact andNot_zero_iff

/-- One dependency applied to a set. -/
def stepF (s : S) (f : F) : S := if sub f.1 s then s ||| f.2 else s
def passF (fs : List F) (s : S) : S := fs.foldl stepF s
theorem passF_next {fs : List F} {k : Nat} {f : F} (h : fs[k]? = some f) (s : S) : passF (fs.take (k + 1)) s = stepF (passF (fs.take k) s) f := by
  unfold passF; rw [take_next h, List.foldl_append]; rfl
theorem stepF_yes {s : S} {f : F} (h : sub f.1 s) : stepF s f = s ||| f.2 := if_pos h
theorem stepF_no {s : S} {f : F} (h : ¬ sub f.1 s) : stepF s f = s := if_neg h
theorem stepF_sub (s : S) (f : F) : sub s (stepF s f) := by
  unfold stepF; split
  · exact sub_or_left _ _
  · exact sub_refl _
theorem passF_sub (fs : List F) : ∀ s, sub s (passF fs s) := by
  induction fs with
  | nil => intro s; exact sub_refl s
  | cons f fs ih => intro s; exact sub_trans (stepF_sub s f) (ih _)

/-- A set is closed under a list. -/
def closedF (fs : List F) (s : S) : Prop := ∀ f ∈ fs, sub f.1 s → sub f.2 s
instance (fs : List F) (s : S) : Decidable (closedF fs s) := inferInstanceAs (Decidable (∀ f ∈ fs, sub f.1 s → sub f.2 s))
theorem stepF_below {fs : List F} {s d : S} {f : F} (hf : f ∈ fs) (hd : closedF fs d) (h : sub s d) : sub (stepF s f) d := by
  unfold stepF; split
  · rename_i h1; exact or_sub h (hd f hf (sub_trans h1 h))
  · exact h
theorem passF_below {fs : List F} {d : S} (hd : closedF fs d) : ∀ (gs : List F), (∀ g ∈ gs, g ∈ fs) → ∀ s, sub s d → sub (passF gs s) d := by
  intro gs
  induction gs with
  | nil => intro _ s h; exact h
  | cons g gs ih => intro hg s h; exact ih (fun x hx => hg x (List.mem_cons_of_mem _ hx)) _ (stepF_below (hg g (List.mem_cons_self ..)) hd h)
theorem passF_fix {s : S} : ∀ {fs : List F}, passF fs s = s → closedF fs s := by
  intro fs
  induction fs with
  | nil => intro _ f hf; cases hf
  | cons g fs ih =>
    intro h f hf
    have h1 : stepF s g = s := by
      apply sub_antisymm _ (stepF_sub s g)
      have := passF_sub fs (stepF s g)
      rwa [show passF fs (stepF s g) = s from h] at this
    have h2 : passF fs s = s := by
      have h' : passF fs (stepF s g) = s := h
      rwa [h1] at h'
    rcases List.mem_cons.1 hf with rfl | hf
    · intro h3
      rw [stepF_yes h3] at h1
      rw [← h1]; exact sub_or_right _ _
    · exact ih h2 f hf

/-- c is the closure of s. -/
def IsCl (fs : List F) (s c : S) : Prop := sub s c ∧ closedF fs c ∧ ∀ d, sub s d → closedF fs d → sub c d
theorem IsCl.uniq {fs : List F} {s c d : S} (h : IsCl fs s c) (k : IsCl fs s d) : c = d := sub_antisymm (h.2.2 d k.1 k.2.1) (k.2.2 c h.1 h.2.1)
/-- t lies between s and its closure. -/
def Mid (fs : List F) (s t : S) : Prop := sub s t ∧ ∀ d, sub s d → closedF fs d → sub t d
theorem mid_refl (fs : List F) (s : S) : Mid fs s s := ⟨sub_refl s, fun _ h _ => h⟩
theorem Mid.pass {fs : List F} {s t : S} (h : Mid fs s t) : Mid fs s (passF fs t) :=
  ⟨sub_trans h.1 (passF_sub fs t), fun d hd hc => passF_below hc fs (fun _ h => h) t (h.2 d hd hc)⟩
theorem Mid.step {fs : List F} {s t : S} {f : F} (h : Mid fs s t) (hf : f ∈ fs) (h1 : sub f.1 t) : Mid fs s (t ||| f.2) :=
  ⟨sub_trans h.1 (sub_or_left _ _), fun d hd hc => or_sub (h.2 d hd hc) (hc f hf (sub_trans h1 (h.2 d hd hc)))⟩
theorem Mid.close {fs : List F} {s t : S} (h : Mid fs s t) (hc : closedF fs t) : IsCl fs s t := ⟨h.1, hc, h.2⟩
theorem exists_cl (fs : List F) (s : S) : ∀ (n : Nat) (t : S), 2 ^ 32 - t.toNat ≤ n → Mid fs s t → ∃ c, IsCl fs s c := by
  intro n
  induction n with
  | zero => intro t h _; have := t.isLt; omega
  | succ n ih =>
    intro t h hm
    by_cases hp : passF fs t = t
    · exact ⟨t, hm.close (passF_fix hp)⟩
    · refine ih (passF fs t) ?_ hm.pass
      have := sub_toNat_lt (passF_sub fs t) (Ne.symm hp)
      omega
/-- The closure. -/
noncomputable def closeS (fs : List F) (s : S) : S := Classical.choose (exists_cl fs s _ s (Nat.le_refl _) (mid_refl fs s))
theorem closeS_cl (fs : List F) (s : S) : IsCl fs s (closeS fs s) := Classical.choose_spec (exists_cl fs s _ s (Nat.le_refl _) (mid_refl fs s))
theorem closeS_of {fs : List F} {s c : S} (h : IsCl fs s c) : closeS fs s = c := (closeS_cl fs s).uniq h
theorem closeS_fix {fs : List F} {s t : S} (h : Mid fs s t) (hp : passF fs t = t) : closeS fs s = t := closeS_of (h.close (passF_fix hp))
theorem pass_grows {fs : List F} {t : S} (hp : passF fs t ≠ t) : t.toNat < (passF fs t).toNat := sub_toNat_lt (passF_sub fs t) (Ne.symm hp)

/-- A dependency follows. -/
noncomputable def impS (fs : List F) (f : F) : Bool := decide (sub f.2 (closeS fs f.1))

/-- A dependency enlarges a set. -/
def enl (s : S) (f : F) : Bool := decide (sub f.1 s) && !decide (sub f.2 s)
theorem closed_iff {fs : List F} {s : S} : closedF fs s ↔ fs.any (enl s) = false := by
  rw [List.any_eq_false]
  refine ⟨fun h f hf e => ?_, fun h f hf h1 => ?_⟩
  · unfold enl at e; simp at e; exact e.2 (h f hf e.1)
  · have := h f hf; unfold enl at this; simp at this; exact this h1



end Go.Proofs.YtgahpgmagfngfaaGreatDoor


/- Plain laws of the subsets of a set, in falling and in rising order of their numbers. No program. -/
namespace Go.Proofs.YtgahpgmagfngfaaGreatDoor

theorem and_mod2 (a b : Nat) : (a &&& b) % 2 = (a % 2) * (b % 2) := by
  have h := Nat.and_mod_two_pow (a := a) (b := b) (n := 1)
  simp only [Nat.pow_one] at h
  rw [h]
  rcases Nat.mod_two_eq_zero_or_one a with ha | ha <;> rcases Nat.mod_two_eq_zero_or_one b with hb | hb <;> rw [ha, hb] <;> rfl
theorem and_half (a b : Nat) : (a &&& b) / 2 = a / 2 &&& b / 2 := Nat.and_div_two
theorem and_split (a b : Nat) : a &&& b = 2 * (a / 2 &&& b / 2) + (a % 2) * (b % 2) := by
  have h1 := and_half a b
  have h2 := and_mod2 a b
  omega
theorem nsub_half {x s : Nat} (h : x &&& s = x) : x / 2 &&& s / 2 = x / 2 ∧ x % 2 ≤ s % 2 := by
  refine ⟨by rw [← and_half, h], ?_⟩
  have := and_mod2 x s
  rw [h] at this
  rcases Nat.mod_two_eq_zero_or_one s with hb | hb <;> rw [hb] at this ⊢ <;> omega

/-- The greatest subset below x. -/
theorem pred_sub : ∀ (n x y s : Nat), x < n → x &&& s = x → y &&& s = y → y < x → y ≤ (x - 1) &&& s := by
  intro n
  induction n with
  | zero => intro x y s h; omega
  | succ n ih =>
    intro x y s hn hx hy hlt
    obtain ⟨hx1, hx2⟩ := nsub_half hx
    obtain ⟨hy1, hy2⟩ := nsub_half hy
    have hsp := and_split (x - 1) s
    rcases Nat.mod_two_eq_zero_or_one x with hm | hm
    · have e1 : (x - 1) / 2 = x / 2 - 1 := by omega
      have e2 : (x - 1) % 2 = 1 := by omega
      rw [e1, e2, Nat.one_mul] at hsp
      have := ih (x / 2) (y / 2) (s / 2) (by omega) hx1 hy1
      by_cases h : y / 2 < x / 2
      · have := this h; omega
      · omega
    · have e1 : (x - 1) / 2 = x / 2 := by omega
      have e2 : (x - 1) % 2 = 0 := by omega
      rw [e1, e2, Nat.zero_mul, hx1] at hsp
      omega



/-! The same at sets. -/
theorem sub_nat {a b : S} : sub a b ↔ a.toNat &&& b.toNat = a.toNat := by
  rw [← and_self_iff, ← BitVec.toNat_and]
  exact ⟨fun h => by rw [h], fun h => BitVec.eq_of_toNat_eq h⟩
theorem and_sub_right (a b : S) : sub (a &&& b) b := fun i hi h => by rw [BitVec.getLsbD_and, Bool.and_eq_true] at h; exact h.2
theorem pred_toNat {x : S} (h : x ≠ 0#32) : (x - 1#32).toNat = x.toNat - 1 := by
  have : x.toNat ≠ 0 := fun e => h (BitVec.eq_of_toNat_eq (by simpa using e))
  rw [BitVec.toNat_sub]
  have := x.isLt
  simp; omega
/-- What the falling walk has met at x: the subsets that are not less. -/
theorem fall_next {s x y : S} (hx : sub x s) (h0 : x ≠ 0#32) (hy : sub y s) : ((x - 1#32) &&& s).toNat ≤ y.toNat ↔ y = (x - 1#32) &&& s ∨ x.toNat ≤ y.toNat := by
  have hp := pred_toNat h0
  have h1 : x.toNat ≠ 0 := fun e => h0 (BitVec.eq_of_toNat_eq (by simpa using e))
  have hl := pred_sub (x.toNat + 1) x.toNat y.toNat s.toNat (by omega) (sub_nat.1 hx) (sub_nat.1 hy)
  have e : ((x - 1#32) &&& s).toNat = (x.toNat - 1) &&& s.toNat := by rw [BitVec.toNat_and, hp]
  have hle : (x.toNat - 1) &&& s.toNat ≤ x.toNat - 1 := Nat.and_le_left
  constructor
  · intro h
    by_cases h2 : x.toNat ≤ y.toNat
    · exact .inr h2
    · refine .inl (BitVec.eq_of_toNat_eq ?_)
      have := hl (by omega)
      omega
  · rintro (rfl | h)
    · exact Nat.le_refl _
    · omega
theorem fall_less {s x : S} (h0 : x ≠ 0#32) : ((x - 1#32) &&& s).toNat < x.toNat := by
  have h1 : x.toNat ≠ 0 := fun e => h0 (BitVec.eq_of_toNat_eq (by simpa using e))
  have hp := pred_toNat h0
  rw [BitVec.toNat_and, hp]
  have : (x.toNat - 1) &&& s.toNat ≤ x.toNat - 1 := Nat.and_le_left
  omega

theorem IsOrd.filter {xs : List S} {p : S → Prop} (h : IsOrd xs p) (q : S → Bool) : IsOrd (xs.filter q) (fun s => p s ∧ q s = true) :=
  ⟨h.1.sublist List.filter_sublist, fun s => by rw [List.mem_filter, h.2 s]⟩

/-- The subsets of a set that Subsets lists: none where it is greater than twelve. -/
def SubsP (s : S) (ys : List S) : Prop := (12 < pop s → ys = []) ∧ (pop s ≤ 12 → IsOrd ys (fun x => sub x s))
theorem SubsP.uniq {s : S} {xs ys : List S} (h : SubsP s xs) (k : SubsP s ys) : xs = ys := by
  by_cases hp : pop s ≤ 12
  · exact (h.2 hp).uniq (k.2 hp) fun _ => Iff.rfl
  · rw [h.1 (by omega), k.1 (by omega)]


end Go.Proofs.YtgahpgmagfngfaaGreatDoor


/- Plain laws of the trace: where it ends, what it used; the closure by rounds. No program. -/
namespace Go.Proofs.YtgahpgmagfngfaaGreatDoor

/-- The closure after some rounds, where they suffice. -/
def iterF (fs : List F) : Nat → S → S
  | 0, s => s
  | n + 1, s => iterF fs n (passF fs s)
theorem iterF_mid {fs : List F} {s : S} : ∀ (n : Nat) (t : S), Mid fs s t → Mid fs s (iterF fs n t) := by
  intro n
  induction n with
  | zero => intro t h; exact h
  | succ n ih => intro t h; exact ih _ h.pass
theorem closeS_iter {fs : List F} {s : S} (n : Nat) (h : closedF fs (iterF fs n s)) : closeS fs s = iterF fs n s := closeS_of ((iterF_mid n s (mid_refl fs s)).close h)



end Go.Proofs.YtgahpgmagfngfaaGreatDoor


/- Plain laws of covers: what follows, lists without repeats, one attribute on the right, the minimal and the canonical cover. No program. -/
namespace Go.Proofs.YtgahpgmagfngfaaGreatDoor

theorem imp_iff {fs : List F} {f : F} : impS fs f = true ↔ ∀ d, closedF fs d → sub f.1 d → sub f.2 d := by
  unfold impS
  rw [decide_eq_true_iff]
  obtain ⟨h1, h2, h3⟩ := closeS_cl fs f.1
  exact ⟨fun h d hd hs => sub_trans h (h3 d hs hd), fun h => h _ h2 h1⟩
/-- Two lists from which the same follows: the same sets are closed. -/
def Eqv (l m : List F) : Prop := ∀ d, closedF l d ↔ closedF m d
theorem Eqv.refl (l : List F) : Eqv l l := fun _ => Iff.rfl
theorem Eqv.symm {l m : List F} (h : Eqv l m) : Eqv m l := fun d => (h d).symm
theorem Eqv.trans {l m n : List F} (h : Eqv l m) (k : Eqv m n) : Eqv l n := fun d => (h d).trans (k d)
theorem Eqv.imp {l m : List F} (h : Eqv l m) (f : F) : impS l f = impS m f := by
  rw [Bool.eq_iff_iff, imp_iff, imp_iff]
  exact ⟨fun k d hd => k d ((h d).2 hd), fun k d hd => k d ((h d).1 hd)⟩
theorem Eqv.close {l m : List F} (h : Eqv l m) (s : S) : closeS l s = closeS m s := by
  obtain ⟨h1, h2, h3⟩ := closeS_cl l s
  exact (closeS_of ⟨h1, (h _).1 h2, fun d hd hc => h3 d hd ((h d).2 hc)⟩).symm
theorem imp_of_mem {l : List F} {f : F} (h : f ∈ l) : impS l f = true := imp_iff.2 fun _ hd => hd f h

/-! Lists without repeats. -/
def onceStep (out : List F) (x : F) : List F := if x ∈ out then out else out ++ [x]
def onceF (l : List F) : List F := l.foldl onceStep []
theorem onceF_next {l : List F} {k : Nat} {x : F} (h : l[k]? = some x) : onceF (l.take (k + 1)) = onceStep (onceF (l.take k)) x := by
  unfold onceF; rw [take_next h, List.foldl_append]; rfl
theorem onceF_snoc (l : List F) (x : F) : onceF (l ++ [x]) = onceStep (onceF l) x := by unfold onceF; rw [List.foldl_append]; rfl
theorem onceF_length (l : List F) : (onceF l).length ≤ l.length := by
  induction l using snocRec with
  | nil => simp [onceF]
  | snoc l x ih =>
    rw [onceF_snoc]; unfold onceStep; split
    · simp; omega
    · simp; omega

/-! One attribute on the right. -/
def splitX (x : F) : List F := (memN (x.2 &&& ~~~ x.1) 32).map fun a => (x.1, bit a)
def splitF (l : List F) : List F := onceF (l.flatMap splitX)

/-! A list without one dependency. -/
def othersF (l : List F) (i : Nat) : List F := l.take i ++ l.drop (i + 1)
theorem others_length {l : List F} {i : Nat} (h : i < l.length) : (othersF l i).length = l.length - 1 := by
  unfold othersF; simp; omega
noncomputable def redB (l : List F) (i : Nat) : Bool := impS (othersF l i) (l.getD i (0#32, 0#32))
theorem redB_at {l : List F} {i : Nat} {x : F} (h : l[i]? = some x) : redB l i = impS (othersF l i) x := by
  unfold redB; simp [List.getD, h]

/-! The attributes of a left side that are not needed are taken out. -/
noncomputable def extrB (l : List F) (x : F) (a : Nat) : Bool := impS l (x.1 &&& ~~~ bit a, x.2)
noncomputable def trimStep (i : Nat) (l : List F) (a : Nat) : List F :=
  match l[i]? with
  | none => l
  | some x => if extrB l x a then l.set i (x.1 &&& ~~~ bit a, x.2) else l
noncomputable def trimN (l : List F) (i : Nat) (as : List Nat) : List F := as.foldl (trimStep i) l
def lhsN (l : List F) (i : Nat) : List Nat := memN (l.getD i (0#32, 0#32)).1 32
noncomputable def trimF (l : List F) : Nat → List F
  | 0 => l
  | k + 1 => trimN (trimF l k) k (lhsN (trimF l k) k)
theorem trimStep_length (i : Nat) (l : List F) (a : Nat) : (trimStep i l a).length = l.length := by
  unfold trimStep; split
  · rfl
  · split
    · simp
    · rfl
theorem trimN_length (i : Nat) : ∀ (as : List Nat) (l : List F), (trimN l i as).length = l.length := by
  intro as
  induction as with
  | nil => intro l; rfl
  | cons a as ih => intro l; exact (ih _).trans (trimStep_length i l a)
theorem trimF_length (l : List F) (k : Nat) : (trimF l k).length = l.length := by
  induction k with
  | zero => rfl
  | succ k ih => unfold trimF; rw [trimN_length, ih]

/-! Dependencies that follow from the others are left out, one after the other. -/
noncomputable def dropF : Nat → List F → Nat → List F
  | 0, l, _ => l
  | n + 1, l, i => if i < l.length then (if redB l i then dropF n (othersF l i) i else dropF n l (i + 1)) else l
noncomputable def dropS (l : List F) (i : Nat) : List F := dropF (l.length - i) l i
theorem dropS_end {l : List F} {i : Nat} (h : ¬ i < l.length) : dropS l i = l := by
  unfold dropS; rw [show l.length - i = 0 by omega]; rfl
theorem dropS_yes {l : List F} {i : Nat} (h : i < l.length) (hr : redB l i = true) : dropS l i = dropS (othersF l i) i := by
  unfold dropS
  rw [others_length h, show l.length - i = (l.length - 1 - i) + 1 by omega]
  show (if i < l.length then _ else _) = _
  rw [if_pos h, if_pos hr]
theorem dropS_no {l : List F} {i : Nat} (h : i < l.length) (hr : redB l i = false) : dropS l i = dropS l (i + 1) := by
  unfold dropS
  rw [show l.length - i = (l.length - (i + 1)) + 1 by omega]
  show (if i < l.length then _ else _) = _
  rw [if_pos h, if_neg (by simp [hr])]
noncomputable def minF (l : List F) : List F := dropS (onceF (trimF (splitF l) (splitF l).length)) 0

end Go.Proofs.YtgahpgmagfngfaaGreatDoor


/- Plain laws of covers, on: what is left is equivalent, trimmed on the left, and none of it follows from the others. No program. -/
namespace Go.Proofs.YtgahpgmagfngfaaGreatDoor


theorem trimStep_yes {i : Nat} {l : List F} {a : Nat} {x : F} (h : l[i]? = some x) (he : extrB l x a = true) : trimStep i l a = l.set i (x.1 &&& ~~~ bit a, x.2) := by unfold trimStep; rw [h]; simp [he]
theorem trimStep_no {i : Nat} {l : List F} {a : Nat} {x : F} (h : l[i]? = some x) (he : extrB l x a = false) : trimStep i l a = l := by unfold trimStep; rw [h]; simp [he]



/-- The left sides have nothing superfluous; the right sides have one attribute, which is not on the left. -/
def LeftMin (l : List F) : Prop := ∀ x ∈ l, ∀ a, x.1.getLsbD a = true → extrB l x a = false
def UnitR (l : List F) : Prop := ∀ x ∈ l, ∃ a, a < 32 ∧ x.2 = bit a ∧ x.1.getLsbD a = false
theorem LeftMin.of {l m : List F} (h : LeftMin l) (e : Eqv m l) (hm : ∀ f ∈ m, f ∈ l) : LeftMin m := fun x hx a ha => by
  have := h x (hm x hx) a ha
  unfold extrB at this ⊢
  rw [e.imp]; exact this
theorem UnitR.of {l m : List F} (h : UnitR l) (hm : ∀ f ∈ m, f ∈ l) : UnitR m := fun x hx => h x (hm x hx)



end Go.Proofs.YtgahpgmagfngfaaGreatDoor


/- Plain laws of the closed sets of a few attributes: they meet in closed sets. No program. -/
namespace Go.Proofs.YtgahpgmagfngfaaGreatDoor


end Go.Proofs.YtgahpgmagfngfaaGreatDoor

