/- Plain laws on the order of sets: sizes, the order, sorted lists without repetition. No program. -/
import Derived.Test.YtmlbmdcmedglaaaDoorBits
namespace Go.Proofs.YtmlbmdcmedglaaaDoor

/-- How many of the k lowest bits are set. -/
def popN : Nat → Nat → Nat
  | 0, _ => 0
  | k + 1, x => x % 2 + popN k (x / 2)
theorem popN_split (j k : Nat) : ∀ a b, b < 2 ^ j → popN (j + k) (2 ^ j * a + b) = popN j b + popN k a := by
  induction j with
  | zero => intro a b hb; simp at hb; subst hb; simp [popN]
  | succ j ih =>
    intro a b hb
    have e1 : (2 ^ (j + 1) * a + b) % 2 = b % 2 := by
      rw [Nat.pow_succ, Nat.mul_comm (2 ^ j) 2, Nat.mul_assoc]; omega
    have e2 : (2 ^ (j + 1) * a + b) / 2 = 2 ^ j * a + b / 2 := by
      rw [Nat.pow_succ, Nat.mul_comm (2 ^ j) 2, Nat.mul_assoc]; omega
    rw [show j + 1 + k = (j + k) + 1 by omega]
    simp only [popN]
    rw [e1, e2, ih a (b / 2) (by rw [Nat.pow_succ] at hb; omega)]
    omega
theorem popN_count (k : Nat) : ∀ x : Nat, (List.range k).countP (fun i => x.testBit i) = popN k x := by
  induction k with
  | zero => intro x; rfl
  | succ k ih =>
    intro x
    rw [List.range_succ_eq_map, List.countP_cons, List.countP_map, popN, ← ih (x / 2)]
    have : (fun i => x.testBit i) ∘ Nat.succ = fun i => (x / 2).testBit i := by funext i; simp [Nat.testBit_succ]
    rw [this, Nat.testBit_zero]
    have := Nat.mod_two_eq_zero_or_one x
    rcases this with h | h <;> simp [h] <;> omega
theorem popN_le (k : Nat) : ∀ x, popN k x ≤ k := by
  induction k with
  | zero => intro x; simp [popN]
  | succ k ih => intro x; have := ih (x / 2); have := Nat.mod_lt x (show 2 > 0 by omega); simp only [popN]; omega
/-- The size of a set. -/
def pop (s : S) : Nat := popN 32 s.toNat
theorem pop_le (s : S) : pop s ≤ 32 := popN_le 32 _
theorem pop_bytes (s : S) : pop s = popN 8 (s >>> 24).toNat + popN 8 (s >>> 16 &&& 255#32).toNat + popN 8 (s >>> 8 &&& 255#32).toNat + popN 8 (s &&& 255#32).toNat := by
  have hs := s.isLt
  have m : ∀ x : S, (x &&& 255#32).toNat = x.toNat % 256 := by
    intro x
    rw [BitVec.toNat_and]
    exact Nat.and_two_pow_sub_one_eq_mod x.toNat 8
  rw [m, m, m]
  simp only [BitVec.toNat_ushiftRight, Nat.shiftRight_eq_div_pow]
  have h1 := popN_split 8 24 (s.toNat / 256) (s.toNat % 256) (by omega)
  have h2 := popN_split 8 16 (s.toNat / 256 / 256) (s.toNat / 256 % 256) (by omega)
  have h3 := popN_split 8 8 (s.toNat / 256 / 256 / 256) (s.toNat / 256 / 256 % 256) (by omega)
  have e1 : 2 ^ 8 * (s.toNat / 256) + s.toNat % 256 = s.toNat := by omega
  have e2 : 2 ^ 8 * (s.toNat / 256 / 256) + s.toNat / 256 % 256 = s.toNat / 256 := by omega
  have e3 : 2 ^ 8 * (s.toNat / 256 / 256 / 256) + s.toNat / 256 / 256 % 256 = s.toNat / 256 / 256 := by omega
  rw [e1] at h1; rw [e2] at h2; rw [e3] at h3
  unfold pop
  rw [show 8 + 24 = 32 by rfl] at h1
  rw [show 8 + 16 = 24 by rfl] at h2
  rw [show 8 + 8 = 16 by rfl] at h3
  rw [h1, h2, h3, show s.toNat / 2 ^ 24 = s.toNat / 256 / 256 / 256 by omega, show s.toNat / 2 ^ 16 = s.toNat / 256 / 256 by omega, show s.toNat / 2 ^ 8 = s.toNat / 256 by omega]
  omega

/-- cmp.Compare. -/
def cmpI (x y : Int) : Int := if x < y then -1 else if y < x then 1 else 0
/-- The order of sets. -/
def cmpS (a b : S) : Int := if cmpI (pop a) (pop b) ≠ 0 then cmpI (pop a) (pop b) else cmpI (iv a) (iv b)

/-- a comes before b. -/
def bef (a b : S) : Prop := cmpS a b < 0
instance (a b : S) : Decidable (bef a b) := inferInstanceAs (Decidable (cmpS a b < 0))
theorem bef_iff (a b : S) : bef a b ↔ pop a < pop b ∨ pop a = pop b ∧ a.toNat < b.toNat := by
  unfold bef cmpS cmpI iv
  by_cases h1 : (pop a : Int) < pop b
  · simp [h1]; omega
  · by_cases h2 : (pop b : Int) < pop a
    · simp [h1, h2]; omega
    · have h3 : pop a = pop b := by omega
      simp [h3]
      split <;> (try split) <;> omega
theorem bef_irrefl (a : S) : ¬ bef a a := by rw [bef_iff]; omega
theorem bef_trans {a b c : S} (h : bef a b) (k : bef b c) : bef a c := by rw [bef_iff] at *; omega
theorem bef_total {a b : S} (h : ¬ bef a b) (k : ¬ bef b a) : a = b := by
  rw [bef_iff] at *
  exact BitVec.eq_of_toNat_eq (by omega)
theorem bef_asymm {a b : S} (h : bef a b) : ¬ bef b a := by rw [bef_iff] at *; omega

/-- ys holds just the sets with the property p, each once, in order. -/
def IsOrd (ys : List S) (p : S → Prop) : Prop := ys.Pairwise bef ∧ ∀ s, s ∈ ys ↔ p s

theorem sorted_uniq : ∀ (xs ys : List S), xs.Pairwise bef → ys.Pairwise bef → (∀ s, s ∈ xs ↔ s ∈ ys) → xs = ys := by
  intro xs
  induction xs with
  | nil =>
    intro ys _ _ h
    cases ys with
    | nil => rfl
    | cons y ys => exact absurd ((h y).2 (by simp)) (by simp)
  | cons x xs ih =>
    intro ys hx hy h
    cases ys with
    | nil => exact absurd ((h x).1 (by simp)) (by simp)
    | cons y ys =>
      rw [List.pairwise_cons] at hx hy
      have hxy : x = y := by
        have h1 := (h x).1 (by simp)
        have h2 := (h y).2 (by simp)
        rw [List.mem_cons] at h1 h2
        rcases h1 with h1 | h1
        · exact h1
        · rcases h2 with h2 | h2
          · exact h2.symm
          · exact absurd (hx.1 y h2) (bef_asymm (hy.1 x h1))
      subst hxy
      rw [ih ys hx.2 hy.2 (fun s => ?_)]
      constructor
      · intro hs
        have h1 := (h s).1 (List.mem_cons_of_mem _ hs)
        rw [List.mem_cons] at h1
        rcases h1 with rfl | h1
        · exact absurd (hx.1 s hs) (bef_irrefl _)
        · exact h1
      · intro hs
        have h1 := (h s).2 (List.mem_cons_of_mem _ hs)
        rw [List.mem_cons] at h1
        rcases h1 with rfl | h1
        · exact absurd (hy.1 s hs) (bef_irrefl _)
        · exact h1
theorem IsOrd.uniq {xs ys : List S} {p q : S → Prop} (h : IsOrd xs p) (k : IsOrd ys q) (e : ∀ s, p s ↔ q s) : xs = ys :=
  sorted_uniq xs ys h.1 k.1 (fun s => (h.2 s).trans ((e s).trans (k.2 s).symm))
theorem IsOrd.congr {xs : List S} {p q : S → Prop} (h : IsOrd xs p) (e : ∀ s, p s ↔ q s) : IsOrd xs q := ⟨h.1, fun s => (h.2 s).trans (e s)⟩

/-- Subsets. -/
def sub (a b : S) : Prop := ∀ i, i < 32 → a.getLsbD i = true → b.getLsbD i = true
theorem sub_refl (a : S) : sub a a := fun _ _ h => h
theorem sub_trans {a b c : S} (h : sub a b) (k : sub b c) : sub a c := fun i hi x => k i hi (h i hi x)
theorem sub_antisymm {a b : S} (h : sub a b) (k : sub b a) : a = b := bv_ext fun i hi => by
  rw [Bool.eq_iff_iff]; exact ⟨h i hi, k i hi⟩
theorem and_self_iff {a b : S} : a &&& b = a ↔ sub a b := by
  constructor
  · intro h i hi ha
    rw [← h, BitVec.getLsbD_and] at ha
    simp at ha; exact ha.2
  · intro h
    apply bv_ext
    intro i hi
    rw [BitVec.getLsbD_and]
    have := h i hi
    cases hx : a.getLsbD i <;> simp_all
theorem andNot_zero_iff {a b : S} : a &&& ~~~ b = 0#32 ↔ sub a b := by
  constructor
  · intro h i hi ha
    have := congrArg (fun x : S => x.getLsbD i) h
    rw [BitVec.getLsbD_and, BitVec.getLsbD_not, ha] at this
    simpa [hi] using this
  · intro h
    apply bv_ext
    intro i hi
    rw [BitVec.getLsbD_and, BitVec.getLsbD_not]
    have := h i hi
    cases hx : a.getLsbD i <;> simp_all
theorem and_zero_iff {a b : S} : a &&& b = 0#32 ↔ ∀ i, i < 32 → a.getLsbD i = true → b.getLsbD i = false := by
  constructor
  · intro h i hi ha
    have := congrArg (fun x : S => x.getLsbD i) h
    rw [BitVec.getLsbD_and, ha] at this
    simpa using this
  · intro h
    apply bv_ext
    intro i hi
    rw [BitVec.getLsbD_and]
    have := h i hi
    cases hx : a.getLsbD i <;> simp_all
theorem pop_count (s : S) : pop s = (List.range 32).countP (fun i => s.getLsbD i) := by
  unfold pop; rw [← popN_count]; rfl
theorem countP_le_of {α : Type} (p q : α → Bool) : ∀ (l : List α), (∀ x ∈ l, p x = true → q x = true) → l.countP p ≤ l.countP q ∧ ((∃ x ∈ l, p x = false ∧ q x = true) → l.countP p < l.countP q) := by
  intro l
  induction l with
  | nil => intro _; simp
  | cons x l ih =>
    intro h
    have ⟨h1, h2⟩ := ih (fun y hy => h y (List.mem_cons_of_mem _ hy))
    have hx := h x (by simp)
    rw [List.countP_cons, List.countP_cons]
    refine ⟨?_, ?_⟩
    · cases hp : p x <;> cases hq : q x <;> simp_all <;> omega
    · rintro ⟨y, hy, hpy, hqy⟩
      rw [List.mem_cons] at hy
      rcases hy with rfl | hy
      · simp [hpy, hqy]; omega
      · have := h2 ⟨y, hy, hpy, hqy⟩
        cases hp : p x <;> cases hq : q x <;> simp_all <;> omega
theorem sub_pop {a b : S} (h : sub a b) : pop a ≤ pop b := by
  rw [pop_count, pop_count]
  exact (countP_le_of _ _ _ (fun i hi => h i (List.mem_range.1 hi))).1
theorem sub_pop_lt {a b : S} (h : sub a b) (hne : a ≠ b) : pop a < pop b := by
  rw [pop_count, pop_count]
  refine (countP_le_of _ _ _ (fun i hi => h i (List.mem_range.1 hi))).2 ?_
  apply Classical.byContradiction
  intro hn
  apply hne
  apply bv_ext
  intro i hi
  rw [Bool.eq_iff_iff]
  refine ⟨h i hi, fun hb => ?_⟩
  apply Classical.byContradiction
  intro ha
  exact hn ⟨i, List.mem_range.2 hi, by simpa using ha, hb⟩
theorem sub_bef {a b : S} (h : sub a b) (hne : a ≠ b) : bef a b := (bef_iff a b).2 (.inl (sub_pop_lt h hne))

/-- The sort: what comes before stays before. -/
def sortS (xs : List S) : List S := xs.mergeSort (fun x y => !decide (bef y x))
theorem sortS_perm (xs : List S) : (sortS xs).Perm xs := List.mergeSort_perm _ _
theorem sortS_sorted (xs : List S) : (sortS xs).Pairwise (fun x y => ¬ bef y x) := by
  have h := List.pairwise_mergeSort (le := fun x y : S => !decide (bef y x)) ?_ ?_ xs
  · exact h.imp (fun h => by simpa using h)
  · intro a b c
    simp only [Bool.not_eq_true', decide_eq_false_iff_not]
    intro h1 h2 h3
    rw [bef_iff] at *; omega
  · intro a b
    simp only [Bool.or_eq_true, Bool.not_eq_true', decide_eq_false_iff_not]
    by_cases h : bef b a
    · right; exact bef_asymm h
    · left; exact h

/-- Reduce, an element at a time. -/
def redStep (out : List S) (e : S) : List S := if out.any (fun f => f &&& e == f) then out else out ++ [e]
def redL (l : List S) : List S := l.foldl redStep []
theorem redL_next {l : List S} {k : Nat} {e : S} (h : l[k]? = some e) : redL (l.take (k + 1)) = redStep (redL (l.take k)) e := by
  unfold redL; rw [take_next h, List.foldl_append]; rfl
def isMin (l : List S) (s : S) : Prop := s ∈ l ∧ ∀ f ∈ l, sub f s → f = s
theorem min_below (l : List S) : ∀ (n : Nat) (g : S), pop g ≤ n → g ∈ l → ∃ f, isMin l f ∧ sub f g := by
  intro n
  induction n with
  | zero =>
    intro g hg hl
    refine ⟨g, ⟨hl, fun f hf hs => ?_⟩, sub_refl _⟩
    apply Classical.byContradiction
    intro hne
    have := sub_pop_lt hs hne; omega
  | succ n ih =>
    intro g hg hl
    by_cases h : ∃ f ∈ l, sub f g ∧ f ≠ g
    · obtain ⟨f, hf, hs, hne⟩ := h
      have := sub_pop_lt hs hne
      obtain ⟨m, hm, hms⟩ := ih f (by omega) hf
      exact ⟨m, hm, sub_trans hms hs⟩
    · refine ⟨g, ⟨hl, fun f hf hs => ?_⟩, sub_refl _⟩
      apply Classical.byContradiction
      intro hne
      exact h ⟨f, hf, hs, hne⟩
theorem redStep_ord {l : List S} {e : S} {out : List S} (hpw : (l ++ [e]).Pairwise (fun x y => ¬ bef y x)) (h : IsOrd out (isMin l)) : IsOrd (redStep out e) (isMin (l ++ [e])) := by
  have hle : ∀ x ∈ l, ¬ bef e x := fun x hx => (List.pairwise_append.1 hpw).2.2 x hx e (by simp)
  unfold redStep
  split
  · rename_i hany
    rw [List.any_eq_true] at hany
    obtain ⟨f, hf, hfe⟩ := hany
    have hfe := and_self_iff.1 (by simpa using hfe)
    have hfm := (h.2 f).1 hf
    refine ⟨h.1, fun s => (h.2 s).trans ⟨fun ⟨hs, hm⟩ => ⟨List.mem_append_left _ hs, fun g hg hgs => ?_⟩, fun ⟨hs, hm⟩ => ?_⟩⟩
    · rw [List.mem_append, List.mem_singleton] at hg
      rcases hg with hg | rfl
      · exact hm g hg hgs
      · apply Classical.byContradiction
        intro hne
        exact hle s hs (sub_bef hgs hne)
    · rw [List.mem_append, List.mem_singleton] at hs
      rcases hs with hs | rfl
      · exact ⟨hs, fun g hg => hm g (List.mem_append_left _ hg)⟩
      · have := hm f (List.mem_append_left _ hfm.1) hfe
        subst this; exact hfm
  · rename_i hany
    have hno : ∀ f ∈ out, ¬ sub f e := by
      intro f hf hfe
      apply hany
      rw [List.any_eq_true]
      exact ⟨f, hf, by simpa using and_self_iff.2 hfe⟩
    have hmin : isMin (l ++ [e]) e := by
      refine ⟨by simp, fun g hg hgs => ?_⟩
      rw [List.mem_append, List.mem_singleton] at hg
      rcases hg with hg | rfl
      · obtain ⟨m, hm, hms⟩ := min_below l _ g (Nat.le_refl _) hg
        exact absurd (sub_trans hms hgs) (hno m ((h.2 m).2 hm))
      · rfl
    refine ⟨List.pairwise_append.2 ⟨h.1, by simp, fun x hx y hy => ?_⟩, fun s => ?_⟩
    · rw [List.mem_singleton] at hy
      subst hy
      have hxl := ((h.2 x).1 hx).1
      apply Classical.byContradiction
      intro hb
      have := bef_total hb (hle x hxl)
      subst this
      exact hno x hx (sub_refl _)
    · rw [List.mem_append, List.mem_singleton]
      constructor
      · rintro (hs | rfl)
        · obtain ⟨hs, hm⟩ := (h.2 s).1 hs
          refine ⟨List.mem_append_left _ hs, fun g hg hgs => ?_⟩
          rw [List.mem_append, List.mem_singleton] at hg
          rcases hg with hg | rfl
          · exact hm g hg hgs
          · apply Classical.byContradiction
            intro hne
            exact hle s hs (sub_bef hgs hne)
        · exact hmin
      · rintro ⟨hs, hm⟩
        rw [List.mem_append, List.mem_singleton] at hs
        rcases hs with hs | rfl
        · left; exact (h.2 s).2 ⟨hs, fun g hg => hm g (List.mem_append_left _ hg)⟩
        · right; rfl
theorem redL_ord {l : List S} (hs : l.Pairwise (fun x y => ¬ bef y x)) : ∀ k, k ≤ l.length → IsOrd (redL (l.take k)) (isMin (l.take k)) := by
  intro k
  induction k with
  | zero => intro _; refine ⟨by simp [redL], fun s => by simp [redL, isMin]⟩
  | succ k ih =>
    intro hk
    obtain ⟨e, he⟩ := get_some (show k < l.length by omega)
    rw [redL_next he, take_next he]
    refine redStep_ord ?_ (ih (by omega))
    rw [← take_next he]
    exact hs.sublist (List.take_sublist _ _)
/-- What Reduce returns. -/
def redS (xs : List S) : List S := redL (sortS xs)
theorem isMin_perm {l m : List S} (h : l.Perm m) (s : S) : isMin l s ↔ isMin m s := by
  unfold isMin
  constructor
  · rintro ⟨a, b⟩; exact ⟨h.mem_iff.1 a, fun f hf => b f (h.mem_iff.2 hf)⟩
  · rintro ⟨a, b⟩; exact ⟨h.mem_iff.2 a, fun f hf => b f (h.mem_iff.1 hf)⟩
theorem redS_ord (xs : List S) : IsOrd (redS xs) (isMin xs) := by
  have h := redL_ord (sortS_sorted xs) (sortS xs).length (Nat.le_refl _)
  rw [List.take_length] at h
  exact h.congr (isMin_perm (sortS_perm xs))
theorem redL_length (l : List S) : (redL l).length ≤ l.length := by
  have : ∀ (l out : List S), (l.foldl redStep out).length ≤ out.length + l.length := by
    intro l
    induction l with
    | nil => intro out; simp
    | cons e l ih =>
      intro out
      have h1 := ih (redStep out e)
      have h2 : (redStep out e).length ≤ out.length + 1 := by unfold redStep; split <;> simp
      simp only [List.foldl_cons, List.length_cons]; omega
  simpa [redL] using this l []
theorem redS_length (xs : List S) : (redS xs).length ≤ xs.length := by
  have h := redL_length (sortS xs)
  rw [(sortS_perm xs).length_eq] at h
  exact h

/-! The insertion. -/
theorem ins_done {a b : List S} {x : S} {p : S → Prop} (h : IsOrd (a ++ b) p) (hb : ∀ y ∈ b, bef x y) (ha : ∀ y ∈ a, bef y x) : IsOrd (a ++ x :: b) (fun s => p s ∨ s = x) := by
  obtain ⟨h1, h2⟩ := h
  rw [List.pairwise_append] at h1
  refine ⟨?_, fun s => ?_⟩
  · rw [List.pairwise_append, List.pairwise_cons]
    refine ⟨h1.1, ⟨hb, h1.2.1⟩, fun y hy z hz => ?_⟩
    rw [List.mem_cons] at hz
    rcases hz with rfl | hz
    · exact ha y hy
    · exact h1.2.2 y hy z hz
  · show s ∈ _ ↔ (p s ∨ s = x)
    rw [← h2 s]
    simp only [List.mem_append, List.mem_cons]
    constructor
    · rintro (h | h | h)
      · exact .inl (.inl h)
      · exact .inr h
      · exact .inl (.inr h)
    · rintro ((h | h) | h)
      · exact .inl h
      · exact .inr (.inr h)
      · exact .inr (.inl h)
theorem ins_left {a b : List S} {y x : S} {p : S → Prop} (h : IsOrd ((a ++ [y]) ++ b) p) (hx : ¬ p x) (hn : ¬ bef x y) : ∀ z ∈ a ++ [y], bef z x := by
  have hy : p y := (h.2 y).1 (by simp)
  have hyx : bef y x := by
    apply Classical.byContradiction
    intro k
    have := bef_total hn k
    subst this
    exact hx hy
  intro z hz
  rw [List.mem_append, List.mem_singleton] at hz
  rcases hz with hz | rfl
  · have := h.1
    rw [List.pairwise_append, List.pairwise_append] at this
    exact bef_trans (this.1.2.2 z hz y (by simp)) hyx
  · exact hyx
theorem set_swap {α : Type} (f : α → Value) (a b : List α) (x y : α) :
    ((((a ++ [y]) ++ x :: b).map f).set (a.length + 1) (f y)).set a.length (f x) = (a ++ x :: y :: b).map f := by
  simp
theorem set_swap' {α : Type} (f : α → Value) (a b : List α) (x y : α) :
    ((((a ++ [y]) ++ x :: b).map f).set a.length (f x)).set (a.length + 1) (f y) = (a ++ x :: y :: b).map f := by
  simp

/-! Transversals. -/
/-- s has a common member with each edge. -/
def hitsS (xs : List S) (s : S) : Bool := !xs.any (fun x => x &&& s == 0#32)
/-- Some member below n can leave. -/
def leaves (xs : List S) (s : S) (n : Nat) : Bool := (List.range n).any (fun i => s.getLsbD i && hitsS xs (s &&& ~~~ bit i))
/-- A transversal that no member can leave. -/
def minS (xs : List S) (s : S) : Bool := hitsS xs s && !leaves xs s 32
theorem leaves_next {xs : List S} {s : S} {k : Nat} (h : leaves xs s k = false) (hk : (s.getLsbD k && hitsS xs (s &&& ~~~ bit k)) = false) : leaves xs s (k + 1) = false := by
  unfold leaves at *; rw [List.range_succ, List.any_append, h]; simpa using hk
theorem leaves_hit {xs : List S} {s : S} {k n : Nat} (h : k < n) (hk : (s.getLsbD k && hitsS xs (s &&& ~~~ bit k)) = true) : leaves xs s n = true :=
  List.any_eq_true.2 ⟨k, List.mem_range.2 h, hk⟩
theorem leaves_none {xs : List S} {s : S} {n : Nat} (h : ∀ i, i < n → (s.getLsbD i && hitsS xs (s &&& ~~~ bit i)) = false) : leaves xs s n = false := by
  unfold leaves; rw [List.any_eq_false]; intro i hi; simp only [h i (List.mem_range.1 hi)]; simp
theorem leaves_zero (xs : List S) (s : S) : leaves xs s 0 = false := rfl
theorem bit_and (s : S) (k : Nat) (hk : k < 32) : (s &&& 1#32 <<< k != 0#32) = s.getLsbD k := by
  rw [Bool.eq_iff_iff, bne_iff_ne]
  constructor
  · intro h
    apply Classical.byContradiction
    intro hn
    apply h
    apply bv_ext
    intro i hi
    rw [BitVec.getLsbD_and, show (1#32 <<< k) = bit k from rfl, bit_get k i hi]
    by_cases e : i = k
    · subst e; simp at hn; simp [hn]
    · simp [e]
  · intro h e
    have := congrArg (fun x : S => x.getLsbD k) e
    rw [BitVec.getLsbD_and, show (1#32 <<< k) = bit k from rfl, bit_get k k hk, h] at this
    simp at this
end Go.Proofs.YtmlbmdcmedglaaaDoor
