/- Plain laws on minimal transversals: the extension edge by edge gives them all. No program. -/
import Derived.Test.YtmlbmdcmedglaaaDoorOrdL
namespace Go.Proofs.YtmlbmdcmedglaaaDoor

theorem hits_iff {xs : List S} {s : S} : hitsS xs s = true ↔ ∀ x ∈ xs, x &&& s ≠ 0#32 := by
  unfold hitsS
  rw [Bool.not_eq_true', List.any_eq_false]
  simp
theorem hits_mono {xs : List S} {s t : S} (h : hitsS xs s = true) (hs : sub s t) : hitsS xs t = true := by
  rw [hits_iff] at *
  intro x hx e
  apply h x hx
  rw [and_zero_iff] at *
  intro i hi hxi
  cases hsi : s.getLsbD i with
  | false => rfl
  | true =>
    have := hs i hi hsi
    have h2 := e i hi hxi
    rw [this] at h2; cases h2
theorem andNot_bit (s : S) (i j : Nat) (hj : j < 32) : (s &&& ~~~ bit i).getLsbD j = (s.getLsbD j && !decide (j = i)) := by
  rw [BitVec.getLsbD_and, BitVec.getLsbD_not, bit_get i j hj]; simp [hj]
/-- A minimal transversal is one that has no other one in it. -/
theorem minS_iff {xs : List S} {s : S} : minS xs s = true ↔ hitsS xs s = true ∧ ∀ t, sub t s → hitsS xs t = true → t = s := by
  unfold minS
  rw [Bool.and_eq_true, Bool.not_eq_true']
  constructor
  · rintro ⟨h, hl⟩
    refine ⟨h, fun t ht hh => ?_⟩
    apply sub_antisymm ht
    intro i hi hsi
    apply Classical.byContradiction
    intro hti
    have hq : hitsS xs (s &&& ~~~ bit i) = true := by
      apply hits_mono hh
      intro j hj htj
      rw [andNot_bit s i j hj, ht j hj htj]
      by_cases e : j = i
      · subst e; exact absurd htj hti
      · simp [e]
    have := leaves_hit (xs := xs) (s := s) (n := 32) hi (by rw [hsi, hq]; rfl)
    rw [hl] at this; cases this
  · rintro ⟨h, hm⟩
    refine ⟨h, leaves_none fun i hi => ?_⟩
    cases hsi : s.getLsbD i with
    | false => rfl
    | true =>
      cases hq : hitsS xs (s &&& ~~~ bit i) with
      | false => rfl
      | true =>
        have hsub : sub (s &&& ~~~ bit i) s := fun j hj h => by
          rw [andNot_bit s i j hj] at h; simp at h; exact h.1
        have e := hm _ hsub hq
        have h3 := congrArg (fun x : S => x.getLsbD i) e
        simp only [andNot_bit s i i hi] at h3
        rw [hsi] at h3; simp at h3
/-- Each transversal contains a minimal one. -/
theorem min_in (xs : List S) : ∀ (n : Nat) (t : S), pop t ≤ n → hitsS xs t = true → ∃ s, minS xs s = true ∧ sub s t := by
  intro n
  induction n with
  | zero =>
    intro t hn ht
    refine ⟨t, minS_iff.2 ⟨ht, fun u hu _ => ?_⟩, sub_refl _⟩
    apply Classical.byContradiction
    intro hne
    have := sub_pop_lt hu hne; omega
  | succ n ih =>
    intro t hn ht
    by_cases h : ∃ u, sub u t ∧ u ≠ t ∧ hitsS xs u = true
    · obtain ⟨u, hu, hne, hh⟩ := h
      have := sub_pop_lt hu hne
      obtain ⟨s, hs, hsu⟩ := ih u (by omega) hh
      exact ⟨s, hs, sub_trans hsu hu⟩
    · refine ⟨t, minS_iff.2 ⟨ht, fun u hu hh => ?_⟩, sub_refl _⟩
      apply Classical.byContradiction
      intro hne
      exact h ⟨u, hu, hne, hh⟩
theorem hits_append {xs : List S} {e s : S} : hitsS (xs ++ [e]) s = true ↔ hitsS xs s = true ∧ e &&& s ≠ 0#32 := by
  rw [hits_iff, hits_iff]
  constructor
  · intro h; exact ⟨fun x hx => h x (List.mem_append_left _ hx), h e (by simp)⟩
  · rintro ⟨h1, h2⟩ x hx
    rw [List.mem_append, List.mem_singleton] at hx
    rcases hx with hx | rfl
    · exact h1 x hx
    · exact h2

/-- The members, ascending. -/
def memN (s : S) (k : Nat) : List Nat := (List.range k).filter (fun i => s.getLsbD i)
theorem memN_yes {s : S} {k : Nat} (h : s.getLsbD k = true) : memN s (k + 1) = memN s k ++ [k] := by
  unfold memN; rw [List.range_succ, List.filter_append]; simp [h]
theorem memN_no {s : S} {k : Nat} (h : s.getLsbD k = false) : memN s (k + 1) = memN s k := by
  unfold memN; rw [List.range_succ, List.filter_append]; simp [h]
theorem memN_length (s : S) (k : Nat) : (memN s k).length ≤ k := by
  unfold memN; have := List.length_filter_le (fun i => s.getLsbD i) (List.range k); simpa using this
theorem memN_pop (s : S) : (memN s 32).length = pop s := by
  unfold memN; rw [pop_count, List.countP_eq_length_filter]
theorem mem_memN {s : S} {k i : Nat} : i ∈ memN s k ↔ i < k ∧ s.getLsbD i = true := by
  unfold memN; rw [List.mem_filter, List.mem_range]
theorem memN_zero : memN 0#32 32 = [] := by
  unfold memN; rw [List.filter_eq_nil_iff]; intro i _; simp
theorem memN_low {r : S} {i : Nat} (hi : i < 32) (h1 : r.getLsbD i = true) (h2 : ∀ j, j < i → r.getLsbD j = false) : memN r 32 = i :: memN (r &&& ~~~ bit i) 32 := by
  have hr : List.range 32 = List.range i ++ (i :: (List.range' (i + 1) (31 - i))) := by
    rw [List.range_eq_range', List.range_eq_range']
    have e : List.range' 0 32 = List.range' 0 i ++ List.range' i (32 - i) := by
      have := @List.range'_append_1 0 i (32 - i)
      rw [show i + (32 - i) = 32 by omega] at this
      simpa using this.symm
    rw [e, show 32 - i = (31 - i) + 1 by omega, List.range'_succ]
  unfold memN
  rw [hr, List.filter_append, List.filter_append, List.filter_cons, List.filter_cons]
  have a1 : (List.range i).filter (fun j => r.getLsbD j) = [] := by
    rw [List.filter_eq_nil_iff]; intro j hj; simp [h2 j (List.mem_range.1 hj)]
  have a2 : (List.range i).filter (fun j => (r &&& ~~~ bit i).getLsbD j) = [] := by
    rw [List.filter_eq_nil_iff]; intro j hj; simp [h2 j (List.mem_range.1 hj)]
  have a3 : (r &&& ~~~ bit i).getLsbD i = false := by rw [andNot_bit r i i hi]; simp
  rw [a1, a2, h1, a3]
  simp only [List.nil_append, if_true, Bool.false_eq_true, if_false]
  congr 1
  apply List.filter_congr
  intro j hj
  rw [List.mem_range'_1] at hj
  rw [andNot_bit r i j (by omega)]
  have : ¬ j = i := by omega
  simp [this]

/-- The extension of s by the members of e, if s has none of them. -/
def extS (e s : S) : List S := if s &&& e != 0#32 then [s] else (memN e 32).map (fun i => s ||| bit i)
def nextS (e : S) (l : List S) : List S := l.flatMap (extS e)
def allL (es : List S) : List S := es.foldl (fun l e => redS (nextS e l)) [0#32]
theorem nextS_take {e : S} {l : List S} {k : Nat} {s : S} (h : l[k]? = some s) : nextS e (l.take (k + 1)) = nextS e (l.take k) ++ extS e s := by
  unfold nextS; rw [take_next h, List.flatMap_append]; simp
theorem allL_take {es : List S} {k : Nat} {e : S} (h : es[k]? = some e) : allL (es.take (k + 1)) = redS (nextS e (allL (es.take k))) := by
  unfold allL; rw [take_next h, List.foldl_append]; rfl
theorem mem_extS {e s t : S} : t ∈ extS e s ↔ (s &&& e ≠ 0#32 ∧ t = s) ∨ (s &&& e = 0#32 ∧ ∃ i, i < 32 ∧ e.getLsbD i = true ∧ t = s ||| bit i) := by
  unfold extS
  by_cases h : s &&& e = 0#32
  · simp only [h, bne_self_eq_false, Bool.false_eq_true, if_false, ne_eq, not_true_eq_false, false_and, true_and, false_or, List.mem_map, mem_memN]
    constructor
    · rintro ⟨i, ⟨hi, h1⟩, rfl⟩; exact ⟨i, hi, h1, rfl⟩
    · rintro ⟨i, hi, h1, rfl⟩; exact ⟨i, ⟨hi, h1⟩, rfl⟩
  · have : (s &&& e != 0#32) = true := by simpa using h
    rw [this]
    simp [h]
theorem or_bit_get (s : S) (i j : Nat) (hj : j < 32) : (s ||| bit i).getLsbD j = (s.getLsbD j || decide (j = i)) := by
  rw [BitVec.getLsbD_or, bit_get i j hj]
theorem ext_hits {xs : List S} {e s t : S} (h : hitsS xs s = true) (ht : t ∈ extS e s) : hitsS (xs ++ [e]) t = true := by
  rw [hits_append]
  rcases mem_extS.1 ht with ⟨hne, rfl⟩ | ⟨_, i, hi, hei, rfl⟩
  · exact ⟨h, by rwa [BitVec.and_comm]⟩
  · refine ⟨hits_mono h (fun j hj hs => by rw [or_bit_get s i j hj, hs]; rfl), fun e0 => ?_⟩
    rw [and_zero_iff] at e0
    have := e0 i hi hei
    rw [or_bit_get s i i hi] at this
    simp at this
theorem next_ord {xs l : List S} {e : S} (h : IsOrd l (fun s => minS xs s = true)) : IsOrd (redS (nextS e l)) (fun s => minS (xs ++ [e]) s = true) := by
  have hall : ∀ t ∈ nextS e l, hitsS (xs ++ [e]) t = true := by
    intro t ht
    obtain ⟨s, hs, hts⟩ := List.mem_flatMap.1 ht
    exact ext_hits (minS_iff.1 ((h.2 s).1 hs)).1 hts
  have hin : ∀ t, minS (xs ++ [e]) t = true → t ∈ nextS e l := by
    intro t ht
    obtain ⟨hh, hm⟩ := minS_iff.1 ht
    obtain ⟨h1, h2⟩ := hits_append.1 hh
    obtain ⟨s, hs, hst⟩ := min_in xs _ t (Nat.le_refl _) h1
    apply List.mem_flatMap.2
    refine ⟨s, (h.2 s).2 hs, ?_⟩
    by_cases h0 : s &&& e = 0#32
    · obtain ⟨i, hi, hbi⟩ := ne_zero_bit h2
      rw [BitVec.getLsbD_and] at hbi
      simp at hbi
      have hmem : s ||| bit i ∈ extS e s := mem_extS.2 (.inr ⟨h0, i, hi, hbi.1, rfl⟩)
      have hsub : sub (s ||| bit i) t := by
        intro j hj hb
        rw [or_bit_get s i j hj] at hb
        simp at hb
        rcases hb with hb | rfl
        · exact hst j hj hb
        · exact hbi.2
      have := hm _ hsub (ext_hits (minS_iff.1 hs).1 hmem)
      rw [← this]; exact hmem
    · have hmem : s ∈ extS e s := mem_extS.2 (.inl ⟨h0, rfl⟩)
      have := hm _ hst (ext_hits (minS_iff.1 hs).1 hmem)
      rw [← this]; exact hmem
  refine (redS_ord (nextS e l)).congr fun s => ?_
  constructor
  · rintro ⟨hs, hmin⟩
    refine minS_iff.2 ⟨hall s hs, fun t hts hth => ?_⟩
    obtain ⟨u, hu, hut⟩ := min_in _ _ t (Nat.le_refl _) hth
    have e1 := hmin u (hin u hu) (sub_trans hut hts)
    subst e1
    exact sub_antisymm hts hut
  · intro hs
    exact ⟨hin s hs, fun f hf hfs => (minS_iff.1 hs).2 f hfs (hall f hf)⟩
theorem allL_ord (es : List S) : ∀ k, k ≤ es.length → IsOrd (allL (es.take k)) (fun s => minS (es.take k) s = true) := by
  intro k
  induction k with
  | zero =>
    intro _
    refine ⟨by simp [allL], fun s => ?_⟩
    simp only [List.take_zero, allL, List.foldl_nil, List.mem_singleton]
    rw [minS_iff]
    constructor
    · rintro rfl
      refine ⟨by rw [hits_iff]; simp, fun t ht _ => sub_antisymm ht (fun i _ h => by simp at h)⟩
    · rintro ⟨_, h⟩
      exact (h 0#32 (fun i _ h => by simp at h) (by rw [hits_iff]; simp)).symm
  | succ k ih =>
    intro hk
    obtain ⟨e, he⟩ := get_some (show k < es.length by omega)
    rw [allL_take he, take_next he]
    exact next_ord (ih (by omega))
theorem hits_red (xs : List S) (s : S) : hitsS (redS xs) s = hitsS xs s := by
  rw [Bool.eq_iff_iff, hits_iff, hits_iff]
  constructor
  · intro h x hx e
    obtain ⟨f, hf, hfx⟩ := min_below xs _ x (Nat.le_refl _) hx
    apply h f (((redS_ord xs).2 f).2 hf)
    rw [and_zero_iff] at *
    exact fun i hi hfi => e i hi (hfx i hi hfi)
  · intro h x hx
    exact h x (((redS_ord xs).2 x).1 hx).1
theorem min_red (xs : List S) (s : S) : minS (redS xs) s = minS xs s := by
  rw [Bool.eq_iff_iff, minS_iff, minS_iff]
  simp only [hits_red]
/-- What All returns. -/
def allS (xs : List S) : List S := allL (redS xs)
theorem allS_ord (xs : List S) : IsOrd (allS xs) (fun s => minS xs s = true) := by
  have h := allL_ord (redS xs) _ (Nat.le_refl _)
  rw [List.take_length] at h
  exact h.congr fun s => by rw [min_red]

/-! How long such lists are. -/
theorem nodup_bound : ∀ (n : Nat) (l : List Nat), l.Nodup → (∀ x ∈ l, x < n) → l.length ≤ n := by
  intro n
  induction n with
  | zero =>
    intro l _ h
    cases l with
    | nil => simp
    | cons x l => exact absurd (h x (by simp)) (by omega)
  | succ n ih =>
    intro l hn h
    by_cases hm : n ∈ l
    · have h1 := ih (l.erase n) (hn.erase n) (fun x hx => by
        have h2 := h x (List.mem_of_mem_erase hx)
        have h3 : x ≠ n := fun e => by subst e; exact (List.Nodup.not_mem_erase hn) hx
        omega)
      rw [List.length_erase_of_mem hm] at h1
      omega
    · have := ih l hn (fun x hx => by
        have h2 := h x hx
        have h3 : x ≠ n := fun e => by subst e; exact hm hx
        omega)
      omega
theorem ord_bound {l : List S} {n : Nat} (h : l.Pairwise bef) (hb : ∀ s ∈ l, s.toNat < n) : l.length ≤ n := by
  have h1 := nodup_bound n (l.map BitVec.toNat) ?_ ?_
  · simpa using h1
  · rw [List.Nodup, List.pairwise_map]
    exact h.imp (fun {a b} hab e => by
      have := BitVec.eq_of_toNat_eq e
      subst this
      exact bef_irrefl _ hab)
  · intro x hx
    obtain ⟨s, hs, rfl⟩ := List.mem_map.1 hx
    exact hb s hs
theorem lt_of_bits {s : S} {n : Nat} (h : ∀ i, i < 32 → n ≤ i → s.getLsbD i = false) : s.toNat < 2 ^ n := by
  apply Nat.lt_pow_two_of_testBit
  intro i hi
  by_cases h32 : i < 32
  · exact h i h32 hi
  · exact BitVec.getLsbD_of_ge s i (by omega)
/-- A minimal transversal has members of the edges alone. -/
theorem min_within {xs : List S} {s : S} {n : Nat} (h : minS xs s = true) (hx : ∀ x ∈ xs, ∀ i, i < 32 → n ≤ i → x.getLsbD i = false) : ∀ i, i < 32 → n ≤ i → s.getLsbD i = false := by
  intro i hi hn
  cases hs : s.getLsbD i with
  | false => rfl
  | true =>
    obtain ⟨h1, h2⟩ := minS_iff.1 h
    have hsub : sub (s &&& ~~~ bit i) s := fun j hj h => by
      rw [andNot_bit s i j hj] at h; simp at h; exact h.1
    have hh : hitsS xs (s &&& ~~~ bit i) = true := by
      rw [hits_iff] at *
      intro x hxm e
      apply h1 x hxm
      rw [and_zero_iff] at *
      intro j hj hxj
      have h3 := e j hj hxj
      rw [andNot_bit s i j hj] at h3
      by_cases e1 : j = i
      · subst e1
        rw [hx x hxm j hj hn] at hxj; cases hxj
      · simpa [e1] using h3
    have h3 := congrArg (fun x : S => x.getLsbD i) (h2 _ hsub hh)
    simp only [andNot_bit s i i hi] at h3
    rw [hs] at h3; simp at h3
theorem nextS_length {e : S} (l : List S) : (nextS e l).length ≤ 32 * l.length := by
  induction l with
  | nil => simp [nextS]
  | cons s l ih =>
    have h1 : (extS e s).length ≤ 32 := by
      unfold extS; split
      · simp
      · have := memN_length e 32; simpa using this
    have : nextS e (s :: l) = extS e s ++ nextS e l := by simp [nextS]
    rw [this, List.length_append, List.length_cons]; omega

end Go.Proofs.YtmlbmdcmedglaaaDoor
