/- Plain laws of keys: superkeys, keys, antikeys, what they have to do with minimal transversals. No program. -/
import Derived.Test.YtciamnkalmihcaaFdV
import Derived.Test.YtciamnkalmihcaaW2L
import Derived.Test.YtciamnkalmihcaaLaws07b
namespace Go.Proofs.Ytciamnkalmihcaa

theorem validF_w2 {n : Int} {fs : List F} (h : validF n fs = 0) : 0 ≤ n ∧ n ≤ 16 ∧ fs.length ≤ 64 ∧ W2 (fullN n.toNat) fs := by
  unfold validF at h
  split at h
  · simp at h
  · rename_i h1
    split at h
    · simp at h
    · rename_i h2
      split at h
      · simp at h
      · rename_i h3
        refine ⟨by omega, by omega, by omega, fun f hf => ?_⟩
        rw [Bool.not_eq_true, List.any_eq_false] at h3
        have := h3 f hf
        rw [outF_sub] at this
        simpa using this
theorem w2_closeK {fs : List F} {A z : S} (hw : W2 A fs) (hz : sub z A) : sub (closeS fs z) A := (closeS_cl fs z).2.2 _ hz fun f hf _ => (hw f hf).2

/-- A set is a superkey. -/
noncomputable def supB (n : Int) (fs : List F) (s : S) : Bool := decide (validF n fs = 0) && (s >>> n.toNat == 0#32) && (closeS fs s == fullN n.toNat)
theorem supB_bad {n : Int} {fs : List F} (h : validF n fs ≠ 0) (s : S) : supB n fs s = false := by unfold supB; rw [decide_eq_false h]; rfl
theorem supB_iff {n : Int} {fs : List F} (h : validF n fs = 0) {s : S} : supB n fs s = true ↔ sub s (fullN n.toNat) ∧ closeS fs s = fullN n.toNat := by
  unfold supB; rw [decide_eq_true h, sub_full]; simp
theorem supB_valid {n : Int} {fs : List F} {s : S} (h : supB n fs s = true) : validF n fs = 0 := by
  apply Classical.byContradiction; intro k; rw [supB_bad k] at h; cases h
theorem supB_sub {n : Int} {fs : List F} {s : S} (h : supB n fs s = true) : sub s (fullN n.toNat) := ((supB_iff (supB_valid h)).1 h).1
theorem supB_mono {n : Int} {fs : List F} {s t : S} (h : supB n fs s = true) (hs : sub s t) (ht : sub t (fullN n.toNat)) : supB n fs t = true := by
  have hv := supB_valid h
  rw [supB_iff hv] at h ⊢
  refine ⟨ht, sub_antisymm (w2_closeK (validF_w2 hv).2.2.2 ht) ?_⟩
  rw [← h.2]; exact closeS_mono hs
theorem supB_full {n : Int} {fs : List F} (h : validF n fs = 0) : supB n fs (fullN n.toNat) = true :=
  (supB_iff h).2 ⟨sub_refl _, sub_antisymm (w2_closeK (validF_w2 h).2.2.2 (sub_refl _)) (closeS_cl _ _).1⟩

/-- A set has the property no longer without some member. -/
def leavesB (p : S → Bool) (s : S) (n : Nat) : Bool := (List.range n).any (fun i => s.getLsbD i && p (s &&& ~~~ bit i))
theorem leavesB_next {p : S → Bool} {s : S} {k : Nat} (h : leavesB p s k = false) (hk : (s.getLsbD k && p (s &&& ~~~ bit k)) = false) : leavesB p s (k + 1) = false := by
  unfold leavesB at *; rw [List.range_succ, List.any_append, h]; simpa using hk
theorem leavesB_hit {p : S → Bool} {s : S} {k n : Nat} (h : k < n) (hk : (s.getLsbD k && p (s &&& ~~~ bit k)) = true) : leavesB p s n = true :=
  List.any_eq_true.2 ⟨k, List.mem_range.2 h, hk⟩
theorem leavesB_none {p : S → Bool} {s : S} {n : Nat} (h : ∀ i, i < n → (s.getLsbD i && p (s &&& ~~~ bit i)) = false) : leavesB p s n = false := by
  unfold leavesB; rw [List.any_eq_false]; intro i hi; simp only [h i (List.mem_range.1 hi)]; simp
theorem leavesB_iff {p : S → Bool} {s : S} : leavesB p s 32 = false ↔ ∀ i, i < 32 → s.getLsbD i = true → p (s &&& ~~~ bit i) = false := by
  constructor
  · intro h i hi hs
    unfold leavesB at h; rw [List.any_eq_false] at h
    have := h i (List.mem_range.2 hi)
    rw [hs] at this; simpa using this
  · intro h
    refine leavesB_none fun i hi => ?_
    cases hs : s.getLsbD i with
    | false => rfl
    | true => rw [h i hi hs]; rfl
noncomputable def keyB (n : Int) (fs : List F) (s : S) : Bool := supB n fs s && !leavesB (supB n fs) s 32
theorem keyB_sup {n : Int} {fs : List F} {s : S} (h : keyB n fs s = true) : supB n fs s = true := by unfold keyB at h; simp at h; exact h.1
theorem less_ne {s : S} {i : Nat} (hi : i < 32) (hs : s.getLsbD i = true) : s &&& ~~~ bit i ≠ s := fun e => by
  have := andNot_bit s i i hi
  rw [e, hs] at this; simp at this
theorem less_subK (s : S) (i : Nat) : sub (s &&& ~~~ bit i) s := fun j hj h => by rw [andNot_bit s i j hj] at h; simp at h; exact h.1
theorem exists_more {s t : S} (h : sub t s) (hne : t ≠ s) : ∃ i, i < 32 ∧ s.getLsbD i = true ∧ t.getLsbD i = false := by
  apply Classical.byContradiction
  intro hn
  apply hne
  refine sub_antisymm h fun i hi hs => ?_
  cases ht : t.getLsbD i with
  | true => rfl
  | false => exact absurd ⟨i, hi, hs, ht⟩ hn
theorem keyB_iff {n : Int} {fs : List F} {s : S} : keyB n fs s = true ↔ supB n fs s = true ∧ ∀ t, sub t s → supB n fs t = true → t = s := by
  unfold keyB
  rw [Bool.and_eq_true, Bool.not_eq_true', leavesB_iff]
  refine and_congr_right fun hs => ⟨fun h t ht hp => ?_, fun h i hi hb => ?_⟩
  · apply Classical.byContradiction
    intro hne
    obtain ⟨i, hi, h1, h2⟩ := exists_more ht hne
    have k := h i hi h1
    rw [supB_mono hp (fun j hj hj2 => by
      rw [andNot_bit s i j hj, ht j hj hj2]
      have : j ≠ i := fun e => by rw [e, h2] at hj2; cases hj2
      simp [this]) (sub_trans (less_subK s i) (supB_sub hs))] at k
    cases k
  · cases hq : supB n fs (s &&& ~~~ bit i) with
    | false => rfl
    | true => exact absurd (h _ (less_subK s i) hq) (less_ne hi hb)
theorem key_in {n : Int} {fs : List F} : ∀ (k : Nat) (s : S), pop s ≤ k → supB n fs s = true → ∃ t, keyB n fs t = true ∧ sub t s := by
  intro k
  induction k with
  | zero =>
    intro s hp hs
    refine ⟨s, keyB_iff.2 ⟨hs, fun t ht _ => ?_⟩, sub_refl s⟩
    apply Classical.byContradiction
    intro hne
    have := sub_pop_lt ht hne; omega
  | succ k ih =>
    intro s hp hs
    cases hk : keyB n fs s with
    | true => exact ⟨s, hk, sub_refl s⟩
    | false =>
      have : ∃ t, sub t s ∧ supB n fs t = true ∧ t ≠ s := by
        apply Classical.byContradiction
        intro hn
        have := (keyB_iff (n := n) (fs := fs) (s := s)).2 ⟨hs, fun t ht hp => by
          apply Classical.byContradiction; intro e; exact hn ⟨t, ht, hp, e⟩⟩
        rw [this] at hk; cases hk
      obtain ⟨t, h1, h2, h3⟩ := this
      obtain ⟨r, h4, h5⟩ := ih t (by have := sub_pop_lt h1 h3; omega) h2
      exact ⟨r, h4, sub_trans h5 h1⟩

/-- An antikey: a greatest set that is none. -/
noncomputable def antiB (n : Int) (fs : List F) (s : S) : Bool := decide (validF n fs = 0) && decide (sub s (fullN n.toNat)) && !supB n fs s && (List.range n.toNat).all (fun i => s.getLsbD i || supB n fs (s ||| bit i))
theorem antiB_iff {n : Int} {fs : List F} {s : S} : antiB n fs s = true ↔ validF n fs = 0 ∧ sub s (fullN n.toNat) ∧ supB n fs s = false ∧ ∀ t, sub s t → sub t (fullN n.toNat) → supB n fs t = false → t = s := by
  unfold antiB
  rw [Bool.and_eq_true, Bool.and_eq_true, Bool.and_eq_true, decide_eq_true_iff, decide_eq_true_iff, Bool.not_eq_true', and_assoc, and_assoc]
  refine and_congr_right fun hv => and_congr_right fun hf => and_congr_right fun hs => ?_
  have hn := (validF_w2 hv).2.1
  rw [List.all_eq_true]
  constructor
  · intro h t ht htf hp
    apply Classical.byContradiction
    intro hne
    obtain ⟨i, hi, h1, h2⟩ := exists_more ht (Ne.symm hne)
    have hin : i < n.toNat := by
      have := htf i hi h1
      rw [fullN_get _ i hi, decide_eq_true_iff] at this; exact this
    have k := h i (List.mem_range.2 hin)
    rw [h2, Bool.false_or] at k
    have := supB_mono k (or_sub ht (fun j hj hb => by rw [bit_get i j hj, decide_eq_true_iff] at hb; rw [hb]; exact h1)) htf
    rw [hp] at this; cases this
  · intro h i hi
    have hi := List.mem_range.1 hi
    cases hb : s.getLsbD i with
    | true => rfl
    | false =>
      rw [Bool.false_or]
      cases hq : supB n fs (s ||| bit i) with
      | true => rfl
      | false =>
        have e := h (s ||| bit i) (sub_or_left _ _) (or_sub hf (fun j hj hj2 => by
          rw [bit_get i j hj, decide_eq_true_iff] at hj2
          rw [hj2, fullN_get _ i (by omega), decide_eq_true_iff]; exact hi)) hq
        have := or_bit_get s i i (by omega)
        rw [e, hb] at this; simp at this
theorem anti_over {n : Int} {fs : List F} (hv : validF n fs = 0) : ∀ (k : Nat) (s : S), 32 - pop s ≤ k → sub s (fullN n.toNat) → supB n fs s = false → ∃ t, antiB n fs t = true ∧ sub s t := by
  intro k
  induction k with
  | zero =>
    intro s hp hf hs
    refine ⟨s, antiB_iff.2 ⟨hv, hf, hs, fun t ht _ _ => ?_⟩, sub_refl s⟩
    apply Classical.byContradiction
    intro hne
    have := sub_pop_lt ht (Ne.symm hne); have := pop_le t; omega
  | succ k ih =>
    intro s hp hf hs
    cases hk : antiB n fs s with
    | true => exact ⟨s, hk, sub_refl s⟩
    | false =>
      have : ∃ t, sub s t ∧ sub t (fullN n.toNat) ∧ supB n fs t = false ∧ t ≠ s := by
        apply Classical.byContradiction
        intro hn
        have := (antiB_iff (n := n) (fs := fs) (s := s)).2 ⟨hv, hf, hs, fun t h1 h2 h3 => by
          apply Classical.byContradiction; intro e; exact hn ⟨t, h1, h2, h3, e⟩⟩
        rw [this] at hk; cases hk
      obtain ⟨t, h1, h2, h3, h4⟩ := this
      obtain ⟨r, h5, h6⟩ := ih t (by have := sub_pop_lt h1 (Ne.symm h4); have := pop_le t; omega) h2 h3
      exact ⟨r, h5, sub_trans h1 h6⟩

/-! The lists. -/
def listB (p : S → Bool) : List S := ordS (((List.range 4294967296).map (BitVec.ofNat 32)).filter p)
theorem listB_ord (p : S → Bool) : IsOrd (listB p) (fun s => p s = true) := by
  unfold listB
  refine (ordS_ord _).congr fun x => ?_
  rw [List.mem_filter]
  exact ⟨fun k => k.2, fun k => ⟨List.mem_map.2 ⟨x.toNat, List.mem_range.2 x.isLt, by simp⟩, k⟩⟩
attribute [irreducible] listB
theorem listB_of {p : S → Bool} {ys : List S} (h : IsOrd ys (fun s => p s = true)) : ys = listB p := h.uniq (listB_ord p) fun _ => Iff.rfl
theorem mem_listB {p : S → Bool} {s : S} : s ∈ listB p ↔ p s = true := (listB_ord p).2 s
noncomputable def keysS (n : Int) (fs : List F) : List S := listB (keyB n fs)
noncomputable def antiS (n : Int) (fs : List F) : List S := listB (antiB n fs)
noncomputable def keyR (n : Int) (fs : List F) : List S := if validF n fs = 0 then keysS n fs else []
noncomputable def antiE (n : Int) (fs : List F) : Int := if validF n fs ≠ 0 then validF n fs else if 12 < n then 3 else 0
noncomputable def antiR (n : Int) (fs : List F) : List S := if antiE n fs = 0 then antiS n fs else []
theorem full_pow {m : Nat} (_h : m ≤ 32) {s : S} : sub s (fullN m) → s.toNat < 2 ^ m := fun hs => lt_of_bits fun i hi hm => by
  cases hb : s.getLsbD i with
  | false => rfl
  | true => have := hs i hi hb; rw [fullN_get m i hi, decide_eq_true_iff] at this; omega
theorem keysS_length {n : Int} {fs : List F} (h : validF n fs = 0) : (keysS n fs).length ≤ 2 ^ n.toNat :=
  ord_bound (listB_ord _).1 fun s hs => full_pow (by have := (validF_w2 h).2.1; omega) (supB_sub (keyB_sup (mem_listB.1 hs)))
theorem antiS_length {n : Int} {fs : List F} (h : validF n fs = 0) : (antiS n fs).length ≤ 2 ^ n.toNat :=
  ord_bound (listB_ord _).1 fun s hs => full_pow (by have := (validF_w2 h).2.1; omega) (antiB_iff.1 (mem_listB.1 hs)).2.1

/-! Certificates. -/
def compl (A : S) (l : List S) : List S := l.map fun s => A &&& ~~~ s
theorem compl_hits {A s a : S} (hs : sub s A) : (A &&& ~~~ a) &&& s ≠ 0#32 ↔ ¬ sub s a := by
  constructor
  · intro h k
    apply h
    apply bv_ext
    intro i hi
    rw [BitVec.getLsbD_and, BitVec.getLsbD_and, BitVec.getLsbD_not]
    cases hb : s.getLsbD i with
    | false => simp
    | true => rw [k i hi hb]; simp
  · intro h
    apply Classical.byContradiction
    intro k
    have k : (A &&& ~~~ a) &&& s = 0#32 := Classical.not_not.1 k
    apply h
    intro i hi hb
    have := congrArg (fun x : S => x.getLsbD i) k
    simp only [BitVec.getLsbD_and, BitVec.getLsbD_not, hb, hs i hi hb] at this
    simpa [hi] using this
/-- Two lists are a certificate. -/
noncomputable def certB (n : Int) (fs : List F) (l m : List S) : Bool :=
  decide (validF n fs = 0) && decide (m.length ≤ 200) && l.all (supB n fs) && m.all (fun s => !supB n fs s && decide (sub s (fullN n.toNat))) && decide (∀ s, s ∈ l ↔ minS (compl (fullN n.toNat) m) s = true)
theorem hits_iffK {n : Int} {m : List S} {s : S} (hs : sub s (fullN n.toNat)) : hitsS (compl (fullN n.toNat) m) s = true ↔ ∀ a ∈ m, ¬ sub s a := by
  rw [hits_iff]
  unfold compl
  constructor
  · intro h a ha
    exact (compl_hits hs).1 (h _ (List.mem_map.2 ⟨a, ha, rfl⟩))
  · intro h x hx
    obtain ⟨a, ha, rfl⟩ := List.mem_map.1 hx
    exact (compl_hits hs).2 (h a ha)
theorem min_withinK {n : Int} {m : List S} {s : S} (h : minS (compl (fullN n.toNat) m) s = true) : sub s (fullN n.toNat) := by
  rw [minS_iff] at h
  have hh : hitsS (compl (fullN n.toNat) m) (s &&& fullN n.toNat) = true := by
    rw [hits_iff]
    have := hits_iff.1 h.1
    intro x hx
    have k := this x hx
    obtain ⟨a, _, rfl⟩ := List.mem_map.1 hx
    intro e
    apply k
    apply bv_ext
    intro i hi
    have := congrArg (fun x : S => x.getLsbD i) e
    simp only [BitVec.getLsbD_and] at this ⊢
    revert this
    cases (fullN n.toNat).getLsbD i <;> cases (~~~a).getLsbD i <;> cases s.getLsbD i <;> simp
  have := h.2 _ (fun i hi hb => by rw [BitVec.getLsbD_and, Bool.and_eq_true] at hb; exact hb.1) hh
  rw [← this]
  intro i hi hb
  rw [BitVec.getLsbD_and, Bool.and_eq_true] at hb; exact hb.2
/-- Where all of the first list are superkeys, none of the second is, and the first holds the minimal transversals of the complements of the second, they are the keys. -/
theorem cert_keys {n : Int} {fs : List F} {l m : List S} (h : certB n fs l m = true) (s : S) : s ∈ l ↔ keyB n fs s = true := by
  unfold certB at h
  simp only [Bool.and_eq_true, decide_eq_true_iff, List.all_eq_true, Bool.not_eq_true'] at h
  obtain ⟨⟨⟨⟨hv, _⟩, hl⟩, hm⟩, hd⟩ := h
  have hsup : ∀ t, supB n fs t = true → ∃ r, r ∈ l ∧ sub r t := fun t ht => by
    have hh : hitsS (compl (fullN n.toNat) m) t = true := (hits_iffK (supB_sub ht)).2 fun a ha k => by
      have := supB_mono ht k (hm a ha).2
      rw [(hm a ha).1] at this; cases this
    obtain ⟨r, h1, h2⟩ := min_in _ _ t (Nat.le_refl _) hh
    exact ⟨r, (hd r).2 h1, h2⟩
  constructor
  · intro hs
    refine keyB_iff.2 ⟨hl s hs, fun t ht hp => ?_⟩
    obtain ⟨r, h1, h2⟩ := hsup t hp
    have h3 := (minS_iff.1 ((hd s).1 hs)).2 r (sub_trans h2 ht) (minS_iff.1 ((hd r).1 h1)).1
    rw [h3] at h2
    exact sub_antisymm ht h2
  · intro hk
    rw [keyB_iff] at hk
    obtain ⟨r, h1, h2⟩ := hsup s hk.1
    have := hk.2 r h2 (hl r h1)
    rw [← this]; exact h1
/-- The keys are the minimal transversals of the complements of the antikeys. -/
theorem keys_trans {n : Int} {fs : List F} (hv : validF n fs = 0) (s : S) : keyB n fs s = true ↔ minS (compl (fullN n.toNat) (antiS n fs)) s = true := by
  have hits : ∀ t, sub t (fullN n.toNat) → (hitsS (compl (fullN n.toNat) (antiS n fs)) t = true ↔ supB n fs t = true) := fun t ht => by
    rw [hits_iffK ht]
    constructor
    · intro h
      cases hq : supB n fs t with
      | true => rfl
      | false =>
        obtain ⟨a, h1, h2⟩ := anti_over hv _ t (Nat.le_refl _) ht hq
        exact absurd h2 (h a (mem_listB.2 h1))
    · intro h a ha k
      have h1 := antiB_iff.1 (mem_listB.1 ha)
      have := supB_mono h k h1.2.1
      rw [h1.2.2.1] at this; cases this
  rw [keyB_iff, minS_iff]
  constructor
  · rintro ⟨h1, h2⟩
    have hf := supB_sub h1
    refine ⟨(hits s hf).2 h1, fun t ht hh => h2 t ht ((hits t (sub_trans ht hf)).1 hh)⟩
  · rintro ⟨h1, h2⟩
    have hf := min_withinK (minS_iff.2 ⟨h1, h2⟩)
    exact ⟨(hits s hf).1 h1, fun t ht hp => h2 t ht ((hits t (sub_trans ht hf)).2 hp)⟩
theorem cert_true {n : Int} {fs : List F} (hn : n ≤ 6) (hv : validF n fs = 0) : certB n fs (keysS n fs) (antiS n fs) = true := by
  unfold certB
  simp only [Bool.and_eq_true, decide_eq_true_iff, List.all_eq_true, Bool.not_eq_true']
  refine ⟨⟨⟨⟨hv, ?_⟩, fun s hs => keyB_sup (mem_listB.1 hs)⟩, fun s hs => ?_⟩, fun s => ?_⟩
  · have h1 := antiS_length hv
    have h2 : 2 ^ n.toNat ≤ 2 ^ 6 := Nat.pow_le_pow_right (by omega) (by omega)
    omega
  · have := antiB_iff.1 (mem_listB.1 hs); exact ⟨this.2.2.1, this.2.1⟩
  · rw [← keys_trans hv]; exact mem_listB

end Go.Proofs.Ytciamnkalmihcaa
