/- Texts that belong together, in one file. -/
import Derived.Test.YtgahpgmagfngfaaGreatDoorGTab27
import Derived.Test.YtgahpgmagfngfaaGreatDoorCells
import Derived.Test.YtgahpgmagfngfaaGreatDoorBase
import Derived.Test.YtgahpgmagfngfaaGreatDoorSlB
import Derived.Test.YtgahpgmagfngfaaGreatDoorGKm2
import Derived.DeepKeys4
import Derived.WideKeyPair
/- Plain laws of partitions by keys: classes, labels, ranks. No program. -/
namespace Go.Proofs.YtgahpgmagfngfaaGreatDoor
open Go.RowKit
set_option linter.unusedSimpArgs false
set_option linter.unusedSectionVars false

section
variable {κ : Type} [DecidableEq κ]
theorem nodup_lenK : ∀ {a b : List κ}, a.Nodup → (∀ s ∈ a, s ∈ b) → a.length ≤ b.length := by
  intro a
  induction a with
  | nil => intro b _ _; exact Nat.zero_le _
  | cons x a ih =>
    intro b hn hs
    rw [List.nodup_cons] at hn
    have hx := hs x (by simp)
    have h1 : (b.erase x).length + 1 = b.length := by rw [List.length_erase_of_mem hx]; have := List.length_pos_of_mem hx; omega
    have h2 := ih (b := b.erase x) hn.2 fun s hm => (List.mem_erase_of_ne (fun e => hn.1 (by rw [← e]; exact hm))).2 (hs s (by simp [hm]))
    simp only [List.length_cons]; omega
/-- Keys with their places. -/
def ixL (ks : List κ) : List (κ × Int) := ks.zipIdx.map fun p => (p.1, (p.2 : Int))
theorem ixL_length (ks : List κ) : (ixL ks).length = ks.length := by unfold ixL; simp
theorem ixL_at {ks : List κ} {i : Nat} {k : κ} (h : ks[i]? = some k) : (ixL ks)[i]? = some (k, (i : Int)) := by
  unfold ixL; rw [List.getElem?_map, List.getElem?_zipIdx, h]; simp
theorem ixL_keys (ks : List κ) : (ixL ks).map (·.1) = ks := by
  apply List.ext_getElem?
  intro i
  rw [List.getElem?_map]
  cases h : ks[i]? with
  | none => rw [List.getElem?_eq_none_iff] at h; rw [List.getElem?_eq_none_iff.2 (by rw [ixL_length]; exact h)]; rfl
  | some k => rw [ixL_at h]; rfl
theorem ixL_mem {ks : List κ} {p : κ × Int} : p ∈ ixL ks ↔ ∃ i : Nat, ks[i]? = some p.1 ∧ p.2 = (i : Int) := by
  constructor
  · intro h
    obtain ⟨i, hi⟩ := List.mem_iff_getElem?.1 h
    have hlt : i < ks.length := by have := (List.getElem?_eq_some_iff.1 hi).1; rwa [ixL_length] at this
    obtain ⟨k, hk⟩ := get_some hlt
    rw [ixL_at hk] at hi
    cases hi
    exact ⟨i, hk, rfl⟩
  · rintro ⟨i, h1, h2⟩
    have := List.mem_of_getElem? (ixL_at h1)
    rw [← h2] at this
    exact this
def clsK (ks : List κ) : List (List Int) := bigG (ixL ks)
theorem mem_ids {ks : List κ} {k : κ} {x : Int} : x ∈ idsOf (ixL ks) k ↔ ∃ i : Nat, ks[i]? = some k ∧ x = (i : Int) := by
  unfold idsOf
  rw [List.mem_map]
  constructor
  · rintro ⟨p, hp, rfl⟩
    obtain ⟨h1, h2⟩ := List.mem_filter.1 hp
    rw [decide_eq_true_iff] at h2
    obtain ⟨i, h3, h4⟩ := ixL_mem.1 h1
    exact ⟨i, by rw [h3, h2], h4⟩
  · rintro ⟨i, h1, rfl⟩
    exact ⟨(k, (i : Int)), List.mem_filter.2 ⟨ixL_mem.2 ⟨i, h1, rfl⟩, by simp⟩, rfl⟩
theorem mem_cls {ks : List κ} {c : List Int} : c ∈ clsK ks ↔ ∃ k ∈ ks, c = idsOf (ixL ks) k ∧ 2 ≤ c.length := by
  unfold clsK bigG grpOf
  rw [List.mem_filter, List.mem_map, ixL_keys]
  constructor
  · rintro ⟨⟨k, hk, rfl⟩, h⟩
    exact ⟨k, mem_dedK.1 hk, rfl, of_decide_eq_true h⟩
  · rintro ⟨k, hk, rfl, h⟩
    exact ⟨⟨k, mem_dedK.2 hk, rfl⟩, decide_eq_true h⟩
theorem ixL_sorted (ks : List κ) : (ixL ks).Pairwise fun p q => p.2 < q.2 := by
  rw [List.pairwise_iff_getElem]
  intro i j hi hj hlt
  have h1 : (ixL ks)[i]? = some (ixL ks)[i] := List.getElem?_eq_getElem hi
  have h2 : (ixL ks)[j]? = some (ixL ks)[j] := List.getElem?_eq_getElem hj
  rw [ixL_length] at hi hj
  obtain ⟨a, ha⟩ := get_some hi
  obtain ⟨b, hb⟩ := get_some hj
  rw [ixL_at ha] at h1
  rw [ixL_at hb] at h2
  cases h1' : (ixL ks)[i] with | mk p q => cases h2' : (ixL ks)[j] with | mk p' q' =>
  rw [h1'] at h1; rw [h2'] at h2
  cases h1; cases h2
  show (i : Int) < j; omega
theorem ids_sorted (ks : List κ) (k : κ) : (idsOf (ixL ks) k).Pairwise (· < ·) := by
  unfold idsOf
  rw [List.pairwise_map]
  exact (ixL_sorted ks).filter _
theorem ids_head {ks : List κ} {k : κ} {i : Nat} (h : ks[i]? = some k) (hn : k ∉ ks.take i) : ∃ l, idsOf (ixL ks) k = (i : Int) :: l := by
  have hm : (i : Int) ∈ idsOf (ixL ks) k := mem_ids.2 ⟨i, h, rfl⟩
  have hs := ids_sorted ks k
  cases hl : idsOf (ixL ks) k with
  | nil => rw [hl] at hm; cases hm
  | cons x l =>
    have hx : x ∈ idsOf (ixL ks) k := by rw [hl]; simp
    obtain ⟨j, hj, rfl⟩ := mem_ids.1 hx
    rw [hl] at hm hs
    refine ⟨l, ?_⟩
    rcases List.mem_cons.1 hm with e | hm2
    · rw [← e]
    · have h1 := (List.pairwise_cons.1 hs).1 _ hm2
      exact absurd (List.mem_of_getElem? (i := j) (by rw [List.getElem?_take_of_lt (by omega)]; exact hj)) hn
/-- A good partition of n rows. -/
structure okP (n : Nat) (cls : List (List Int)) : Prop where
  two : ∀ c ∈ cls, 2 ≤ c.length
  asc : ∀ c ∈ cls, c.Pairwise (· < ·)
  rng : ∀ c ∈ cls, ∀ x ∈ c, 0 ≤ x ∧ x < (n : Int)
  apart : cls.Pairwise fun c d => (∀ x ∈ c, x ∉ d) ∧ c.headD 0 < d.headD 0
theorem dedK_firsts : ∀ (ks : List κ), (dedK ks).Pairwise fun k k' => ∃ i j : Nat, i < j ∧ ks[i]? = some k ∧ k ∉ ks.take i ∧ ks[j]? = some k' ∧ k' ∉ ks.take j := by
  have key : ∀ n, ∀ ks : List κ, ks.length = n → (dedK ks).Pairwise fun k k' => ∃ i j : Nat, i < j ∧ ks[i]? = some k ∧ k ∉ ks.take i ∧ ks[j]? = some k' ∧ k' ∉ ks.take j := by
    intro n
    induction n with
    | zero => intro ks h; rw [List.eq_nil_of_length_eq_zero h]; exact List.Pairwise.nil
    | succ n ih =>
      intro ks h
      rcases snoc_cases ks with rfl | ⟨a, y, rfl⟩
      · simp at h
      · have ih' := ih a (by simpa using h)
        have lift : ∀ k k', (∃ i j : Nat, i < j ∧ a[i]? = some k ∧ k ∉ a.take i ∧ a[j]? = some k' ∧ k' ∉ a.take j) → ∃ i j : Nat, i < j ∧ (a ++ [y])[i]? = some k ∧ k ∉ (a ++ [y]).take i ∧ (a ++ [y])[j]? = some k' ∧ k' ∉ (a ++ [y]).take j := by
          rintro k k' ⟨i, j, h1, h2, h3, h4, h5⟩
          have hi := (List.getElem?_eq_some_iff.1 h2).1
          have hj := (List.getElem?_eq_some_iff.1 h4).1
          exact ⟨i, j, h1, by rw [List.getElem?_append_left hi]; exact h2, by rw [List.take_append_of_le_length (by omega)]; exact h3, by rw [List.getElem?_append_left hj]; exact h4, by rw [List.take_append_of_le_length (by omega)]; exact h5⟩
        rw [dedK_snoc]
        unfold dedStep
        by_cases hy : y ∈ dedK a
        · rw [if_pos hy]; exact ih'.imp fun h => lift _ _ h
        · rw [if_neg hy, List.pairwise_append]
          refine ⟨ih'.imp fun h => lift _ _ h, List.pairwise_singleton _ _, fun k hk k' hk' => ?_⟩
          rw [List.mem_singleton] at hk'
          subst hk'
          have hka := mem_dedK.1 hk
          have hlt := posK_lt hka
          refine ⟨posK a k, a.length, hlt, ?_, ?_, by simp, ?_⟩
          · rw [List.getElem?_append_left hlt]; exact posK_at hka
          · rw [List.take_append_of_le_length (by omega)]
            intro hm
            obtain ⟨q, hq⟩ := List.mem_iff_getElem?.1 hm
            have hql := (List.getElem?_eq_some_iff.1 hq).1
            rw [List.length_take] at hql
            rw [List.getElem?_take_of_lt (by omega)] at hq
            obtain ⟨h1, h2⟩ := List.getElem?_eq_some_iff.1 hq
            have := List.not_of_lt_findIdx (p := fun x => decide (x = k)) (xs := a) (i := q) (by unfold posK at hql; omega)
            simp [h2] at this
          · rw [List.take_append_of_le_length (Nat.le_refl _), List.take_length]
            exact fun h => hy (mem_dedK.2 h)
  exact fun ks => key _ ks rfl
theorem cls_ok (ks : List κ) : okP ks.length (clsK ks) := by
  refine ⟨fun c hc => ?_, fun c hc => ?_, fun c hc x hx => ?_, ?_⟩
  · obtain ⟨k, _, _, h⟩ := mem_cls.1 hc; exact h
  · obtain ⟨k, _, rfl, _⟩ := mem_cls.1 hc; exact ids_sorted ks k
  · obtain ⟨k, _, rfl, _⟩ := mem_cls.1 hc
    obtain ⟨i, hi, rfl⟩ := mem_ids.1 hx
    have := (List.getElem?_eq_some_iff.1 hi).1
    omega
  · unfold clsK bigG grpOf
    refine List.Pairwise.filter _ ?_
    rw [List.pairwise_map, ixL_keys]
    refine (dedK_firsts ks).imp ?_
    rintro k k' ⟨i, j, hij, h1, h2, h3, h4⟩
    refine ⟨fun x hx hx' => ?_, ?_⟩
    · obtain ⟨a, ha, rfl⟩ := mem_ids.1 hx
      obtain ⟨b, hb, e⟩ := mem_ids.1 hx'
      have : a = b := by omega
      subst this
      rw [ha] at hb
      cases hb
      exact h4 (List.mem_of_getElem? (i := i) (by rw [List.getElem?_take_of_lt hij]; exact h1))
    · obtain ⟨l, hl⟩ := ids_head h1 h2
      obtain ⟨l', hl'⟩ := ids_head h3 h4
      rw [hl, hl']
      show (i : Int) < j; omega
/-- The label of a row: its class, or what is its own. -/
def labP (cls : List (List Int)) (i : Nat) : Int := match cls.findIdx? (fun c => decide ((i : Int) ∈ c)) with
  | some q => (q : Int)
  | none => -1 - (i : Int)
theorem findIdx?_congr' {α : Type} {p q : α → Bool} : ∀ {l : List α}, (∀ x ∈ l, p x = q x) → l.findIdx? p = l.findIdx? q := by
  intro l
  induction l with
  | nil => intro _; rfl
  | cons a l ih =>
    intro h
    rw [List.findIdx?_cons, List.findIdx?_cons, h a (by simp), ih fun x hx => h x (by simp [hx])]
theorem lab_some {cls : List (List Int)} {i q : Nat} (h : labP cls i = (q : Int)) : ∃ c, cls[q]? = some c ∧ (i : Int) ∈ c := by
  unfold labP at h
  cases hf : cls.findIdx? (fun c => decide ((i : Int) ∈ c)) with
  | none => rw [hf] at h; simp at h; omega
  | some q' =>
    rw [hf] at h
    have : q' = q := by simp only at h; omega
    subst this
    rw [List.findIdx?_eq_some_iff_getElem] at hf
    obtain ⟨h1, h2, _⟩ := hf
    exact ⟨_, List.getElem?_eq_getElem h1, of_decide_eq_true h2⟩
theorem lab_cases (cls : List (List Int)) (i : Nat) : (∃ q : Nat, labP cls i = (q : Int)) ∨ (labP cls i = -1 - (i : Int) ∧ ∀ c ∈ cls, (i : Int) ∉ c) := by
  unfold labP
  cases hf : cls.findIdx? (fun c => decide ((i : Int) ∈ c)) with
  | none =>
    rw [List.findIdx?_eq_none_iff] at hf
    exact .inr ⟨rfl, fun c hc h => by have := hf c hc; simp [h] at this⟩
  | some q => exact .inl ⟨q, rfl⟩
theorem lab_iff (ks : List κ) {i j : Nat} {a b : κ} (hi : ks[i]? = some a) (hj : ks[j]? = some b) : labP (clsK ks) i = labP (clsK ks) j ↔ a = b := by
  have same : ∀ {i : Nat} {a : κ}, ks[i]? = some a → ∀ {q : Nat}, labP (clsK ks) i = (q : Int) → (clsK ks)[q]? = some (idsOf (ixL ks) a) := by
    intro i a hi q hq
    obtain ⟨c, hc, hm⟩ := lab_some hq
    obtain ⟨k, _, rfl, _⟩ := mem_cls.1 (List.mem_of_getElem? hc)
    obtain ⟨i', hi', e⟩ := mem_ids.1 hm
    have : i = i' := by omega
    subst this
    rw [hi] at hi'
    cases hi'
    exact hc
  constructor
  · intro h
    rcases lab_cases (clsK ks) i with ⟨q, hq⟩ | ⟨h1, -⟩
    · have e1 := same hi hq
      have e2 := same hj (h.symm.trans hq)
      rw [e1] at e2
      have e3 : idsOf (ixL ks) a = idsOf (ixL ks) b := Option.some.inj e2
      have : (i : Int) ∈ idsOf (ixL ks) b := by rw [← e3]; exact mem_ids.2 ⟨i, hi, rfl⟩
      obtain ⟨i', hi', e⟩ := mem_ids.1 this
      have : i = i' := by omega
      subst this
      rw [hi] at hi'
      cases hi'
      rfl
    · rcases lab_cases (clsK ks) j with ⟨q, hq⟩ | ⟨h2, -⟩
      · rw [h1, hq] at h; omega
      · rw [h1, h2] at h
        have : i = j := by omega
        subst this
        rw [hi] at hj; cases hj; rfl
  · rintro rfl
    have e : (clsK ks).findIdx? (fun c => decide ((i : Int) ∈ c)) = (clsK ks).findIdx? (fun c => decide ((j : Int) ∈ c)) := by
      apply findIdx?_congr'
      intro c hc
      obtain ⟨k, _, rfl, _⟩ := mem_cls.1 hc
      rw [decide_eq_decide, mem_ids, mem_ids]
      constructor
      · rintro ⟨x, h1, h2⟩
        have : i = x := by omega
        subst this
        rw [hi] at h1; cases h1
        exact ⟨j, hj, rfl⟩
      · rintro ⟨x, h1, h2⟩
        have : j = x := by omega
        subst this
        rw [hj] at h1; cases h1
        exact ⟨i, hi, rfl⟩
    unfold labP
    rw [e]
    cases hf : (clsK ks).findIdx? (fun c => decide ((j : Int) ∈ c)) with
    | some q => rfl
    | none =>
      rw [List.findIdx?_eq_none_iff] at hf
      by_cases hij : i = j
      · rw [hij]
      · exfalso
        have h1 : (i : Int) ∈ idsOf (ixL ks) a := mem_ids.2 ⟨i, hi, rfl⟩
        have h2 : (j : Int) ∈ idsOf (ixL ks) a := mem_ids.2 ⟨j, hj, rfl⟩
        have h3 : 2 ≤ (idsOf (ixL ks) a).length := by
          have := nodup_lenK (a := [(i : Int), (j : Int)]) (b := idsOf (ixL ks) a) (by simp; omega) (by intro s hs; simp at hs; rcases hs with rfl | rfl <;> assumption)
          simpa using this
        have := hf _ (mem_cls.2 ⟨a, List.mem_of_getElem? hi, rfl, h3⟩)
        simp [h2] at this
end
section
variable {κ κ' : Type} [DecidableEq κ] [DecidableEq κ']
/-- The classes depend on nothing but which keys are equal. -/
theorem cls_congr {ks : List κ} {ks' : List κ'} (hl : ks'.length = ks.length) (h : ∀ (i j : Nat) (a b : κ) (a' b' : κ'), ks[i]? = some a → ks[j]? = some b → ks'[i]? = some a' → ks'[j]? = some b' → (a = b ↔ a' = b')) : clsK ks' = clsK ks ∧ (dedK ks').length = (dedK ks).length := by
  match ks', hl, h with
  | [], hl, _ => rw [List.eq_nil_of_length_eq_zero (l := ks) (by simpa using hl.symm)]; exact ⟨rfl, rfl⟩
  | d :: ds, hl, h =>
    obtain ⟨φ, hφ⟩ : ∃ φ : κ → κ', ∀ k, φ k = (d :: ds).getD (posK ks k) d := ⟨_, fun _ => rfl⟩
    have hat : ∀ (i : Nat) (a : κ) (a' : κ'), ks[i]? = some a → (d :: ds)[i]? = some a' → φ a = a' := by
      intro i a a' h1 h2
      have hm := List.mem_of_getElem? h1
      have hlt := posK_lt hm
      obtain ⟨x, hx⟩ := get_some (xs := d :: ds) (show posK ks a < (d :: ds).length by rw [hl]; exact hlt)
      rw [hφ, List.getD_eq_getElem?_getD, hx]
      exact (h _ _ a a x a' (posK_at hm) h1 hx h2).1 rfl
    have hmap : (d :: ds) = ks.map φ := by
      apply List.ext_getElem?
      intro i
      rw [List.getElem?_map]
      cases hi : ks[i]? with
      | none => rw [List.getElem?_eq_none_iff] at hi; exact List.getElem?_eq_none_iff.2 (by rw [hl]; exact hi)
      | some a =>
        obtain ⟨a', ha'⟩ := get_some (xs := d :: ds) (show i < (d :: ds).length by rw [hl]; exact (List.getElem?_eq_some_iff.1 hi).1)
        rw [ha', Option.map_some, hat i a a' hi ha']
    have hix : ixL (d :: ds) = (ixL ks).map fun p => (φ p.1, p.2) := by
      unfold ixL
      rw [hmap, List.zipIdx_map, List.map_map, List.map_map]
      rfl
    have hinj : ∀ p ∈ ixL ks, ∀ q ∈ ixL ks, φ p.1 = φ q.1 → p.1 = q.1 := by
      intro p hp q hq e
      obtain ⟨i, h1, -⟩ := ixL_mem.1 hp
      obtain ⟨j, h2, -⟩ := ixL_mem.1 hq
      obtain ⟨a', ha'⟩ := get_some (xs := d :: ds) (show i < (d :: ds).length by rw [hl]; exact (List.getElem?_eq_some_iff.1 h1).1)
      obtain ⟨b', hb'⟩ := get_some (xs := d :: ds) (show j < (d :: ds).length by rw [hl]; exact (List.getElem?_eq_some_iff.1 h2).1)
      rw [hat i _ a' h1 ha', hat j _ b' h2 hb'] at e
      exact (h i j _ _ a' b' h1 h2 ha' hb').2 e
    obtain ⟨g1, g2⟩ := grpOf_rename φ (ixL ks) hinj
    rw [← hix, ixL_keys, ixL_keys] at g2
    refine ⟨?_, by rw [g2, List.length_map]⟩
    unfold clsK bigG
    rw [hix, g1]
/-- The number of different keys, by the classes. -/
def rankP (n : Nat) (cls : List (List Int)) : Int := (n : Int) - ((cls.map fun c => (c.length : Int) - 1).sum)
theorem sum_set (l : List Int) (i : Nat) (x y : Int) (h : l[i]? = some x) : (l.set i y).sum = l.sum - x + y := by
  induction l generalizing i with
  | nil => simp at h
  | cons a l ih =>
    cases i with
    | zero => simp at h; subst h; simp; omega
    | succ i => simp at h; simp [ih i h]; omega
theorem grp_sum : ∀ (l : List (κ × Int)), ((grpOf l).map fun c => (c.length : Int) - 1).sum = (l.length : Int) - ((dedK (l.map (·.1))).length : Int) := by
  have key : ∀ n, ∀ l : List (κ × Int), l.length = n → ((grpOf l).map fun c => (c.length : Int) - 1).sum = (l.length : Int) - ((dedK (l.map (·.1))).length : Int) := by
    intro n
    induction n with
    | zero => intro l h; rw [List.eq_nil_of_length_eq_zero h]; rfl
    | succ n ih =>
      intro l h
      rcases snoc_cases l with rfl | ⟨a, ⟨k, x⟩, rfl⟩
      · simp at h
      · have ih' := ih a (by simpa using h)
        by_cases hk : k ∈ dedK (a.map (·.1))
        · obtain ⟨h1, h2⟩ := grpOf_old x hk
          rw [h1, h2, List.map_set, sum_set _ _ (((idsOf a k).length : Int) - 1) _ (by rw [List.getElem?_map, grpOf_at hk]; rfl), ih']
          simp
          omega
        · obtain ⟨h1, h2⟩ := grpOf_new x hk
          rw [h1, h2, List.map_append, List.sum_append, ih']
          simp
          omega
  exact fun l => key _ l rfl
theorem filter_sum : ∀ (l : List (List Int)), (∀ c ∈ l, 1 ≤ c.length) → ((l.filter fun g => decide (2 ≤ g.length)).map fun c => (c.length : Int) - 1).sum = (l.map fun c => (c.length : Int) - 1).sum := by
  intro l
  induction l with
  | nil => intro _; rfl
  | cons c l ih =>
    intro h
    have ih' := ih fun d hd => h d (by simp [hd])
    rw [List.filter_cons]
    by_cases h2 : 2 ≤ c.length
    · rw [if_pos (decide_eq_true h2), List.map_cons, List.sum_cons, ih', List.map_cons, List.sum_cons]
    · rw [if_neg (by simpa using h2), ih', List.map_cons, List.sum_cons]
      have := h c (by simp)
      omega
theorem rank_ded (ks : List κ) : rankP ks.length (clsK ks) = ((dedK ks).length : Int) := by
  unfold rankP clsK bigG
  rw [filter_sum, grp_sum, ixL_keys, ixL_length]
  · omega
  · intro c hc
    unfold grpOf at hc
    obtain ⟨k, hk, rfl⟩ := List.mem_map.1 hc
    rw [ixL_keys] at hk
    obtain ⟨i, hi⟩ := List.mem_iff_getElem?.1 (mem_dedK.1 hk)
    exact List.length_pos_of_mem (mem_ids.2 ⟨i, hi, rfl⟩)
/-- Of two lists of keys, the second finer: as many different ones exactly if the first tells the second apart. -/
theorem ded_same {ks : List κ} {ks' : List κ'} (hl : ks'.length = ks.length) (hf : ∀ (i j : Nat) (a b : κ) (a' b' : κ'), ks[i]? = some a → ks[j]? = some b → ks'[i]? = some a' → ks'[j]? = some b' → a' = b' → a = b) :
    (dedK ks).length = (dedK ks').length ↔ ∀ (i j : Nat) (a b : κ) (a' b' : κ'), ks[i]? = some a → ks[j]? = some b → ks'[i]? = some a' → ks'[j]? = some b' → a = b → a' = b' := by
  constructor
  · intro he i j a b a' b' h1 h2 h3 h4 e
    subst e
    apply Classical.byContradiction
    intro hne
    -- all keys are met by the different keys of the second but one
    have hsub : ∀ s ∈ dedK ks, s ∈ ((dedK ks').erase b').map fun k' => ks.getD (posK ks' k') a := by
      intro s hs
      obtain ⟨p, hp⟩ := List.mem_iff_getElem?.1 (mem_dedK.1 hs)
      obtain ⟨s', hs'⟩ := get_some (xs := ks') (show p < ks'.length by rw [hl]; exact (List.getElem?_eq_some_iff.1 hp).1)
      have val : ∀ (p : Nat) (s : κ) (s' : κ'), ks[p]? = some s → ks'[p]? = some s' → ks.getD (posK ks' s') a = s := by
        intro p s s' hp hs'
        have hm := List.mem_of_getElem? hs'
        have hq := posK_at hm
        obtain ⟨x, hx⟩ := get_some (xs := ks) (show posK ks' s' < ks.length by rw [← hl]; exact posK_lt hm)
        rw [List.getD_eq_getElem?_getD, hx]
        exact hf _ _ x s s' s' hx hp hq hs' rfl
      by_cases hb : s' = b'
      · subst hb
        have : s = a := hf p j s a s' s' hp h2 hs' h4 rfl
        subst this
        refine List.mem_map.2 ⟨a', (List.mem_erase_of_ne hne).2 (mem_dedK.2 (List.mem_of_getElem? h3)), val i _ a' h1 h3⟩
      · exact List.mem_map.2 ⟨s', (List.mem_erase_of_ne hb).2 (mem_dedK.2 (List.mem_of_getElem? hs')), val p s s' hp hs'⟩
    have hlen := nodup_lenK (dedK_nodup ks) hsub
    have hb : b' ∈ dedK ks' := mem_dedK.2 (List.mem_of_getElem? h4)
    rw [List.length_map, List.length_erase_of_mem hb] at hlen
    have := List.length_pos_of_mem hb
    omega
  · intro h
    refine (cls_congr hl fun i j a b a' b' h1 h2 h3 h4 => ⟨h i j a b a' b' h1 h2 h3 h4, hf i j a b a' b' h1 h2 h3 h4⟩).2.symm
end

end Go.Proofs.YtgahpgmagfngfaaGreatDoor


/- Rows that are filled one place after the other; rows of two cells an element. No program. -/
namespace Go.Proofs.YtgahpgmagfngfaaGreatDoor
open Go.RowKit
set_option linter.unusedVariables false

section
variable {α : Type}
/-- The first k places hold what f tells, all others z. -/
def fillL (N : Nat) (z : α) (f : Nat → α) (k : Nat) : List α := (List.range N).map fun j => if j < k then f j else z
theorem fillL_length (N : Nat) (z : α) (f : Nat → α) (k : Nat) : (fillL N z f k).length = N := by unfold fillL; simp
theorem fillL_at {N : Nat} {z : α} {f : Nat → α} {k j : Nat} (h : j < N) : (fillL N z f k)[j]? = some (if j < k then f j else z) := by
  unfold fillL; rw [List.getElem?_map, List.getElem?_range h]; rfl
theorem fillL_zero (N : Nat) (z : α) (f : Nat → α) : fillL N z f 0 = List.replicate N z := by
  unfold fillL
  apply List.ext_getElem?
  intro j
  rw [List.getElem?_map]
  by_cases h : j < N
  · rw [List.getElem?_range h, List.getElem?_replicate, if_pos h]; rfl
  · rw [List.getElem?_eq_none (by simp; omega), List.getElem?_eq_none (by simp; omega)]; rfl
theorem fillL_set {N : Nat} {z : α} {f : Nat → α} {k : Nat} : (fillL N z f k).set k (f k) = fillL N z f (k + 1) := by
  apply List.ext_getElem?
  intro j
  rw [List.getElem?_set]
  by_cases hj : j < N
  · rw [fillL_at hj, fillL_at hj, fillL_length]
    by_cases e : k = j
    · subst e; rw [if_pos rfl, if_pos hj, if_pos (by omega)]
    · rw [if_neg e]
      by_cases h2 : j < k
      · rw [if_pos h2, if_pos (by omega)]
      · rw [if_neg h2, if_neg (by omega)]
  · rw [List.getElem?_eq_none (by rw [fillL_length]; omega), List.getElem?_eq_none (by rw [fillL_length]; omega), fillL_length]
    split
    · rw [if_neg (by omega)]
    · rfl
theorem fillL_all {N : Nat} {z : α} {f : Nat → α} {k : Nat} (h : N ≤ k) : fillL N z f k = (List.range N).map f := by
  unfold fillL
  apply List.map_congr_left
  intro j hj
  rw [if_pos (by have := List.mem_range.1 hj; omega)]
theorem range_getD {l : List α} {N : Nat} (z : α) (h : N = l.length) : (List.range N).map (fun j => l.getD j z) = l := by
  apply List.ext_getElem?
  intro j
  rw [List.getElem?_map]
  by_cases hj : j < N
  · obtain ⟨x, hx⟩ : ∃ x, l[j]? = some x := ⟨l[j]'(by omega), List.getElem?_eq_getElem (by omega)⟩
    rw [List.getElem?_range hj, hx, Option.map_some, List.getD_eq_getElem?_getD, hx]; rfl
  · rw [List.getElem?_eq_none (by simp; omega), List.getElem?_eq_none (by omega)]; rfl
theorem getD_at {l : List α} {j : Nat} {x : α} (z : α) (h : l[j]? = some x) : l.getD j z = x := by rw [List.getD_eq_getElem?_getD, h]; rfl
theorem flat_set2 {c : α → List Value} (hc : ∀ x, (c x).length = 2) : ∀ (xs : List α) (k : Nat) (y : α) (a b : Value), k < xs.length → c y = [a, b] → ((xs.flatMap c).set (k * 2) a).set (k * 2 + 1) b = (xs.set k y).flatMap c := by
  intro xs
  induction xs with
  | nil => intro k y a b h; simp at h
  | cons x xs ih =>
    intro k y a b h hy
    obtain ⟨p, q, hx⟩ : ∃ p q, c x = [p, q] := by
      have := hc x
      match hcx : c x, this with
      | [p, q], _ => exact ⟨p, q, rfl⟩
    cases k with
    | zero => simp [hx, hy]
    | succ k =>
      rw [List.set_cons_succ, List.flatMap_cons, List.flatMap_cons, hx, ← ih k y a b (by simpa using h) hy]
      rw [show (k + 1) * 2 = k * 2 + 1 + 1 by omega]
      rfl
theorem flat_replicate2 {c : α → List Value} {z : α} {a b : Value} (hz : c z = [a, b]) (N : Nat) : (List.replicate N z).flatMap c = (List.range (N * 2)).map fun j => if j % 2 = 0 then a else b := by
  induction N with
  | zero => rfl
  | succ N ih =>
    rw [List.replicate_succ', List.flatMap_append, ih, show (N + 1) * 2 = N * 2 + 1 + 1 by omega, List.range_succ, List.range_succ, List.map_append, List.map_append]
    simp [hz, Nat.mul_comm N 2]
end

theorem set2p {W : World} {b : Nat} {x y x' y' : Value} (h0 : W.cell? ⟨b, 0, none⟩ = some x') (h1 : W.cell? ⟨b, 1, none⟩ = some y') {W3 : World} (hW : (W.setCell ⟨b, 0, none⟩ x).setCell ⟨b, 1, none⟩ y = W3) :
    W3.cell? ⟨b, 0, none⟩ = some x ∧ W3.cell? ⟨b, 1, none⟩ = some y := by
  subst hW
  refine ⟨?_, ?_⟩
  · rw [World.cell?_setCell_other _ _ _ _ (by simp)]; exact World.cell?_setCell_same _ _ _ h0
  · exact World.cell?_setCell_same _ _ _ ((World.cell?_setCell_other _ _ _ _ (by simp)).trans h1)

end Go.Proofs.YtgahpgmagfngfaaGreatDoor


/- Plain: how partition.Valid and partition.labels go through the classes. No program. -/
namespace Go.Proofs.YtgahpgmagfngfaaGreatDoor
open Go.RowKit
set_option linter.unusedVariables false

structure okQ (n : Nat) (cls : List (List Int)) : Prop where
  ok : okP n cls
  le : n ≤ 1000
  num : cls.length ≤ n
  len : ∀ c ∈ cls, c.length ≤ n
theorem cls_okQ {κ : Type} [DecidableEq κ] {ks : List κ} (h : ks.length ≤ 1000) : okQ ks.length (clsK ks) := by
  refine ⟨cls_ok ks, h, ?_, fun c hc => ?_⟩
  · unfold clsK bigG
    have h1 := List.length_filter_le (fun g : List Int => decide (2 ≤ g.length)) (grpOf (ixL ks))
    have h2 := grpOf_length (ixL ks)
    rw [ixL_length] at h2
    omega
  · have := grpOf_bound (l := ixL ks) (List.mem_filter.1 hc).1
    rwa [ixL_length] at this
def seenQ (cls : List (List Int)) (j : Nat) : Bool := cls.any fun c => decide ((j : Int) ∈ c)
def seenR (n : Nat) (cls : List (List Int)) : List Bool := (List.range n).map (seenQ cls)
def labR (n : Nat) (cls : List (List Int)) : List Int := (List.range n).map (labP cls)
theorem labR_length (n : Nat) (cls : List (List Int)) : (labR n cls).length = n := by unfold labR; simp
theorem seenR_at {n j : Nat} (h : j < n) (cls : List (List Int)) : (seenR n cls)[j]? = some (seenQ cls j) := by unfold seenR; rw [List.getElem?_map, List.getElem?_range h]; rfl
theorem labR_at {n j : Nat} (h : j < n) (cls : List (List Int)) : (labR n cls)[j]? = some (labP cls j) := by unfold labR; rw [List.getElem?_map, List.getElem?_range h]; rfl
theorem set_range {α : Type} {n i : Nat} (f g : Nat → α) (y : α) (hi : g i = y) (hf : ∀ j, j < n → j ≠ i → f j = g j) : ((List.range n).map f).set i y = (List.range n).map g := by
  apply List.ext_getElem?
  intro j
  rw [List.getElem?_set, List.getElem?_map, List.getElem?_map, List.length_map, List.length_range]
  by_cases hj : j < n
  · rw [List.getElem?_range hj]
    by_cases e : i = j
    · subst e; rw [if_pos rfl, if_pos hj]; simp [hi]
    · rw [if_neg e]; simp [hf j hj (Ne.symm e)]
  · rw [List.getElem?_eq_none (l := List.range n) (by simp; omega)]
    split
    · rw [if_neg (by omega)]; rfl
    · rfl
/-- The classes as far as the j-th member of the q-th. -/
def preC (cls : List (List Int)) (q j : Nat) : List (List Int) := cls.take q ++ [(cls.getD q []).take j]
theorem preC_at {cls : List (List Int)} {q : Nat} {c : List Int} (h : cls[q]? = some c) (j : Nat) : preC cls q j = cls.take q ++ [c.take j] := by unfold preC; rw [List.getD_eq_getElem?_getD, h]; rfl
theorem preC_end {cls : List (List Int)} {q : Nat} {c : List Int} (h : cls[q]? = some c) {j : Nat} (hj : c.length ≤ j) : preC cls q j = cls.take (q + 1) := by rw [preC_at h, List.take_of_length_le hj, take_next h]
theorem seenB_start (cls : List (List Int)) (q i : Nat) : seenQ (preC cls q 0) i = seenQ (cls.take q) i := by unfold preC seenQ; simp
theorem labP_snoc (A : List (List Int)) (d : List Int) (i : Nat) : labP (A ++ [d]) i = if seenQ A i = true then labP A i else if (i : Int) ∈ d then (A.length : Int) else -1 - (i : Int) := by
  unfold labP
  rw [List.findIdx?_append]
  cases hf : A.findIdx? (fun c => decide ((i : Int) ∈ c)) with
  | some q =>
    have : seenQ A i = true := by
      rw [List.findIdx?_eq_some_iff_getElem] at hf
      obtain ⟨h1, h2, _⟩ := hf
      exact List.any_eq_true.2 ⟨_, List.getElem_mem h1, h2⟩
    rw [if_pos this]; rfl
  | none =>
    have : seenQ A i ≠ true := by
      intro h
      obtain ⟨c, hc, h2⟩ := List.any_eq_true.1 h
      rw [List.findIdx?_eq_none_iff] at hf
      have := hf c hc
      rw [h2] at this; cases this
    rw [if_neg this]
    by_cases hd : (i : Int) ∈ d
    · rw [if_pos hd]; simp [List.findIdx?_cons, hd]
    · rw [if_neg hd]; simp [List.findIdx?_cons, hd]
theorem labP_start (cls : List (List Int)) (q i : Nat) : labP (preC cls q 0) i = labP (cls.take q) i := by
  unfold preC
  rw [labP_snoc]
  by_cases h : seenQ (cls.take q) i = true
  · rw [if_pos h]
  · rw [if_neg h, List.take_zero, if_neg (by simp)]
    rcases lab_cases (cls.take q) i with ⟨p, hp⟩ | ⟨h1, _⟩
    · exfalso
      obtain ⟨c, hc, hm⟩ := lab_some hp
      exact h (List.any_eq_true.2 ⟨c, List.mem_of_getElem? hc, decide_eq_true hm⟩)
    · exact h1.symm
/-- A member of a class is a row. -/
theorem okP_mem {n q j : Nat} {cls : List (List Int)} {c : List Int} {x : Int} (h : okP n cls) (hc : cls[q]? = some c) (hx : c[j]? = some x) : ∃ i : Nat, x = (i : Int) ∧ i < n := by
  obtain ⟨h1, h2⟩ := h.rng c (List.mem_of_getElem? hc) x (List.mem_of_getElem? hx)
  exact ⟨x.toNat, by omega, by omega⟩
theorem okP_before {n q : Nat} {cls : List (List Int)} {c : List Int} {i : Nat} (h : okP n cls) (hc : cls[q]? = some c) (hx : (i : Int) ∈ c) : seenQ (cls.take q) i = false := by
  rw [← Bool.not_eq_true]
  intro hs
  obtain ⟨d, hd, h2⟩ := List.any_eq_true.1 hs
  obtain ⟨p, hp⟩ := List.mem_iff_getElem?.1 hd
  have hpl : p < q := by have := (List.getElem?_eq_some_iff.1 hp).1; rw [List.length_take] at this; omega
  rw [List.getElem?_take_of_lt hpl] at hp
  obtain ⟨p1, p2⟩ := List.getElem?_eq_some_iff.1 hp
  obtain ⟨q1, q2⟩ := List.getElem?_eq_some_iff.1 hc
  have := (List.pairwise_iff_getElem.1 h.apart p q p1 q1 hpl).1 (i : Int)
  rw [p2, q2] at this
  exact this (of_decide_eq_true h2) hx
theorem asc_not {c : List Int} {j : Nat} {x : Int} (h : c.Pairwise (· < ·)) (hx : c[j]? = some x) : x ∉ c.take j := by
  intro hm
  obtain ⟨p, hp⟩ := List.mem_iff_getElem?.1 hm
  have hpl : p < j := by have := (List.getElem?_eq_some_iff.1 hp).1; rw [List.length_take] at this; omega
  rw [List.getElem?_take_of_lt hpl] at hp
  obtain ⟨p1, p2⟩ := List.getElem?_eq_some_iff.1 hp
  obtain ⟨q1, q2⟩ := List.getElem?_eq_some_iff.1 hx
  have := List.pairwise_iff_getElem.1 h p j p1 q1 hpl
  rw [p2, q2] at this; omega
theorem seen_not {n q j i : Nat} {cls : List (List Int)} {c : List Int} (h : okP n cls) (hc : cls[q]? = some c) (hx : c[j]? = some (i : Int)) : seenQ (preC cls q j) i = false := by
  have h1 := okP_before h hc (List.mem_of_getElem? hx)
  have h2 := asc_not (h.asc c (List.mem_of_getElem? hc)) hx
  rw [preC_at hc]
  unfold seenQ at *
  rw [List.any_append, h1]
  simp [h2]
theorem seen_set {n q j i : Nat} {cls : List (List Int)} {c : List Int} (h : okP n cls) (hc : cls[q]? = some c) (hx : c[j]? = some (i : Int)) : (seenR n (preC cls q j)).set i true = seenR n (preC cls q (j + 1)) := by
  unfold seenR
  apply set_range
  · rw [preC_at hc, take_next hx]; unfold seenQ; rw [List.any_append]; simp
  · intro k _ hk
    rw [preC_at hc, preC_at hc, take_next hx]
    unfold seenQ
    rw [List.any_append, List.any_append]
    simp only [List.any_cons, List.any_nil, Bool.or_false]
    congr 1
    rw [decide_eq_decide, List.mem_append, List.mem_singleton]
    constructor
    · exact .inl
    · rintro (h | h)
      · exact h
      · exact absurd (by omega) hk
theorem lab_set {n q j i : Nat} {cls : List (List Int)} {c : List Int} (h : okP n cls) (hc : cls[q]? = some c) (hx : c[j]? = some (i : Int)) : (labR n (preC cls q j)).set i (q : Int) = labR n (preC cls q (j + 1)) := by
  have hql : (cls.take q).length = q := by rw [List.length_take]; have := (List.getElem?_eq_some_iff.1 hc).1; omega
  unfold labR
  apply set_range
  · rw [preC_at hc, take_next hx, labP_snoc, okP_before h hc (List.mem_of_getElem? hx), if_neg (by simp), if_pos (by simp), hql]
  · intro k _ hk
    rw [preC_at hc, preC_at hc, take_next hx, labP_snoc, labP_snoc]
    have e : ((k : Int) ∈ c.take j ++ [(i : Int)]) ↔ (k : Int) ∈ c.take j := by
      rw [List.mem_append, List.mem_singleton]
      constructor
      · rintro (h | h)
        · exact h
        · exact absurd (by omega) hk
      · exact .inl
    simp only [e]
/-- The head of the class before, the member before. -/
def firstC (cls : List (List Int)) (q : Nat) : Int := if q = 0 then -1 else (cls.getD (q - 1) []).headD 0
def befC (c : List Int) (j : Nat) : Int := if j = 0 then -1 else c.getD (j - 1) 0
theorem first_lt {n q : Nat} {cls : List (List Int)} {c : List Int} {x : Int} (h : okP n cls) (hc : cls[q]? = some c) (hx : c[0]? = some x) : firstC cls q < x := by
  unfold firstC
  by_cases h0 : q = 0
  · rw [if_pos h0]; have := (h.rng c (List.mem_of_getElem? hc) x (List.mem_of_getElem? hx)).1; omega
  · rw [if_neg h0]
    obtain ⟨q1, q2⟩ := List.getElem?_eq_some_iff.1 hc
    have := (List.pairwise_iff_getElem.1 h.apart (q - 1) q (by omega) q1 (by omega)).2
    rw [q2] at this
    rw [List.getD_eq_getElem?_getD, List.getElem?_eq_getElem (by omega : q - 1 < cls.length), Option.getD_some]
    have e : c.headD 0 = x := by cases c with
      | nil => cases hx
      | cons a l => simpa using hx
    rw [e] at this; exact this
theorem first_next {q : Nat} {cls : List (List Int)} {c : List Int} {x : Int} (hc : cls[q]? = some c) (hx : c[0]? = some x) : firstC cls (q + 1) = x := by
  unfold firstC
  rw [if_neg (by omega), Nat.add_sub_cancel, List.getD_eq_getElem?_getD, hc, Option.getD_some]
  cases c with
  | nil => cases hx
  | cons a l => simpa using hx
theorem bef_lt {c : List Int} {j : Nat} {x : Int} (h : c.Pairwise (· < ·)) (hx : c[j]? = some x) (h0 : 0 ≤ x) : befC c j < x := by
  unfold befC
  by_cases hj : j = 0
  · rw [if_pos hj]; omega
  · rw [if_neg hj]
    obtain ⟨q1, q2⟩ := List.getElem?_eq_some_iff.1 hx
    have := List.pairwise_iff_getElem.1 h (j - 1) j (by omega) q1 (by omega)
    rw [q2] at this
    rw [List.getD_eq_getElem?_getD, List.getElem?_eq_getElem (by omega : j - 1 < c.length), Option.getD_some]; exact this
theorem bef_next {c : List Int} {j : Nat} {x : Int} (hx : c[j]? = some x) : befC c (j + 1) = x := by
  unfold befC; rw [if_neg (by omega), Nat.add_sub_cancel, List.getD_eq_getElem?_getD, hx]; rfl
theorem lab_bound {n : Nat} {cls : List (List Int)} (h : okQ n cls) (i : Nat) (hi : i < n) : -1001 ≤ labP cls i ∧ labP cls i ≤ 1000 := by
  have h1 := h.le
  rcases lab_cases cls i with ⟨q, hq⟩ | ⟨h2, _⟩
  · obtain ⟨c, hc, _⟩ := lab_some hq
    have := (List.getElem?_eq_some_iff.1 hc).1
    have := h.num
    rw [hq]; omega
  · rw [h2]; omega
/-- The rank, as far as the q-th class. -/
def rankQ (n : Nat) (cls : List (List Int)) (q : Nat) : Int := rankP n (cls.take q)
theorem rankQ_next {n q : Nat} {cls : List (List Int)} {c : List Int} (hc : cls[q]? = some c) : rankQ n cls (q + 1) = rankQ n cls q - ((c.length : Int) - 1) := by
  unfold rankQ rankP
  rw [take_next hc, List.map_append, List.sum_append]; simp; omega
theorem rankQ_bound {n : Nat} {cls : List (List Int)} (h : okQ n cls) : ∀ q, q ≤ cls.length → -((1000 : Int) * q) ≤ rankQ n cls q ∧ rankQ n cls q ≤ 1000 := by
  intro q
  induction q with
  | zero => intro _; unfold rankQ rankP; have := h.le; simp; omega
  | succ q ih =>
    intro hq
    obtain ⟨h1, h2⟩ := ih (by omega)
    obtain ⟨c, hc⟩ := get_some (show q < cls.length by omega)
    rw [rankQ_next hc]
    have h3 := h.len c (List.mem_of_getElem? hc)
    have h4 := h.ok.two c (List.mem_of_getElem? hc)
    have h5 := h.le
    rw [Int.natCast_succ]
    omega

end Go.Proofs.YtgahpgmagfngfaaGreatDoor


/- The walks of strings.Builder's WriteString and String. -/
namespace Go.Proofs.YtgahpgmagfngfaaGreatDoor
open Go.RowKit
set_option linter.unusedVariables false

abbrev TB : TypeId := 150
theorem infoBld : (Tryz.prog.info? TB).map (·.size) = some 2 := by kernel_rfl
theorem liesBld : liesAt Tryz.prog Tryz.prog.depth TB (2 / Tryz.prog.cellsOf TB) 0 TB 1 = true := by kernel_rfl
theorem undPB : Tryz.prog.underlying 148 = some (.pointer TB) := by kernel_rfl
theorem undUP : Tryz.prog.underlying 221 = some .unsafePointer := by kernel_rfl
theorem undBy : Tryz.prog.underlying 24 = some (.slice 5) := by kernel_rfl
theorem undSt : Tryz.prog.underlying 9 = some .string := by kernel_rfl
theorem infoBy : (Tryz.prog.info? 5).map (fun i => (i.zero, i.size, i.bytes)) = some (some (.int .u8 0), 1, 1) := by kernel_rfl
set_option maxHeartbeats 1600000 in
set_option maxRecDepth 100000 in
theorem bcheck_any (B b : Nat) (bs : List Value) (w : World) (h : Lib.IsBuilder TB 5 B b bs w) :
    Calls Tryz.prog 125 #[.pointer (some ⟨b, 0, none⟩)] w fun e w' => e = .returned (.tuple #[]) ∧ Lib.BuilderAt TB 5 B b (.pointer (some ⟨b, 0, none⟩)) bs w' ∧ Below B w w' := by
  obtain ⟨j, hj, hjs⟩ := Option.map_eq_some_iff.1 infoBld
  rcases h with h | h
  · have h0 := h.cell0
    have hsh := h.shape
    have hfz := h.frozen0
    have US := hid (h.used (.pointer (some ⟨b, 0, none⟩)))
    have BF := hid ((Below.refl B w).setCell (p := ⟨b, 0, none⟩) h.1 (.pointer (some ⟨b, 0, none⟩)))
    have H1 := hid (Lib.run_to_unsafe w ⟨b, 0, none⟩ undPB undUP hj (by rw [hjs]; decide) hsh (Nat.zero_lt_succ 1))
    have H2 := hid (Lib.run_from_unsafe w ⟨b, 0, none⟩ undUP undPB hj hsh liesBld)
    clear hsh h hj hjs
    go_enter Tryz.func125, Tryz.ntmps125
    go_wp2
    rw [H1.out]
    simp only [Result.andThen]
    rw [Oper.upon_value]
    go_wp2
    rw [run_callFunc_extern Tryz.func155 (by kernel_rfl) (by kernel_rfl) (by kernel_rfl) (e := Extern.AbiNoEscape.same) (by kernel_rfl)]
    rw [Lib.run_noEscape]
    simp only [Result.andThen]
    rw [Oper.upon_value]
    go_wp2
    rw [H2.out]
    simp only [Result.andThen]
    rw [Oper.upon_value]
    go_wp2
    go_end0
    exact ⟨rfl, US.out, BF.out⟩
  · have h0 := h.cell0
    have H := hid h
    have H1 := hid (Lib.run_neq_ptr_same w ⟨b, 0, none⟩ undPB hj)
    clear h hj hjs
    go_enter Tryz.func125, Tryz.ntmps125
    go_wp2
    rw [H1.out]
    go_wp2
    go_end0
    exact ⟨rfl, H.out, Below.refl B _⟩
set_option maxHeartbeats 1600000 in
set_option maxRecDepth 100000 in
theorem bwrite_any (B b : Nat) (bs : List Value) (s : ByteArray) (w : World) (h : Lib.IsBuilder TB 5 B b bs w) (hlen : bs.length + s.size ≤ 1000000) (hBw : B ≤ w.heap.size) :
    Calls Tryz.prog 82 #[.pointer (some ⟨b, 0, none⟩), .string s] w fun e w' => e = .returned (.tuple #[.int .i64 s.size, .nilIface]) ∧ Lib.BuilderAt TB 5 B b (.pointer (some ⟨b, 0, none⟩)) (bs ++ Lib.strCells s) w' ∧ Below B w w' := by
  obtain ⟨i0, hi, hz0, hz1, hz2⟩ := info_parts infoBy
  have CC := hid (bcheck_any B b bs w h)
  have HI := hid hi
  have HZ0 := hid hz0
  have HZ1 := hid hz1
  have HZ2 := hid hz2
  have HL := hid hlen
  have HBW := hid hBw
  clear h hlen hi hz0 hz1 hz2
  go_enter Tryz.func82, Tryz.ntmps82
  go_wp2_with fail
  refine CC.out.mono ?_
  rintro e w1 ⟨rfl, h1, hb1⟩
  obtain ⟨hB, v, hbk, hown, hne⟩ := h1
  have c0 : w1.cell? ⟨b, 0, none⟩ = some (.pointer (some ⟨b, 0, none⟩)) := by rw [Lib.cell_of_heap hbk]; rfl
  obtain ⟨ao0, n0, cap0, rfl⟩ : ∃ ao n' cap, v = .slice ao n' cap := by
    rcases hown.2 with ⟨hv, _⟩ | ⟨g, cap, cur, hv, _⟩
    · exact ⟨_, _, _, hv⟩
    · exact ⟨_, _, _, hv⟩
  have c1 : w1.cell? ⟨b, 1, none⟩ = some (.slice ao0 n0 cap0) := by rw [Lib.cell_of_heap hbk]; rfl
  have HBK := hid hbk
  have HO := hid hown
  have HNE := hid hne
  have HB1 := hid hb1
  clear hbk hown hne hb1
  go_wp2_with (at_builtin; refine Lib.wpList_append_own_string _ rfl _ _ 24 9 rfl B 5 i0 undBy undSt HI.out HZ0.out HZ1.out HZ2.out _ _ _ rfl HO.out s rfl ?c3 ?c4 ?c5 ?_)
  case c3 => have := HL.out; unfold maxLen; omega
  case c4 => have := HL.out; omega
  case c5 => have := HB1.out.size; omega
  intro v' w2 hown' hgrow _
  have hlt : b < w1.heap.size := World.block_lt_of_cell? _ _ c0
  have hb2 : w2.heap[b]? = some (.cells #[.pointer (some ⟨b, 0, none⟩), .slice ao0 n0 cap0] TB (0, 0)) := by
    rw [hgrow.block b hlt (fun e => HNE.out e.symm)]
    exact HBK.out
  have d0 : w2.cell? ⟨b, 0, none⟩ = some (.pointer (some ⟨b, 0, none⟩)) := by rw [Lib.cell_of_heap hb2]; rfl
  have d1 : w2.cell? ⟨b, 1, none⟩ = some (.slice ao0 n0 cap0) := by rw [Lib.cell_of_heap hb2]; rfl
  have f1 : w2.frozen? ⟨b, 1, none⟩ = false := Lib.frozen_of_heap hb2 1
  obtain ⟨ao, n', cap, rfl⟩ : ∃ ao n' cap, v' = .slice ao n' cap := by
    rcases hown'.2 with ⟨hv, _⟩ | ⟨g, cap, cur, hv, _⟩
    · exact ⟨_, _, _, hv⟩
    · exact ⟨_, _, _, hv⟩
  have FIN := hid (Lib.BuilderAt.put (T := TB) (e := 5) (v' := .slice ao n' cap) hB hb2 (bs' := bs ++ Lib.strCells s) (by simpa [Lib.strCells_length] using hown') (by decide))
  have BF := hid ((HB1.out.grown hgrow (by have := HB1.out.size; have := HBW.out; omega) (fun k hk => (HO.out.lt k hk).1)).setCell (p := ⟨b, 1, none⟩) hB (.slice ao n' cap))
  clear hb2 hown' hgrow hlt
  go_wp2_with fail
  go_ret2
  exact ⟨rfl, FIN.out, BF.out⟩
theorem bldExtra : Builder.Extra Tryz.prog Tryz.strS_ren where
  sizeBuilder := by kernel_rfl
  liesBuilder := by kernel_rfl
  t5 := by kernel_rfl
  a5 := Tryz.isAgg5
  z5 := Tryz.sizeOf5
  v5 := Tryz.zeroValue5
  infoByte := by kernel_rfl
  cellsByte := by kernel_rfl
  sizeByte := by kernel_rfl
  neB5 := by decide
theorem bstring_any (B b : Nat) (l : List UInt8) (w : World) (h : Lib.IsBuilder TB 5 B b (Lib.byteCells l) w) (hBw : B ≤ w.heap.size) :
    Calls Tryz.prog 83 #[.pointer (some ⟨b, 0, none⟩)] w fun e w' => e = .returned (.string ⟨l.toArray⟩) ∧ Below B w w' := Any.Builder_String_any Tryz.strS bldExtra B b l w h hBw

end Go.Proofs.YtgahpgmagfngfaaGreatDoor


/- slices.IndexFunc and slices.DeleteFunc over classes of the call's own, at partition's tests. -/
namespace Go.Proofs.YtgahpgmagfngfaaGreatDoor
open Go.RowKit
set_option linter.unusedVariables false

theorem own_slicePI {w : World} {B n : Nat} {e : TypeId} {v : Value} {xs : List Value} (h : w.ownsRow B e 1 v n xs) : ∃ ao cap, v = .slice ao n cap := by
  rcases h.2 with ⟨h1, h2⟩ | ⟨g', cap', cur, hv, _⟩
  · exact ⟨none, 0, by rw [h1, h2]⟩
  · exact ⟨_, cap', hv⟩
/-- Groups whose rows lie at M or beyond. -/
def FarG (M : Nat) (v : Value) (gs : List Gp) : Prop := ∀ j, j < M → FarV v (some j) ∧ ∀ g ∈ gs, FarV g.1 (some j)
theorem undPI : Tryz.prog.underlying 163 = some (.slice 37) := by kernel_rfl
theorem undPJ : Tryz.prog.underlying 37 = some (.slice 3) := by kernel_rfl
theorem infoPI : (Tryz.prog.info? 37).map (fun i => (i.zero, i.size, i.bytes)) = some (some (.slice none 0 0), 1, 24) := by kernel_rfl
theorem infoPJ : (Tryz.prog.info? 3).map (fun i => (i.zero, i.size, i.bytes)) = some (some (.int .i64 0), 1, 8) := by kernel_rfl
theorem dup1_anyS (ao : Option Addr) (n cap : Nat) (w : World) :
    Calls Tryz.prog 184 #[.slice ao n cap] w fun e w' => e = .returned (.bool (decide ((n : Int) < 2))) ∧ w = w' := by
  go_enter Tryz.func184, Tryz.ntmps184
  go_wp2
  go_ret
  exact ⟨rfl, rfl⟩
def IdxPostPI (xs : List Gp) (w : World) (e : Ending) (w' : World) : Prop :=
  w = w' ∧ ((e = .returned (.int .i64 (-1)) ∧ xs.any smallG = false) ∨ ∃ k, k < xs.length ∧ e = .returned (.int .i64 (k : Int)) ∧ (xs.take k).any smallG = false ∧ ∀ x, xs[k]? = some x → smallG x = true)
theorem indexG_anyS (xs : List Gp) (v : Value) (w : World) (hv : RdE Prod.fst w v xs) (hx : ∀ g ∈ xs, ∃ ao cap, g.1 = .slice ao g.2.length cap) :
    Calls Tryz.prog 185 #[v, .func (.func 184) #[] #[]] w (IdxPostPI xs w) := by
  obtain ⟨ao, cap, rfl, h2, hc⟩ := hv.split
  have HC := hid hc
  have HX := hid hx
  have eg := enters _ _ _ Tryz.func184 (by kernel_rfl) rfl
  clear hc hv hx
  go_enter Tryz.func185, Tryz.ntmps185
  go_wp2
  go_loopw [5, 8] (fun _ i wr => ∃ k : Nat, k ≤ xs.length ∧ i = .int .i64 k ∧ Hid ((xs.take k).any smallG = false) ∧ w = wr) (fun _ i _ => xs.length - (intOf i).toNat)
  case atStart => exact ⟨0, Nat.zero_le _, rfl, hid rfl, rfl⟩
  case round =>
    obtain ⟨k, hk, rfl, H, rfl⟩ := hrel
    by_cases hlt : k < xs.length
    · obtain ⟨x, hx⟩ := get_some hlt
      obtain ⟨b, off, rfl, hd⟩ := HC.out k x hx
      have e1 := hd w (Below.refl _ _)
      obtain ⟨xo, xcap, hxe⟩ := HX.out x (List.mem_of_getElem? hx)
      rw [hxe] at e1
      have X := hid hx
      have G1 := dup1_anyS xo x.2.length xcap w
      clear hd hx hxe
      cases hp : smallG x with
      | true =>
        rw [show decide ((x.2.length : Int) < 2) = true from hp] at G1
        have G2 := hid G1
        have P1 := hid hp
        clear hp G1
        go_wp2_with fail
        refine G2.out.mono ?_
        rintro e w2 ⟨rfl, rfl⟩
        go_wp2_with fail
        go_ret
        exact ⟨rfl, .inr ⟨k, hlt, rfl, H.out, fun y hy => by rw [X.out] at hy; cases hy; exact P1.out⟩⟩
      | false =>
        rw [show decide ((x.2.length : Int) < 2) = false from hp] at G1
        have G2 := hid G1
        have P1 := hid hp
        clear hp G1
        go_wp2_with fail
        refine G2.out.mono ?_
        rintro e w2 ⟨rfl, rfl⟩
        go_wp2_with fail
        go_roundw
        case rel => exact ⟨k + 1, by omega, by go_num, hid (none_nextG X.out P1.out H.out), by first | rfl | trivial⟩
        case measure => simp [intOf]; omega
    · have HE : xs.any smallG = false := by have h := H.out; rwa [List.take_of_length_le (by omega)] at h
      go_wp2
      go_ret
      exact ⟨rfl, .inl ⟨rfl, HE⟩⟩


set_option maxHeartbeats 1600000 in
theorem deleteG_anyS (B : Nat) (xs : List Gp) (v : Value) (w w0 : World) (hb : Below w0.heap.size w0 w) (hB : w0.heap.size ≤ B) (ho : OwnGr w B 37 3 v xs) (hl : xs.length ≤ 100000) (hl2 : ∀ g ∈ xs, g.2.length ≤ 100000) :
    Calls Tryz.prog 163 #[v, .func (.func 184) #[] #[]] w fun e w' => ∃ v', e = .returned v' ∧ RdG w' v' (bigs xs) ∧ FarG B v' (bigs xs) ∧ Below w0.heap.size w0 w' := by
  have hx : ∀ g ∈ xs, ∃ ao cap, g.1 = .slice ao g.2.length cap := fun g hg => own_slicePI (ho.inner g hg)
  have IX := hid (indexG_anyS xs v w (RdE.of_owns ho.outer (by omega)) hx)
  have eg := enters _ _ _ Tryz.func184 (by kernel_rfl) rfl
  have HB := hid hb
  have hs0 := hb.size
  have HX := hid hx
  have HL2 := hid hl2
  have HRD := hid (ho.rd hl hl2)
  obtain ⟨hown, hinn, -, haway⟩ := ho
  have HO := hid hown
  have HI := hid hinn
  have HAW := hid haway
  obtain ⟨ao, cap, rfl, -⟩ := (RdE.of_owns hown (by omega)).split
  clear hb hown hx hl2 hinn haway
  go_enter Tryz.func163, Tryz.ntmps163
  go_wp2_with fail
  refine IX.out.mono ?_
  rintro e w1 ⟨rfl, ⟨rfl, hnone⟩ | ⟨k0, hk0, rfl, hfirst, hhit⟩⟩
  · have NF := hid (show bigs xs = xs from none_filterG hnone)
    clear hnone
    go_wp2_with fail
    go_ret
    exact ⟨_, rfl, by rw [NF.out]; exact HRD.out, fun j hj => ⟨far_own HO.out hj, fun g hg => far_own (HI.out g (List.mem_filter.1 hg).1) hj⟩, HB.out⟩
  · obtain ⟨x0, hx0⟩ := get_some hk0
    have D0 := hid (DelR.start hx0 hfirst (hhit x0 hx0))
    obtain ⟨gb, gcap, hform⟩ : ∃ gb gcap, Value.slice ao xs.length cap = .slice (some ⟨gb, 0, none⟩) xs.length gcap := by
      rcases HO.out.2 with ⟨h1, h2⟩ | ⟨g', cap', cur, hv, _⟩
      · omega
      · exact ⟨g', cap', hv⟩
    simp only [Value.slice.injEq] at hform
    obtain ⟨rfl, -, rfl⟩ := hform
    have hkne : ((k0 : Int) == -1) = false := beq_eq_false_iff_ne.2 (by omega)
    have hgb := HO.out.lt gb rfl
    have hcapn : xs.length ≤ cap := by
      rcases HO.out.2 with ⟨h1, _⟩ | ⟨g', cap', cur, hv, _, _, hnc, _⟩
      · cases h1
      · simp only [Value.slice.injEq] at hv; omega
    have AW := hid (fun (g : Gp) (hg : g ∈ xs) => show g.1.ownBlock ≠ some gb from fun e => by
      rcases HAW.out g hg with h | h
      · rw [h] at e; cases e
      · exact h e)
    clear hfirst hhit hx0
    have k00 : (0 : Int) ≤ (k0 : Int) := by omega
    go_wp2_with fail
    go_loopw [5, 6] (fun i j wr => ∃ (a b : Nat) (dk : List Gp), b ≤ xs.length ∧ i = .int .i64 a ∧ j = .int .i64 b ∧ Hid (DelR xs a b dk) ∧ wr.ownsRow B 37 1 (.slice (some ⟨gb, 0, none⟩) xs.length cap) xs.length (dk.map Prod.fst) ∧ (∀ g ∈ xs, wr.ownsRow B 3 1 g.1 g.2.length (g.2.map encJ)) ∧ Below w0.heap.size w0 wr) (fun _ j _ => xs.length - (intOf j).toNat)
    case atStart => exact ⟨k0, k0 + 1, xs, by omega, rfl, by go_num, D0, HO.out, HI.out, HB.out⟩
    case round =>
      obtain ⟨a, b, dk, hbl, rfl, rfl, D, hown, hinn, hnx⟩ := hrel
      have hsz := hnx.size
      have hab := D.out.lt
      have hdl := D.out.size
      have b0 : (0 : Int) ≤ (b : Int) := by omega
      have a0 : (0 : Int) ≤ (a : Int) := by omega
      by_cases hlt : b < xs.length
      · obtain ⟨x, hx⟩ := get_some hlt
        have hxd : dk[b]? = some x := by rw [D.out.high b (Nat.le_refl _), hx]
        obtain ⟨xo, xcap, hxe⟩ := HX.out x (List.mem_of_getElem? hx)
        have e1 : wr.cell? ⟨gb, b, none⟩ = some (.slice xo x.2.length xcap) := by
          rw [hown.cellAt b (by omega), List.getElem?_map, hxd, ← hxe]; rfl
        have G1 := dup1_anyS xo x.2.length xcap wr
        have HO2 := hid hown
        have HI2 := hid hinn
        have NX := hid hnx
        have HXE := hid hxe
        cases hp : smallG x with
        | true =>
          rw [show decide ((x.2.length : Int) < 2) = true from hp] at G1
          have G2 := hid G1
          have D2 := hid (D.out.skip hx hp)
          clear hp hown hnx hx hxd hinn G1 hxe
          go_wp2_with fail
          refine G2.out.mono ?_
          rintro e w2 ⟨rfl, rfl⟩
          go_wp2_with fail
          go_roundw
          case rel => exact ⟨a, b + 1, dk, by omega, rfl, by go_num, D2, HO2.out, HI2.out, NX.out⟩
          case measure => simp [intOf]; omega
        | false =>
          rw [show decide ((x.2.length : Int) < 2) = false from hp] at G1
          have G2 := hid G1
          have D2 := hid (D.out.keep hx hp)
          obtain ⟨y, hy⟩ := get_some (show a < dk.length by omega)
          have hcell : wr.cell? ⟨gb, a, none⟩ = some y.1 := by rw [hown.cellAt a (by omega), List.getElem?_map, hy]; rfl
          have hfz : wr.frozen? ⟨gb, a, none⟩ = false := hown.frozenAt _
          clear hp hown hnx hx hxd hy hinn G1 hxe
          go_wp2_with fail
          refine G2.out.mono ?_
          rintro e w2 ⟨rfl, rfl⟩
          go_wp2_with fail
          have ST := HO2.out.stored a (.slice xo x.2.length xcap)
          have S1 := hid (show (wr.setCell ⟨gb, a, none⟩ (.slice xo x.2.length xcap)).ownsRow B 37 1 (.slice (some ⟨gb, 0, none⟩) xs.length cap) xs.length ((dk.set a x).map Prod.fst) by rw [List.map_set, HXE.out]; exact ST.1)
          have S2 := hid (NX.out.grown ST.2 NX.out.size (fun j hj => by cases hj; exact Nat.le_trans hB hgb.1))
          have S3 := hid (fun (g : Gp) (hg : g ∈ xs) => show (wr.setCell ⟨gb, a, none⟩ (.slice xo x.2.length xcap)).ownsRow B 3 1 g.1 g.2.length (g.2.map encJ) from ownsRow_setCell_other (HI2.out g hg) (AW.out g hg) _)
          clear ST hcell hfz
          go_roundw
          case rel => exact ⟨a + 1, b + 1, dk.set a x, by omega, by go_num, by go_num, D2, S1.out, S3.out, S2.out⟩
          case measure => simp [intOf]; omega
      · have hbn : b = xs.length := by omega
        have han : a < xs.length := by omega
        have hlow := D.out.low
        rw [hbn, List.take_of_length_le (Nat.le_refl _)] at hlow
        have hfl : (xs.filter (fun x => !smallG x)).length = a := by rw [← hlow, List.length_take]; omega
        have hcl : ∀ ty, (Builtin.clear_ #[163] ty #[.slice (some ⟨gb, a, none⟩) (xs.length - a) (cap - a)]).run Tryz.prog wr = .ok (.tuple #[]) (wr.setCells gb a (List.replicate (xs.length - a) (.slice none 0 0))) := fun ty => Lib.run_clear_slice wr _ _ ty _ undPI (fun w => Tryz.zeroValue37 w) rfl rfl gb a _ _ (by omega)
          (fun t ht => by
            obtain ⟨y, hy⟩ := get_some (show a + t < dk.length by omega)
            rw [hown.cellAt (a + t) (by omega), List.getElem?_map, hy]; rfl)
          (fun t _ => hown.frozenAt _)
        obtain ⟨xs', h1, h2⟩ := own_setCells (List.replicate (xs.length - a) (.slice none 0 0)) a wr _ hown
        have h3 := own_take h1 (k := a) (by omega)
        have FIN : (wr.setCells gb a (List.replicate (xs.length - a) (.slice none 0 0))).ownsRow B 37 1 (.slice (some ⟨gb, 0, none⟩) a cap) (bigs xs).length ((bigs xs).map Prod.fst) := by
          rw [h2, ← List.map_take, hlow] at h3
          show (wr.setCells gb a (List.replicate (xs.length - a) (.slice none 0 0))).ownsRow B 37 1 (.slice (some ⟨gb, 0, none⟩) a cap) (xs.filter (fun x => !smallG x)).length ((xs.filter (fun x => !smallG x)).map Prod.fst)
          rw [hfl]; exact h3
        have RG := hid (show RdG (wr.setCells gb a (List.replicate (xs.length - a) (.slice none 0 0))) (.slice (some ⟨gb, 0, none⟩) a cap) (bigs xs) from
          ⟨RdE.of_owns FIN (by have : (bigs xs).length ≤ xs.length := List.length_filter_le _ _; omega), fun g hg => RdE.of_owns (own_setCells_other (w := wr) (AW.out g (List.mem_filter.1 hg).1) _ _ _ (hinn g (List.mem_filter.1 hg).1)) (by have := HL2.out g (List.mem_filter.1 hg).1; omega)⟩)
        have FG := hid (show FarG B (.slice (some ⟨gb, 0, none⟩) a cap) (bigs xs) from fun j hj => ⟨far_own FIN hj, fun g hg => far_own (hinn g (List.mem_filter.1 hg).1) hj⟩)
        have BF := hid (below_cells gb (Nat.le_trans hB hgb.1) (List.replicate (xs.length - a) (.slice none 0 0)) a hnx)
        have D3 := hid D.out
        clear hlow hfl h1 h2 h3 hown hnx D hbn hdl hinn FIN
        go_wp2_with fail
        go_ret
        exact ⟨_, rfl, RG.out, FG.out, BF.out⟩


theorem dup1_anyA (ao : Option Addr) (n cap : Nat) (w : World) :
    Calls Tryz.prog 164 #[.slice ao n cap] w fun e w' => e = .returned (.bool (decide ((n : Int) < 2))) ∧ w = w' := by
  go_enter Tryz.func164, Tryz.ntmps164
  go_wp2
  go_ret
  exact ⟨rfl, rfl⟩
theorem indexG_anyA (xs : List Gp) (v : Value) (w : World) (hv : RdE Prod.fst w v xs) (hx : ∀ g ∈ xs, ∃ ao cap, g.1 = .slice ao g.2.length cap) :
    Calls Tryz.prog 185 #[v, .func (.func 164) #[] #[]] w (IdxPostPI xs w) := by
  obtain ⟨ao, cap, rfl, h2, hc⟩ := hv.split
  have HC := hid hc
  have HX := hid hx
  have eg := enters _ _ _ Tryz.func164 (by kernel_rfl) rfl
  clear hc hv hx
  go_enter Tryz.func185, Tryz.ntmps185
  go_wp2
  go_loopw [5, 8] (fun _ i wr => ∃ k : Nat, k ≤ xs.length ∧ i = .int .i64 k ∧ Hid ((xs.take k).any smallG = false) ∧ w = wr) (fun _ i _ => xs.length - (intOf i).toNat)
  case atStart => exact ⟨0, Nat.zero_le _, rfl, hid rfl, rfl⟩
  case round =>
    obtain ⟨k, hk, rfl, H, rfl⟩ := hrel
    by_cases hlt : k < xs.length
    · obtain ⟨x, hx⟩ := get_some hlt
      obtain ⟨b, off, rfl, hd⟩ := HC.out k x hx
      have e1 := hd w (Below.refl _ _)
      obtain ⟨xo, xcap, hxe⟩ := HX.out x (List.mem_of_getElem? hx)
      rw [hxe] at e1
      have X := hid hx
      have G1 := dup1_anyA xo x.2.length xcap w
      clear hd hx hxe
      cases hp : smallG x with
      | true =>
        rw [show decide ((x.2.length : Int) < 2) = true from hp] at G1
        have G2 := hid G1
        have P1 := hid hp
        clear hp G1
        go_wp2_with fail
        refine G2.out.mono ?_
        rintro e w2 ⟨rfl, rfl⟩
        go_wp2_with fail
        go_ret
        exact ⟨rfl, .inr ⟨k, hlt, rfl, H.out, fun y hy => by rw [X.out] at hy; cases hy; exact P1.out⟩⟩
      | false =>
        rw [show decide ((x.2.length : Int) < 2) = false from hp] at G1
        have G2 := hid G1
        have P1 := hid hp
        clear hp G1
        go_wp2_with fail
        refine G2.out.mono ?_
        rintro e w2 ⟨rfl, rfl⟩
        go_wp2_with fail
        go_roundw
        case rel => exact ⟨k + 1, by omega, by go_num, hid (none_nextG X.out P1.out H.out), by first | rfl | trivial⟩
        case measure => simp [intOf]; omega
    · have HE : xs.any smallG = false := by have h := H.out; rwa [List.take_of_length_le (by omega)] at h
      go_wp2
      go_ret
      exact ⟨rfl, .inl ⟨rfl, HE⟩⟩


set_option maxHeartbeats 1600000 in
theorem deleteG_anyA (B : Nat) (xs : List Gp) (v : Value) (w w0 : World) (hb : Below w0.heap.size w0 w) (hB : w0.heap.size ≤ B) (ho : OwnGr w B 37 3 v xs) (hl : xs.length ≤ 100000) (hl2 : ∀ g ∈ xs, g.2.length ≤ 100000) :
    Calls Tryz.prog 163 #[v, .func (.func 164) #[] #[]] w fun e w' => ∃ v', e = .returned v' ∧ RdG w' v' (bigs xs) ∧ FarG B v' (bigs xs) ∧ Below w0.heap.size w0 w' := by
  have hx : ∀ g ∈ xs, ∃ ao cap, g.1 = .slice ao g.2.length cap := fun g hg => own_slicePI (ho.inner g hg)
  have IX := hid (indexG_anyA xs v w (RdE.of_owns ho.outer (by omega)) hx)
  have eg := enters _ _ _ Tryz.func164 (by kernel_rfl) rfl
  have HB := hid hb
  have hs0 := hb.size
  have HX := hid hx
  have HL2 := hid hl2
  have HRD := hid (ho.rd hl hl2)
  obtain ⟨hown, hinn, -, haway⟩ := ho
  have HO := hid hown
  have HI := hid hinn
  have HAW := hid haway
  obtain ⟨ao, cap, rfl, -⟩ := (RdE.of_owns hown (by omega)).split
  clear hb hown hx hl2 hinn haway
  go_enter Tryz.func163, Tryz.ntmps163
  go_wp2_with fail
  refine IX.out.mono ?_
  rintro e w1 ⟨rfl, ⟨rfl, hnone⟩ | ⟨k0, hk0, rfl, hfirst, hhit⟩⟩
  · have NF := hid (show bigs xs = xs from none_filterG hnone)
    clear hnone
    go_wp2_with fail
    go_ret
    exact ⟨_, rfl, by rw [NF.out]; exact HRD.out, fun j hj => ⟨far_own HO.out hj, fun g hg => far_own (HI.out g (List.mem_filter.1 hg).1) hj⟩, HB.out⟩
  · obtain ⟨x0, hx0⟩ := get_some hk0
    have D0 := hid (DelR.start hx0 hfirst (hhit x0 hx0))
    obtain ⟨gb, gcap, hform⟩ : ∃ gb gcap, Value.slice ao xs.length cap = .slice (some ⟨gb, 0, none⟩) xs.length gcap := by
      rcases HO.out.2 with ⟨h1, h2⟩ | ⟨g', cap', cur, hv, _⟩
      · omega
      · exact ⟨g', cap', hv⟩
    simp only [Value.slice.injEq] at hform
    obtain ⟨rfl, -, rfl⟩ := hform
    have hkne : ((k0 : Int) == -1) = false := beq_eq_false_iff_ne.2 (by omega)
    have hgb := HO.out.lt gb rfl
    have hcapn : xs.length ≤ cap := by
      rcases HO.out.2 with ⟨h1, _⟩ | ⟨g', cap', cur, hv, _, _, hnc, _⟩
      · cases h1
      · simp only [Value.slice.injEq] at hv; omega
    have AW := hid (fun (g : Gp) (hg : g ∈ xs) => show g.1.ownBlock ≠ some gb from fun e => by
      rcases HAW.out g hg with h | h
      · rw [h] at e; cases e
      · exact h e)
    clear hfirst hhit hx0
    have k00 : (0 : Int) ≤ (k0 : Int) := by omega
    go_wp2_with fail
    go_loopw [5, 6] (fun i j wr => ∃ (a b : Nat) (dk : List Gp), b ≤ xs.length ∧ i = .int .i64 a ∧ j = .int .i64 b ∧ Hid (DelR xs a b dk) ∧ wr.ownsRow B 37 1 (.slice (some ⟨gb, 0, none⟩) xs.length cap) xs.length (dk.map Prod.fst) ∧ (∀ g ∈ xs, wr.ownsRow B 3 1 g.1 g.2.length (g.2.map encJ)) ∧ Below w0.heap.size w0 wr) (fun _ j _ => xs.length - (intOf j).toNat)
    case atStart => exact ⟨k0, k0 + 1, xs, by omega, rfl, by go_num, D0, HO.out, HI.out, HB.out⟩
    case round =>
      obtain ⟨a, b, dk, hbl, rfl, rfl, D, hown, hinn, hnx⟩ := hrel
      have hsz := hnx.size
      have hab := D.out.lt
      have hdl := D.out.size
      have b0 : (0 : Int) ≤ (b : Int) := by omega
      have a0 : (0 : Int) ≤ (a : Int) := by omega
      by_cases hlt : b < xs.length
      · obtain ⟨x, hx⟩ := get_some hlt
        have hxd : dk[b]? = some x := by rw [D.out.high b (Nat.le_refl _), hx]
        obtain ⟨xo, xcap, hxe⟩ := HX.out x (List.mem_of_getElem? hx)
        have e1 : wr.cell? ⟨gb, b, none⟩ = some (.slice xo x.2.length xcap) := by
          rw [hown.cellAt b (by omega), List.getElem?_map, hxd, ← hxe]; rfl
        have G1 := dup1_anyA xo x.2.length xcap wr
        have HO2 := hid hown
        have HI2 := hid hinn
        have NX := hid hnx
        have HXE := hid hxe
        cases hp : smallG x with
        | true =>
          rw [show decide ((x.2.length : Int) < 2) = true from hp] at G1
          have G2 := hid G1
          have D2 := hid (D.out.skip hx hp)
          clear hp hown hnx hx hxd hinn G1 hxe
          go_wp2_with fail
          refine G2.out.mono ?_
          rintro e w2 ⟨rfl, rfl⟩
          go_wp2_with fail
          go_roundw
          case rel => exact ⟨a, b + 1, dk, by omega, rfl, by go_num, D2, HO2.out, HI2.out, NX.out⟩
          case measure => simp [intOf]; omega
        | false =>
          rw [show decide ((x.2.length : Int) < 2) = false from hp] at G1
          have G2 := hid G1
          have D2 := hid (D.out.keep hx hp)
          obtain ⟨y, hy⟩ := get_some (show a < dk.length by omega)
          have hcell : wr.cell? ⟨gb, a, none⟩ = some y.1 := by rw [hown.cellAt a (by omega), List.getElem?_map, hy]; rfl
          have hfz : wr.frozen? ⟨gb, a, none⟩ = false := hown.frozenAt _
          clear hp hown hnx hx hxd hy hinn G1 hxe
          go_wp2_with fail
          refine G2.out.mono ?_
          rintro e w2 ⟨rfl, rfl⟩
          go_wp2_with fail
          have ST := HO2.out.stored a (.slice xo x.2.length xcap)
          have S1 := hid (show (wr.setCell ⟨gb, a, none⟩ (.slice xo x.2.length xcap)).ownsRow B 37 1 (.slice (some ⟨gb, 0, none⟩) xs.length cap) xs.length ((dk.set a x).map Prod.fst) by rw [List.map_set, HXE.out]; exact ST.1)
          have S2 := hid (NX.out.grown ST.2 NX.out.size (fun j hj => by cases hj; exact Nat.le_trans hB hgb.1))
          have S3 := hid (fun (g : Gp) (hg : g ∈ xs) => show (wr.setCell ⟨gb, a, none⟩ (.slice xo x.2.length xcap)).ownsRow B 3 1 g.1 g.2.length (g.2.map encJ) from ownsRow_setCell_other (HI2.out g hg) (AW.out g hg) _)
          clear ST hcell hfz
          go_roundw
          case rel => exact ⟨a + 1, b + 1, dk.set a x, by omega, by go_num, by go_num, D2, S1.out, S3.out, S2.out⟩
          case measure => simp [intOf]; omega
      · have hbn : b = xs.length := by omega
        have han : a < xs.length := by omega
        have hlow := D.out.low
        rw [hbn, List.take_of_length_le (Nat.le_refl _)] at hlow
        have hfl : (xs.filter (fun x => !smallG x)).length = a := by rw [← hlow, List.length_take]; omega
        have hcl : ∀ ty, (Builtin.clear_ #[163] ty #[.slice (some ⟨gb, a, none⟩) (xs.length - a) (cap - a)]).run Tryz.prog wr = .ok (.tuple #[]) (wr.setCells gb a (List.replicate (xs.length - a) (.slice none 0 0))) := fun ty => Lib.run_clear_slice wr _ _ ty _ undPI (fun w => Tryz.zeroValue37 w) rfl rfl gb a _ _ (by omega)
          (fun t ht => by
            obtain ⟨y, hy⟩ := get_some (show a + t < dk.length by omega)
            rw [hown.cellAt (a + t) (by omega), List.getElem?_map, hy]; rfl)
          (fun t _ => hown.frozenAt _)
        obtain ⟨xs', h1, h2⟩ := own_setCells (List.replicate (xs.length - a) (.slice none 0 0)) a wr _ hown
        have h3 := own_take h1 (k := a) (by omega)
        have FIN : (wr.setCells gb a (List.replicate (xs.length - a) (.slice none 0 0))).ownsRow B 37 1 (.slice (some ⟨gb, 0, none⟩) a cap) (bigs xs).length ((bigs xs).map Prod.fst) := by
          rw [h2, ← List.map_take, hlow] at h3
          show (wr.setCells gb a (List.replicate (xs.length - a) (.slice none 0 0))).ownsRow B 37 1 (.slice (some ⟨gb, 0, none⟩) a cap) (xs.filter (fun x => !smallG x)).length ((xs.filter (fun x => !smallG x)).map Prod.fst)
          rw [hfl]; exact h3
        have RG := hid (show RdG (wr.setCells gb a (List.replicate (xs.length - a) (.slice none 0 0))) (.slice (some ⟨gb, 0, none⟩) a cap) (bigs xs) from
          ⟨RdE.of_owns FIN (by have : (bigs xs).length ≤ xs.length := List.length_filter_le _ _; omega), fun g hg => RdE.of_owns (own_setCells_other (w := wr) (AW.out g (List.mem_filter.1 hg).1) _ _ _ (hinn g (List.mem_filter.1 hg).1)) (by have := HL2.out g (List.mem_filter.1 hg).1; omega)⟩)
        have FG := hid (show FarG B (.slice (some ⟨gb, 0, none⟩) a cap) (bigs xs) from fun j hj => ⟨far_own FIN hj, fun g hg => far_own (hinn g (List.mem_filter.1 hg).1) hj⟩)
        have BF := hid (below_cells gb (Nat.le_trans hB hgb.1) (List.replicate (xs.length - a) (.slice none 0 0)) a hnx)
        have D3 := hid D.out
        clear hlow hfl h1 h2 h3 hown hnx D hbn hdl hinn FIN
        go_wp2_with fail
        go_ret
        exact ⟨_, rfl, RG.out, FG.out, BF.out⟩



end Go.Proofs.YtgahpgmagfngfaaGreatDoor


/- partition.groups: the classes of a list of keys; at strings and at pairs of numbers. -/
namespace Go.Proofs.YtgahpgmagfngfaaGreatDoor
open Go.RowKit
set_option linter.unusedVariables false

/-- Pairs of numbers as keys. -/
def inI (n : Int) : Prop := -9223372036854775808 ≤ n ∧ n < 9223372036854775808
instance (n : Int) : Decidable (inI n) := by unfold inI; infer_instance
abbrev PK := { p : Int × Int // inI p.1 ∧ inI p.2 }
theorem undIA : Tryz.prog.underlying 3 = some (.int .i64) := by kernel_rfl
theorem arrK : Go.WideMaps.ArrKey Tryz.prog 206 3 2 := ⟨by kernel_rfl, by kernel_rfl, by kernel_rfl, by kernel_rfl⟩
theorem laidA : laidOutB Tryz.prog = true := by kernel_rfl
theorem rowA : (206 : TypeId) < Tryz.prog.types.size := of_decide_eq_true (by kernel_rfl)
theorem lawA : Go.WideMaps.KeyLaw Tryz.prog 206 := Go.deep_law_laid laidA (m := 2) (by omega) rowA (by kernel_rfl) (by rw [arrK.hu])
theorem sizA : ∃ m, Tryz.prog.types.size = m + 1 := Nat.exists_eq_succ_of_ne_zero (Nat.ne_of_gt (Nat.lt_of_le_of_lt (Nat.zero_le _) rowA))
theorem wfI {n : Int} (h : inI n) : (Lit.int .i64 n).wf = true := WalkArith.wf_i64 (by unfold inI at h; omega)
def valA (p : PK) : Value := .agg #[.int .i64 p.1.1, .int .i64 p.1.2]
theorem keyA (p : PK) : keyOf Tryz.prog 206 (valA p) = some (.string (keyBytes [.int .i64 p.1.1, .int .i64 p.1.2])) := Go.WideMaps.keyOf_pair arrK undIA sizA (wfI p.2.1) (wfI p.2.2)
def arrKeys : KeyE Tryz.prog 206 PK where
  law := Go.Maps.Keyed.of_law lawA
  val := valA
  lit p := .string (keyBytes [.int .i64 p.1.1, .int .i64 p.1.2])
  key := keyA
  inj x y h := by
    have h1 := keyA x
    rw [h, ← keyA y] at h1
    have h2 : valA x = valA y := lawA.inj (keyA x) (by rw [keyA y, ← h])
    unfold valA at h2
    simp only [Value.agg.injEq, Array.mk.injEq, List.cons.injEq, Value.int.injEq, true_and, and_true] at h2
    exact Subtype.ext (Prod.ext h2.1 h2.2)
def cA2 (p : PK) : List Value := [.int .i64 p.1.1, .int .i64 p.1.2]
theorem cA2_length (p : PK) : (cA2 p).length = 2 := rfl
theorem undStrPt : Tryz.prog.underlying 9 = some .string := by kernel_rfl
def valS (s : KS) : Value := .string s.1
theorem undMapPS : Tryz.prog.underlying 116 = some (.map 9 3) := by kernel_rfl
theorem undMapA : Tryz.prog.underlying 228 = some (.map 206 3) := by kernel_rfl
abbrev OwnPS := OwnG (strKeys (P := Tryz.prog) (k := 9) undStrPt) (.int .i64 0)
abbrev OwnPA := OwnG arrKeys (.int .i64 0)

set_option maxHeartbeats 6400000 in
set_option maxRecDepth 100000 in
theorem groupsS_any (ks : List KS) (v : Value) (w : World) (hv : RdE valS w v ks) (hl : ks.length ≤ 1000) :
    Calls Tryz.prog 162 #[v] w fun e w' => ∃ (v' : Value) (gs : List Gp), e = .returned v' ∧ RdG w' v' gs ∧ gs.map (·.2) = clsK ks ∧ FarG w.heap.size v' gs ∧ Below w.heap.size w w' := by
  obtain ⟨ko, kcap, rfl, -, hkc⟩ := hv.split
  have KC := hid hkc
  clear hkc
  unfold valS at KC
  have RES := hid (show ∀ gs : List Gp, gs.map (·.2) = grpOf (ixL ks) → (bigs gs).map (·.2) = clsK ks from fun gs h => by rw [bigs_map, h]; rfl)
  have LBA := hid (fun (k : Nat) (x : KS) (h : ks[k]? = some x) => ixL_at h)
  have LBL := hid (ixL_length ks)
  generalize clsK ks = BG at *
  obtain ⟨LB, hLB⟩ : ∃ LB : List (KS × Int), ixL ks = LB := ⟨_, rfl⟩
  rw [hLB] at RES LBL
  have LBA2 : Hid (∀ (k : Nat) (x : KS), ks[k]? = some x → LB[k]? = some (x, (k : Int))) := hid (by rw [← hLB]; exact LBA.out)
  have HLK := hid hl
  clear LBA hLB hl
  have hmm := @run_makeMap Tryz.prog
  have hm0 := OwnG.made (strKeys (P := Tryz.prog) (k := 9) undStrPt) (.int .i64 0) w
  have n1 := below_alloc w (.map #[] 0)
  have HM0 := hid hm0
  have NX1 := hid n1
  clear hm0 n1 hv
  go_enter Tryz.func162, Tryz.ntmps162
  go_wp2_with fail
  go_loopw [4, 12] (fun u i wr => ∃ (k : Nat) (gs : List Gp), k ≤ ks.length ∧ i = .int .i64 k ∧ OwnPS wr w.heap.size gs.length (placeV (dedK ((LB.take k).map (·.1)))) (hasK (dedK ((LB.take k).map (·.1)))) ∧ OwnGr wr (w.heap.size + 1) 37 3 u gs ∧ Hid (gs.map (·.2) = grpOf (LB.take k)) ∧ Below w.heap.size w wr) (fun _ i _ => ks.length - (intOf i).toNat)
  case atStart => exact ⟨0, [], Nat.zero_le _, rfl, HM0.out.congr (fun s => by rw [List.take_zero]; rfl) (fun s => by rw [List.take_zero]; rfl), OwnGr.nil _ _ _ _, hid (by rw [List.take_zero]; rfl), NX1.out⟩
  case round =>
    obtain ⟨wo, rfl⟩ : ∃ wo : World, wo = wr := ⟨_, rfl⟩
    obtain ⟨i, gs, hk, rfl, hmap, hgr, HG, hnx⟩ := hrel
    have hsz := hnx.size
    have i0 : (0 : Int) ≤ (i : Int) := by omega
    have i9 : (i : Int) ≤ 1000 := by have := HLK.out; omega
    have HGL0 := hid (show gs.length ≤ i by have h := congrArg List.length HG.out; rw [List.length_map] at h; have h2 := grpOf_length (LB.take i); have h3 := List.length_take_le i LB; omega)
    have HGE := hid (show ∀ g ∈ gs, g.2.length ≤ 1000 from fun g hg => by
      have h1 : g.2 ∈ grpOf (LB.take i) := by rw [← HG.out]; exact List.mem_map.2 ⟨g, hg, rfl⟩
      have h2 := grpOf_bound h1
      have h3 := List.length_take_le i LB
      omega)
    by_cases hlt : i < ks.length
    · obtain ⟨K, hr⟩ := get_some hlt
      obtain ⟨b, off, rfl, hd⟩ := KC.out i K hr
      have e0 := hd wo hnx
      clear hd
      have HLT := hid hlt
      have LB1 := hid (show LB[i]? = some (K, (i : Int)) from LBA2.out i _ hr)
      have NXQ := hid (show Below w.heap.size w wo from hnx)
      have MPQ := hid (show OwnPS wo w.heap.size _ _ _ from hmap)
      have GRQ := hid (show OwnGr wo (w.heap.size + 1) 37 3 _ gs from hgr)
      obtain ⟨go, gcap, hge⟩ := own_slicePI hgr.outer
      subst hge
      have TN := hid (take_next LB1.out)
      obtain ⟨L, hL⟩ : ∃ L, LB.take i = L := ⟨_, rfl⟩
      rw [hL] at TN HG MPQ
      clear hr hmap hgr hnx hL hlt hk
      by_cases hmem : K ∈ dedK (L.map (·.1))
      · have HPP := hid (show hasK (dedK (L.map (·.1))) K = true from hasK_in hmem)
        have HAT := grpOf_at hmem
        obtain ⟨OLD, HDK⟩ := grpOf_old (i : Int) hmem
        have HFV := hid (placeV_in hmem)
        have PLT := posK_lt hmem
        have DL : (dedK (L.map (·.1))).length = gs.length := by
          have h := congrArg List.length HG.out
          rw [List.length_map] at h
          rw [h]; unfold grpOf; rw [List.length_map]
        obtain ⟨p, hp⟩ : ∃ p, posK (dedK (L.map (·.1))) K = p := ⟨_, rfl⟩
        rw [hp] at HAT OLD HFV PLT
        rw [← HG.out, List.getElem?_map] at HAT
        obtain ⟨⟨gv, gl⟩, hpos⟩ := get_some (show p < gs.length by omega)
        rw [hpos] at HAT
        simp only [Option.map_some, Option.some.injEq] at HAT
        have HPOS := hid hpos
        have HPL := hid (show p < gs.length by omega)
        have FG := hid (fun (v8 : Value) => show Hid ((gs.set p (v8, gl ++ [(i : Int)])).map (·.2) = grpOf (L ++ [(K, (i : Int))])) from hid (by rw [OLD, ← HAT, ← HG.out, List.map_set]))
        have MPW := hid (show OwnPS wo w.heap.size gs.length (placeV (dedK ((L ++ [(K, (i : Int))]).map (·.1)))) (hasK (dedK ((L ++ [(K, (i : Int))]).map (·.1)))) by rw [HDK]; exact MPQ.out)
        obtain ⟨o, gcap', hform⟩ := own_formK GRQ.out.outer (by omega)
        simp only [Value.slice.injEq, true_and] at hform
        obtain ⟨rfl, rfl⟩ := hform
        have OWG := GRQ
        have NXW := NXQ
        have HGL := hid (show gl.length ≤ 1000 from HGE.out _ (List.mem_of_getElem? hpos))
        clear hmem HAT OLD HDK PLT DL hp hpos
        have gcell0 : wo.cell? ⟨o, p, none⟩ = some gv := by rw [OWG.out.outer.cellAt p (by have := HPL.out; omega), List.getElem?_map, HPOS.out]; rfl
        have pn : (p : Int) < (gs.length : Int) := by have := HPL.out; omega
        have p0 : (0 : Int) ≤ (p : Int) := by omega
        have GMEM := hid (List.mem_of_getElem? HPOS.out)
        have GI := hid (show wo.ownsRow (w.heap.size + 1) 3 1 gv gl.length (gl.map encJ) from OWG.out.inner _ GMEM.out)
        obtain ⟨gvo, gvcap, hgf⟩ := own_slicePI GI.out
        subst hgf
        have HGNE := hid (show (Value.slice gvo gl.length gvcap).ownBlock ≠ some o from fun e => by
          rcases OWG.out.away _ GMEM.out with h | h
          · rw [show (Value.slice gvo gl.length gvcap).ownBlock = none from h] at e; cases e
          · exact h e)
        have HO1 := hid (OWG.out.outer.lt o rfl)
        have gcell : wo.cell? ⟨o, p, none⟩ = some (.slice gvo gl.length gvcap) := gcell0
        clear gcell0
        have XB := hid (show Below wo.heap.size wo (wo.alloc (.cells #[.int .i64 (i : Int)] 3)) from below_alloc _ _)
        have GI2 := hid (own_below GI.out XB.out)
        have OWG2 := hid (OWG.out.below XB.out)
        have NX2 := hid (NXW.out.trans (XB.out.mono NXW.out.size))
        have MP2 := hid (MPW.out.below XB.out)
        have SZW := hid (show w.heap.size + 1 ≤ (wo.alloc (.cells #[.int .i64 (i : Int)] 3)).heap.size by have := HO1.out; have := XB.out.size; omega)
        have CN := hid (show (wo.alloc (.cells #[.int .i64 (i : Int)] 3)).cell? ⟨wo.heap.size, 0, none⟩ = some (encJ (i : Int)) from cell_new (w := wo))
        have gcell2 : (wo.alloc (.cells #[.int .i64 (i : Int)] 3)).cell? ⟨o, p, none⟩ = some (.slice gvo gl.length gvcap) := ((below_alloc wo (.cells #[.int .i64 (i : Int)] 3)).cell (p := ⟨o, p, none⟩) HO1.out.2).trans gcell
        go_wp2_with (first | (at_lookup; refine wpList_glook_ok (E := strKeys (P := Tryz.prog) (k := 9) undStrPt) (z := .int .i64 0) (f := placeV (dedK (L.map (·.1)))) (p := hasK (dedK (L.map (·.1)))) (n := gs.length) (b := w.heap.size) (e := 3) rfl _ _ 116 rfl undMapPS (Tryz.zeroValue3 _) rfl MPQ.out K rfl ?_; rw [HFV.out, HPP.out]) | (at_builtin; refine wpList_pushE rfl _ _ 37 rfl (w.heap.size + 1) 3 (.int .i64 0) 8 undPJ infoPJ rfl (by decide) encJ _ gl rfl GI2.out ⟨wo.heap.size, 0, none⟩ (i : Int) rfl rfl CN.out (by have := HGL.out; omega) SZW.out ?_))
        intro v8 w8 hown8 hg8 hv8
        obtain ⟨ao8, n8, cap8, rfl⟩ := own_sliceN hown8
        have ho8 := OWG2.out.outer.kept hg8 (.inr (fun e => HGNE.out e.symm))
        have hc8 := (ho8.cellAt p (by have := HPL.out; omega)).trans (show (gs.map Prod.fst)[p]? = some (.slice gvo gl.length gvcap) by rw [List.getElem?_map, HPOS.out]; rfl)
        have hf8 : w8.frozen? ⟨o, p, none⟩ = false := ho8.frozenAt _
        have OG9 := hid (OwnGr.add (x := (i : Int)) OWG2.out HPOS.out (by simpa using hown8) hg8 (hv8.imp id fun h => by simpa using h) rfl)
        have ST9 := (ho8.stored p (.slice ao8 n8 cap8)).2
        have MP8 := MP2.out.kept hg8 (fun e => by have := (GI2.out.lt _ e.symm).1; omega)
        have MP9 := hid (MP8.kept ST9 (by intro e; have := HO1.out.1; simp at e; omega))
        have NX8 := NX2.out.grown hg8 NX2.out.size (fun j hj => by have := (GI2.out.lt j hj).1; omega)
        have NX9 := hid (NX8.grown ST9 NX8.size (fun j hj => by have h1 := HO1.out.1; simp at hj; omega))
        have HG9 := hid (FG.out (.slice ao8 n8 cap8))
        clear hown8 hg8 hv8 ho8 ST9 MP8 NX8 gcell gcell2
        go_wp2_with fail
        go_roundw
        case rel => exact ⟨i + 1, gs.set p (.slice ao8 n8 cap8, gl ++ [(i : Int)]), by have := HLT.out; omega, by go_num, by rw [List.length_set, TN.out]; exact MP9.out, OG9.out, by rw [TN.out]; exact HG9, NX9.out⟩
        case measure => have := HLT.out; simp [intOf]; omega
      · have HPP := hid (show hasK (dedK (L.map (·.1))) K = false from hasK_out hmem)
        obtain ⟨NEW, HDK⟩ := grpOf_new (i : Int) hmem
        have HFV := hid (show placeV (dedK (L.map (·.1))) K = .int .i64 0 from if_neg hmem)
        have DL : (dedK (L.map (·.1))).length = gs.length := by
          have h := congrArg List.length HG.out
          rw [List.length_map] at h
          rw [h]; unfold grpOf; rw [List.length_map]
        have PV := hid (fun (s : KS) => show (if s = K then Value.int .i64 (gs.length : Nat) else placeV (dedK (L.map (·.1))) s) = placeV (dedK ((L ++ [(K, (i : Int))]).map (·.1))) s by rw [HDK, ← placeV_new hmem s, DL])
        have PD := hid (fun (s : KS) => show (if s = K then true else hasK (dedK (L.map (·.1))) s) = hasK (dedK ((L ++ [(K, (i : Int))]).map (·.1))) s by rw [HDK, hasK_snoc])
        have GSM := hid (show (gs ++ [((.slice none 0 0, []) : Gp)])[gs.length]? = some (.slice none 0 0, []) by simp)
        have FG0 := hid (fun (v8 : Value) => show Hid (((gs ++ [((.slice none 0 0, []) : Gp)]).set gs.length (v8, [] ++ [(i : Int)])).map (·.2) = grpOf (L ++ [(K, (i : Int))])) from hid (by rw [NEW, ← HG.out]; simp))
        clear hmem NEW HDK DL
        have hgl0 : gs.length ≤ 1000 := by have := HGL0.out; omega
        have HGLX := hid hgl0
        go_wp2_with (first
          | (at_lookup; refine wpList_glook_ok (E := strKeys (P := Tryz.prog) (k := 9) undStrPt) (z := .int .i64 0) (f := placeV (dedK (L.map (·.1)))) (p := hasK (dedK (L.map (·.1)))) (n := gs.length) (b := w.heap.size) (e := 3) rfl _ _ 116 rfl undMapPS (Tryz.zeroValue3 _) rfl MPQ.out K rfl ?_; rw [HFV.out, HPP.out])
          | (at_mapUpdate; refine wpList_gput (E := strKeys (P := Tryz.prog) (k := 9) undStrPt) (e := 3) rfl _ _ _ 116 rfl undMapPS rfl MPQ.out (by have := HGLX.out; unfold maxLen; omega) K (.int .i64 (gs.length : Int)) rfl rfl ?_))
        intro w4 hm4 hg4
        have GR4 : OwnGr w4 (w.heap.size + 1) 37 3 (.slice go gs.length gcap) gs := GRQ.out.kept hg4 (fun k hk => by cases hk; omega)
        have nx4 : Below w.heap.size w w4 := NXQ.out.grown hg4 NXQ.out.size (fun j hj => by cases hj; exact Nat.le_refl _)
        have MP4 := hid (show OwnPS w4 w.heap.size (gs.length + 1) (placeV (dedK ((L ++ [(K, (i : Int))]).map (·.1)))) (hasK (dedK ((L ++ [(K, (i : Int))]).map (·.1)))) from hm4.congr (fun s => PV.out s) (fun s => PD.out s))
        have HGR4 := hid GR4
        have NX4 := hid nx4
        have HSZ4 := hid (show w.heap.size + 1 ≤ w4.heap.size from MP4.out.lt)
        clear hm4 hg4 GR4 nx4 PV PD
        go_wp2_with (at_builtin; refine wpList_pushE rfl _ _ 163 rfl (w.heap.size + 1) 37 (.slice none 0 0) 24 undPI infoPI rfl (by decide) (Prod.fst : Gp → Value) _ gs rfl (HGR4.out.outer.alloc _) ⟨w4.heap.size, 0, none⟩ ((.slice none 0 0, []) : Gp) rfl rfl (by simp) (by have := HGLX.out; omega) (by have := HSZ4.out; simp; omega) ?_)
        intro v5 w5 hown5 hg5 hl5
        have b5 := below_alloc w4 (.cells #[.slice none 0 0] 37)
        have GR5 := (HGR4.out.below b5).push (by simpa using hown5) hg5 (hl5.imp id fun h => by simpa using h)
        have HNB := hid (fun (j : Nat) (e : (Value.slice go gs.length gcap).ownBlock = some j) => HGR4.out.outer.lt j e)
        have hm6 := (MP4.out.below b5).kept hg5 (by
          intro e
          have := (HNB.out _ e.symm).1
          omega)
        have nx6 := below_push NX4.out NX4.out.size (own_mono HGR4.out.outer (show w.heap.size ≤ w.heap.size + 1 by omega)) hg5
        obtain ⟨gs1, hgs1⟩ : ∃ gs1, gs ++ [((.slice none 0 0, []) : Gp)] = gs1 := ⟨_, rfl⟩
        have GLN := hid (show gs1.length = gs.length + 1 by rw [← hgs1]; simp)
        rw [hgs1] at GR5 GSM FG0
        obtain ⟨o, gcap', hform⟩ := own_formK GR5.outer (by have := GLN.out; omega)
        subst hform
        obtain ⟨p, hp⟩ : ∃ p, gs.length = p := ⟨_, rfl⟩
        have HPOS := hid GSM.out
        have HPL := hid (show gs.length < gs1.length by have := GLN.out; omega)
        have MPW := hid (show OwnPS w5 w.heap.size gs1.length (placeV (dedK ((L ++ [(K, (i : Int))]).map (·.1)))) (hasK (dedK ((L ++ [(K, (i : Int))]).map (·.1)))) by rw [GLN.out]; exact hm6)
        have OWG := hid GR5
        have NXW := hid nx6
        obtain ⟨gv, hgv⟩ : ∃ gv : Value, .slice none 0 0 = gv := ⟨_, rfl⟩
        obtain ⟨gl, hgl⟩ : ∃ gl : List Int, [] = gl := ⟨_, rfl⟩
        rw [hgv, hgl] at HPOS
        have FG := hid (fun (v8 : Value) => show Hid ((gs1.set gs.length (v8, gl ++ [(i : Int)])).map (·.2) = grpOf (L ++ [(K, (i : Int))])) by rw [← hgl]; exact FG0.out v8)
        have HGL := hid (show gl.length ≤ 1000 by rw [← hgl]; simp)
        rw [hp] at HPOS HPL FG
        clear hown5 hg5 hl5 b5 GR5 HNB hm6 nx6 hgs1 GSM FG0 hgl GLN NX4 MP4 HGR4
        rw [hp]
        clear hgv hp
        have gcell0 : w5.cell? ⟨o, p, none⟩ = some gv := by rw [OWG.out.outer.cellAt p (by have := HPL.out; omega), List.getElem?_map, HPOS.out]; rfl
        have pn : (p : Int) < (gs1.length : Int) := by have := HPL.out; omega
        have p0 : (0 : Int) ≤ (p : Int) := by omega
        have GMEM := hid (List.mem_of_getElem? HPOS.out)
        have GI := hid (show w5.ownsRow (w.heap.size + 1) 3 1 gv gl.length (gl.map encJ) from OWG.out.inner _ GMEM.out)
        obtain ⟨gvo, gvcap, hgf⟩ := own_slicePI GI.out
        subst hgf
        have HGNE := hid (show (Value.slice gvo gl.length gvcap).ownBlock ≠ some o from fun e => by
          rcases OWG.out.away _ GMEM.out with h | h
          · rw [show (Value.slice gvo gl.length gvcap).ownBlock = none from h] at e; cases e
          · exact h e)
        have HO1 := hid (OWG.out.outer.lt o rfl)
        have gcell : w5.cell? ⟨o, p, none⟩ = some (.slice gvo gl.length gvcap) := gcell0
        clear gcell0
        have XB := hid (show Below w5.heap.size w5 (w5.alloc (.cells #[.int .i64 (i : Int)] 3)) from below_alloc _ _)
        have GI2 := hid (own_below GI.out XB.out)
        have OWG2 := hid (OWG.out.below XB.out)
        have NX2 := hid (NXW.out.trans (XB.out.mono NXW.out.size))
        have MP2 := hid (MPW.out.below XB.out)
        have SZW := hid (show w.heap.size + 1 ≤ (w5.alloc (.cells #[.int .i64 (i : Int)] 3)).heap.size by have := HO1.out; have := XB.out.size; omega)
        have CN := hid (show (w5.alloc (.cells #[.int .i64 (i : Int)] 3)).cell? ⟨w5.heap.size, 0, none⟩ = some (encJ (i : Int)) from cell_new (w := w5))
        have gcell2 : (w5.alloc (.cells #[.int .i64 (i : Int)] 3)).cell? ⟨o, p, none⟩ = some (.slice gvo gl.length gvcap) := ((below_alloc w5 (.cells #[.int .i64 (i : Int)] 3)).cell (p := ⟨o, p, none⟩) HO1.out.2).trans gcell
        go_wp2_with (at_builtin; refine wpList_pushE rfl _ _ 37 rfl (w.heap.size + 1) 3 (.int .i64 0) 8 undPJ infoPJ rfl (by decide) encJ _ gl rfl GI2.out ⟨w5.heap.size, 0, none⟩ (i : Int) rfl rfl CN.out (by have := HGL.out; omega) SZW.out ?_)
        intro v8 w8 hown8 hg8 hv8
        obtain ⟨ao8, n8, cap8, rfl⟩ := own_sliceN hown8
        have ho8 := OWG2.out.outer.kept hg8 (.inr (fun e => HGNE.out e.symm))
        have hc8 := (ho8.cellAt p (by have := HPL.out; omega)).trans (show (gs1.map Prod.fst)[p]? = some (.slice gvo gl.length gvcap) by rw [List.getElem?_map, HPOS.out]; rfl)
        have hf8 : w8.frozen? ⟨o, p, none⟩ = false := ho8.frozenAt _
        have OG9 := hid (OwnGr.add (x := (i : Int)) OWG2.out HPOS.out (by simpa using hown8) hg8 (hv8.imp id fun h => by simpa using h) rfl)
        have ST9 := (ho8.stored p (.slice ao8 n8 cap8)).2
        have MP8 := MP2.out.kept hg8 (fun e => by have := (GI2.out.lt _ e.symm).1; omega)
        have MP9 := hid (MP8.kept ST9 (by intro e; have := HO1.out.1; simp at e; omega))
        have NX8 := NX2.out.grown hg8 NX2.out.size (fun j hj => by have := (GI2.out.lt j hj).1; omega)
        have NX9 := hid (NX8.grown ST9 NX8.size (fun j hj => by have h1 := HO1.out.1; simp at hj; omega))
        have HG9 := hid (FG.out (.slice ao8 n8 cap8))
        clear hown8 hg8 hv8 ho8 ST9 MP8 NX8 gcell gcell2
        go_wp2_with fail
        go_roundw
        case rel => exact ⟨i + 1, gs1.set p (.slice ao8 n8 cap8, gl ++ [(i : Int)]), by have := HLT.out; omega, by go_num, by rw [List.length_set, TN.out]; exact MP9.out, OG9.out, by rw [TN.out]; exact HG9, NX9.out⟩
        case measure => have := HLT.out; simp [intOf]; omega
    · have hie : i = ks.length := by omega
      have HG2 := hid (show (bigs gs).map (·.2) = BG from RES.out gs (by have h := HG.out; rw [List.take_of_length_le (by rw [LBL.out]; omega)] at h; exact h))
      have DG := hid (deleteG_anyS (w.heap.size + 1) gs _ wo w hnx (by omega) hgr (by have := HGL0.out; omega) (fun g hg => by have := HGE.out g hg; omega))
      clear hmap hgr hnx HG hie
      go_wp2_with fail
      refine DG.out.mono ?_
      rintro e w9 ⟨v9, rfl, hrd, hfg, hb9⟩
      have BF := hid hb9
      have RD := hid hrd
      have FGG := hid hfg
      clear hb9 hrd hfg
      go_wp2_with fail
      go_ret
      exact ⟨_, _, rfl, RD.out, HG2.out, fun j hj => FGG.out j (by omega), BF.out⟩

set_option maxHeartbeats 6400000 in
set_option maxRecDepth 100000 in
theorem groupsA_any (ks : List PK) (v : Value) (w : World) (hv : RdC cA2 w v ks) (hl : ks.length ≤ 1000) :
    Calls Tryz.prog 139 #[v] w fun e w' => ∃ (v' : Value) (gs : List Gp), e = .returned v' ∧ RdG w' v' gs ∧ gs.map (·.2) = clsK ks ∧ FarG w.heap.size v' gs ∧ Below w.heap.size w w' := by
  have KC := hid (show ∀ (j : Nat) (K : PK), ks[j]? = some K → ∃ b off cap, v = .slice (some ⟨b, off, none⟩) ks.length cap ∧ ∀ W, Below w.heap.size w W → W.cell? ⟨b, off + j * 2, none⟩ = some (.int .i64 K.1.1) ∧ W.cell? ⟨b, off + j * 2 + 1, none⟩ = some (.int .i64 K.1.2) from fun j K hj => by
    obtain ⟨ao', cap', rfl, -, -, h3⟩ := hv
    obtain ⟨b, off, rfl, hlt, hc⟩ := h3 (by have := (List.getElem?_eq_some_iff.1 hj).1; omega)
    exact ⟨b, off, cap', rfl, fun W h => ⟨(h.cell (p := ⟨b, off + j * 2, none⟩) hlt).trans (hc _ _ (flat_at cA2_length ks j K 0 _ hj rfl)), (h.cell (p := ⟨b, off + j * 2 + 1, none⟩) hlt).trans (hc _ _ (flat_at cA2_length ks j K 1 _ hj rfl))⟩⟩)
  obtain ⟨ko, kcap, rfl⟩ : ∃ ko kcap, v = .slice ko ks.length kcap := by obtain ⟨ao', cap', rfl, -⟩ := hv; exact ⟨_, _, rfl⟩
  have RES := hid (show ∀ gs : List Gp, gs.map (·.2) = grpOf (ixL ks) → (bigs gs).map (·.2) = clsK ks from fun gs h => by rw [bigs_map, h]; rfl)
  have LBA := hid (fun (k : Nat) (x : PK) (h : ks[k]? = some x) => ixL_at h)
  have LBL := hid (ixL_length ks)
  generalize clsK ks = BG at *
  obtain ⟨LB, hLB⟩ : ∃ LB : List (PK × Int), ixL ks = LB := ⟨_, rfl⟩
  rw [hLB] at RES LBL
  have LBA2 : Hid (∀ (k : Nat) (x : PK), ks[k]? = some x → LB[k]? = some (x, (k : Int))) := hid (by rw [← hLB]; exact LBA.out)
  have HLK := hid hl
  clear LBA hLB hl
  have hmm := @run_makeMap Tryz.prog
  have hm0 := OwnG.made (arrKeys) (.int .i64 0) w
  have n1 := below_alloc w (.map #[] 0)
  have HM0 := hid hm0
  have NX1 := hid n1
  clear hm0 n1 hv
  go_enter Tryz.func139, Tryz.ntmps139
  go_wp2_with fail
  go_loopw [4, 12] (fun u i wr => ∃ (k : Nat) (gs : List Gp), k ≤ ks.length ∧ i = .int .i64 k ∧ OwnPA wr w.heap.size gs.length (placeV (dedK ((LB.take k).map (·.1)))) (hasK (dedK ((LB.take k).map (·.1)))) ∧ OwnGr wr (w.heap.size + 1) 37 3 u gs ∧ Hid (gs.map (·.2) = grpOf (LB.take k)) ∧ Below w.heap.size w wr) (fun _ i _ => ks.length - (intOf i).toNat)
  case atStart => exact ⟨0, [], Nat.zero_le _, rfl, HM0.out.congr (fun s => by rw [List.take_zero]; rfl) (fun s => by rw [List.take_zero]; rfl), OwnGr.nil _ _ _ _, hid (by rw [List.take_zero]; rfl), NX1.out⟩
  case round =>
    obtain ⟨wo, rfl⟩ : ∃ wo : World, wo = wr := ⟨_, rfl⟩
    obtain ⟨i, gs, hk, rfl, hmap, hgr, HG, hnx⟩ := hrel
    have hsz := hnx.size
    have i0 : (0 : Int) ≤ (i : Int) := by omega
    have i9 : (i : Int) ≤ 1000 := by have := HLK.out; omega
    have HGL0 := hid (show gs.length ≤ i by have h := congrArg List.length HG.out; rw [List.length_map] at h; have h2 := grpOf_length (LB.take i); have h3 := List.length_take_le i LB; omega)
    have HGE := hid (show ∀ g ∈ gs, g.2.length ≤ 1000 from fun g hg => by
      have h1 : g.2 ∈ grpOf (LB.take i) := by rw [← HG.out]; exact List.mem_map.2 ⟨g, hg, rfl⟩
      have h2 := grpOf_bound h1
      have h3 := List.length_take_le i LB
      omega)
    by_cases hlt : i < ks.length
    · obtain ⟨K, hr⟩ := get_some hlt
      obtain ⟨b, off, kcap', hkf, hd⟩ := KC.out i K hr
      simp only [Value.slice.injEq, true_and] at hkf
      obtain ⟨rfl, rfl⟩ := hkf
      obtain ⟨e0, e1⟩ := hd wo hnx
      obtain ⟨ka, hka⟩ : ∃ ka, K.1.1 = ka := ⟨_, rfl⟩
      obtain ⟨kb, hkb⟩ : ∃ kb, K.1.2 = kb := ⟨_, rfl⟩
      rw [hka] at e0
      rw [hkb] at e1
      have KAB := hid (show valA K = .agg #[.int .i64 ka, .int .i64 kb] by unfold valA; rw [hka, hkb])
      obtain ⟨x0, x1⟩ := cells2 (w := wo) (a := .int .i64 ka) (b := .int .i64 kb) (t := 206) _ (Below.refl _ _)
      have BA := hid (below_alloc wo (.cells #[.int .i64 ka, .int .i64 kb] 206))
      clear hd hka hkb
      have HLT := hid hlt
      have LB1 := hid (show LB[i]? = some (K, (i : Int)) from LBA2.out i _ hr)
      clear hr
      go_upto_region 6 with fail
      obtain ⟨wk, hwk⟩ : ∃ wk : World, wo.alloc (.cells #[.int .i64 ka, .int .i64 kb] 206) = wk := ⟨_, rfl⟩
      rw [hwk] at x0 x1 BA
      rw [hwk]
      clear hwk e0 e1
      have NXQ := hid (show Below w.heap.size w wk from hnx.trans (BA.out.mono hsz))
      have MPQ := hid (show OwnPA wk w.heap.size _ _ _ from hmap.below BA.out)
      have GRQ := hid (show OwnGr wk (w.heap.size + 1) 37 3 _ gs from hgr.below BA.out)
      obtain ⟨go, gcap, hge⟩ := own_slicePI hgr.outer
      subst hge
      have TN := hid (take_next LB1.out)
      obtain ⟨L, hL⟩ : ∃ L, LB.take i = L := ⟨_, rfl⟩
      rw [hL] at TN HG MPQ
      clear hmap hgr hnx hL hlt hk
      by_cases hmem : K ∈ dedK (L.map (·.1))
      · have HPP := hid (show hasK (dedK (L.map (·.1))) K = true from hasK_in hmem)
        have HAT := grpOf_at hmem
        obtain ⟨OLD, HDK⟩ := grpOf_old (i : Int) hmem
        have HFV := hid (placeV_in hmem)
        have PLT := posK_lt hmem
        have DL : (dedK (L.map (·.1))).length = gs.length := by
          have h := congrArg List.length HG.out
          rw [List.length_map] at h
          rw [h]; unfold grpOf; rw [List.length_map]
        obtain ⟨p, hp⟩ : ∃ p, posK (dedK (L.map (·.1))) K = p := ⟨_, rfl⟩
        rw [hp] at HAT OLD HFV PLT
        rw [← HG.out, List.getElem?_map] at HAT
        obtain ⟨⟨gv, gl⟩, hpos⟩ := get_some (show p < gs.length by omega)
        rw [hpos] at HAT
        simp only [Option.map_some, Option.some.injEq] at HAT
        have HPOS := hid hpos
        have HPL := hid (show p < gs.length by omega)
        have FG := hid (fun (v8 : Value) => show Hid ((gs.set p (v8, gl ++ [(i : Int)])).map (·.2) = grpOf (L ++ [(K, (i : Int))])) from hid (by rw [OLD, ← HAT, ← HG.out, List.map_set]))
        have MPW := hid (show OwnPA wk w.heap.size gs.length (placeV (dedK ((L ++ [(K, (i : Int))]).map (·.1)))) (hasK (dedK ((L ++ [(K, (i : Int))]).map (·.1)))) by rw [HDK]; exact MPQ.out)
        obtain ⟨o, gcap', hform⟩ := own_formK GRQ.out.outer (by omega)
        simp only [Value.slice.injEq, true_and] at hform
        obtain ⟨rfl, rfl⟩ := hform
        have OWG := GRQ
        have NXW := NXQ
        have HGL := hid (show gl.length ≤ 1000 from HGE.out _ (List.mem_of_getElem? hpos))
        clear hmem HAT OLD HDK PLT DL hp hpos
        have gcell0 : wk.cell? ⟨o, p, none⟩ = some gv := by rw [OWG.out.outer.cellAt p (by have := HPL.out; omega), List.getElem?_map, HPOS.out]; rfl
        have pn : (p : Int) < (gs.length : Int) := by have := HPL.out; omega
        have p0 : (0 : Int) ≤ (p : Int) := by omega
        have GMEM := hid (List.mem_of_getElem? HPOS.out)
        have GI := hid (show wk.ownsRow (w.heap.size + 1) 3 1 gv gl.length (gl.map encJ) from OWG.out.inner _ GMEM.out)
        obtain ⟨gvo, gvcap, hgf⟩ := own_slicePI GI.out
        subst hgf
        have HGNE := hid (show (Value.slice gvo gl.length gvcap).ownBlock ≠ some o from fun e => by
          rcases OWG.out.away _ GMEM.out with h | h
          · rw [show (Value.slice gvo gl.length gvcap).ownBlock = none from h] at e; cases e
          · exact h e)
        have HO1 := hid (OWG.out.outer.lt o rfl)
        have gcell : wk.cell? ⟨o, p, none⟩ = some (.slice gvo gl.length gvcap) := gcell0
        clear gcell0
        have XB := hid (show Below wk.heap.size wk (wk.alloc (.cells #[.int .i64 (i : Int)] 3)) from below_alloc _ _)
        have GI2 := hid (own_below GI.out XB.out)
        have OWG2 := hid (OWG.out.below XB.out)
        have NX2 := hid (NXW.out.trans (XB.out.mono NXW.out.size))
        have MP2 := hid (MPW.out.below XB.out)
        have SZW := hid (show w.heap.size + 1 ≤ (wk.alloc (.cells #[.int .i64 (i : Int)] 3)).heap.size by have := HO1.out; have := XB.out.size; omega)
        have CN := hid (show (wk.alloc (.cells #[.int .i64 (i : Int)] 3)).cell? ⟨wk.heap.size, 0, none⟩ = some (encJ (i : Int)) from cell_new (w := wk))
        have gcell2 : (wk.alloc (.cells #[.int .i64 (i : Int)] 3)).cell? ⟨o, p, none⟩ = some (.slice gvo gl.length gvcap) := ((below_alloc wk (.cells #[.int .i64 (i : Int)] 3)).cell (p := ⟨o, p, none⟩) HO1.out.2).trans gcell
        go_wp2_with (first | (at_lookup; refine wpList_glook_ok (E := arrKeys) (z := .int .i64 0) (f := placeV (dedK (L.map (·.1)))) (p := hasK (dedK (L.map (·.1)))) (n := gs.length) (b := w.heap.size) (e := 3) rfl _ _ 228 rfl undMapA (Tryz.zeroValue3 _) rfl MPQ.out K KAB.out.symm ?_; rw [HFV.out, HPP.out]) | (at_builtin; refine wpList_pushE rfl _ _ 37 rfl (w.heap.size + 1) 3 (.int .i64 0) 8 undPJ infoPJ rfl (by decide) encJ _ gl rfl GI2.out ⟨wk.heap.size, 0, none⟩ (i : Int) rfl rfl CN.out (by have := HGL.out; omega) SZW.out ?_))
        intro v8 w8 hown8 hg8 hv8
        obtain ⟨ao8, n8, cap8, rfl⟩ := own_sliceN hown8
        have ho8 := OWG2.out.outer.kept hg8 (.inr (fun e => HGNE.out e.symm))
        have hc8 := (ho8.cellAt p (by have := HPL.out; omega)).trans (show (gs.map Prod.fst)[p]? = some (.slice gvo gl.length gvcap) by rw [List.getElem?_map, HPOS.out]; rfl)
        have hf8 : w8.frozen? ⟨o, p, none⟩ = false := ho8.frozenAt _
        have OG9 := hid (OwnGr.add (x := (i : Int)) OWG2.out HPOS.out (by simpa using hown8) hg8 (hv8.imp id fun h => by simpa using h) rfl)
        have ST9 := (ho8.stored p (.slice ao8 n8 cap8)).2
        have MP8 := MP2.out.kept hg8 (fun e => by have := (GI2.out.lt _ e.symm).1; omega)
        have MP9 := hid (MP8.kept ST9 (by intro e; have := HO1.out.1; simp at e; omega))
        have NX8 := NX2.out.grown hg8 NX2.out.size (fun j hj => by have := (GI2.out.lt j hj).1; omega)
        have NX9 := hid (NX8.grown ST9 NX8.size (fun j hj => by have h1 := HO1.out.1; simp at hj; omega))
        have HG9 := hid (FG.out (.slice ao8 n8 cap8))
        clear hown8 hg8 hv8 ho8 ST9 MP8 NX8 gcell gcell2
        go_wp2_with fail
        go_roundw
        case rel => exact ⟨i + 1, gs.set p (.slice ao8 n8 cap8, gl ++ [(i : Int)]), by have := HLT.out; omega, by go_num, by rw [List.length_set, TN.out]; exact MP9.out, OG9.out, by rw [TN.out]; exact HG9, NX9.out⟩
        case measure => have := HLT.out; simp [intOf]; omega
      · have HPP := hid (show hasK (dedK (L.map (·.1))) K = false from hasK_out hmem)
        obtain ⟨NEW, HDK⟩ := grpOf_new (i : Int) hmem
        have HFV := hid (show placeV (dedK (L.map (·.1))) K = .int .i64 0 from if_neg hmem)
        have DL : (dedK (L.map (·.1))).length = gs.length := by
          have h := congrArg List.length HG.out
          rw [List.length_map] at h
          rw [h]; unfold grpOf; rw [List.length_map]
        have PV := hid (fun (s : PK) => show (if s = K then Value.int .i64 (gs.length : Nat) else placeV (dedK (L.map (·.1))) s) = placeV (dedK ((L ++ [(K, (i : Int))]).map (·.1))) s by rw [HDK, ← placeV_new hmem s, DL])
        have PD := hid (fun (s : PK) => show (if s = K then true else hasK (dedK (L.map (·.1))) s) = hasK (dedK ((L ++ [(K, (i : Int))]).map (·.1))) s by rw [HDK, hasK_snoc])
        have GSM := hid (show (gs ++ [((.slice none 0 0, []) : Gp)])[gs.length]? = some (.slice none 0 0, []) by simp)
        have FG0 := hid (fun (v8 : Value) => show Hid (((gs ++ [((.slice none 0 0, []) : Gp)]).set gs.length (v8, [] ++ [(i : Int)])).map (·.2) = grpOf (L ++ [(K, (i : Int))])) from hid (by rw [NEW, ← HG.out]; simp))
        clear hmem NEW HDK DL
        have hgl0 : gs.length ≤ 1000 := by have := HGL0.out; omega
        have HGLX := hid hgl0
        go_wp2_with (first
          | (at_lookup; refine wpList_glook_ok (E := arrKeys) (z := .int .i64 0) (f := placeV (dedK (L.map (·.1)))) (p := hasK (dedK (L.map (·.1)))) (n := gs.length) (b := w.heap.size) (e := 3) rfl _ _ 228 rfl undMapA (Tryz.zeroValue3 _) rfl MPQ.out K KAB.out.symm ?_; rw [HFV.out, HPP.out])
          | (at_mapUpdate; refine wpList_gput (E := arrKeys) (e := 3) rfl _ _ _ 228 rfl undMapA rfl MPQ.out (by have := HGLX.out; unfold maxLen; omega) K (.int .i64 (gs.length : Int)) KAB.out.symm rfl ?_))
        intro w4 hm4 hg4
        have GR4 : OwnGr w4 (w.heap.size + 1) 37 3 (.slice go gs.length gcap) gs := GRQ.out.kept hg4 (fun k hk => by cases hk; omega)
        have nx4 : Below w.heap.size w w4 := NXQ.out.grown hg4 NXQ.out.size (fun j hj => by cases hj; exact Nat.le_refl _)
        have MP4 := hid (show OwnPA w4 w.heap.size (gs.length + 1) (placeV (dedK ((L ++ [(K, (i : Int))]).map (·.1)))) (hasK (dedK ((L ++ [(K, (i : Int))]).map (·.1)))) from hm4.congr (fun s => PV.out s) (fun s => PD.out s))
        have HGR4 := hid GR4
        have NX4 := hid nx4
        have HSZ4 := hid (show w.heap.size + 1 ≤ w4.heap.size from MP4.out.lt)
        clear hm4 hg4 GR4 nx4 PV PD
        go_wp2_with (at_builtin; refine wpList_pushE rfl _ _ 163 rfl (w.heap.size + 1) 37 (.slice none 0 0) 24 undPI infoPI rfl (by decide) (Prod.fst : Gp → Value) _ gs rfl (HGR4.out.outer.alloc _) ⟨w4.heap.size, 0, none⟩ ((.slice none 0 0, []) : Gp) rfl rfl (by simp) (by have := HGLX.out; omega) (by have := HSZ4.out; simp; omega) ?_)
        intro v5 w5 hown5 hg5 hl5
        have b5 := below_alloc w4 (.cells #[.slice none 0 0] 37)
        have GR5 := (HGR4.out.below b5).push (by simpa using hown5) hg5 (hl5.imp id fun h => by simpa using h)
        have HNB := hid (fun (j : Nat) (e : (Value.slice go gs.length gcap).ownBlock = some j) => HGR4.out.outer.lt j e)
        have hm6 := (MP4.out.below b5).kept hg5 (by
          intro e
          have := (HNB.out _ e.symm).1
          omega)
        have nx6 := below_push NX4.out NX4.out.size (own_mono HGR4.out.outer (show w.heap.size ≤ w.heap.size + 1 by omega)) hg5
        obtain ⟨gs1, hgs1⟩ : ∃ gs1, gs ++ [((.slice none 0 0, []) : Gp)] = gs1 := ⟨_, rfl⟩
        have GLN := hid (show gs1.length = gs.length + 1 by rw [← hgs1]; simp)
        rw [hgs1] at GR5 GSM FG0
        obtain ⟨o, gcap', hform⟩ := own_formK GR5.outer (by have := GLN.out; omega)
        subst hform
        obtain ⟨p, hp⟩ : ∃ p, gs.length = p := ⟨_, rfl⟩
        have HPOS := hid GSM.out
        have HPL := hid (show gs.length < gs1.length by have := GLN.out; omega)
        have MPW := hid (show OwnPA w5 w.heap.size gs1.length (placeV (dedK ((L ++ [(K, (i : Int))]).map (·.1)))) (hasK (dedK ((L ++ [(K, (i : Int))]).map (·.1)))) by rw [GLN.out]; exact hm6)
        have OWG := hid GR5
        have NXW := hid nx6
        obtain ⟨gv, hgv⟩ : ∃ gv : Value, .slice none 0 0 = gv := ⟨_, rfl⟩
        obtain ⟨gl, hgl⟩ : ∃ gl : List Int, [] = gl := ⟨_, rfl⟩
        rw [hgv, hgl] at HPOS
        have FG := hid (fun (v8 : Value) => show Hid ((gs1.set gs.length (v8, gl ++ [(i : Int)])).map (·.2) = grpOf (L ++ [(K, (i : Int))])) by rw [← hgl]; exact FG0.out v8)
        have HGL := hid (show gl.length ≤ 1000 by rw [← hgl]; simp)
        rw [hp] at HPOS HPL FG
        clear hown5 hg5 hl5 b5 GR5 HNB hm6 nx6 hgs1 GSM FG0 hgl GLN NX4 MP4 HGR4
        rw [hp]
        clear hgv hp
        have gcell0 : w5.cell? ⟨o, p, none⟩ = some gv := by rw [OWG.out.outer.cellAt p (by have := HPL.out; omega), List.getElem?_map, HPOS.out]; rfl
        have pn : (p : Int) < (gs1.length : Int) := by have := HPL.out; omega
        have p0 : (0 : Int) ≤ (p : Int) := by omega
        have GMEM := hid (List.mem_of_getElem? HPOS.out)
        have GI := hid (show w5.ownsRow (w.heap.size + 1) 3 1 gv gl.length (gl.map encJ) from OWG.out.inner _ GMEM.out)
        obtain ⟨gvo, gvcap, hgf⟩ := own_slicePI GI.out
        subst hgf
        have HGNE := hid (show (Value.slice gvo gl.length gvcap).ownBlock ≠ some o from fun e => by
          rcases OWG.out.away _ GMEM.out with h | h
          · rw [show (Value.slice gvo gl.length gvcap).ownBlock = none from h] at e; cases e
          · exact h e)
        have HO1 := hid (OWG.out.outer.lt o rfl)
        have gcell : w5.cell? ⟨o, p, none⟩ = some (.slice gvo gl.length gvcap) := gcell0
        clear gcell0
        have XB := hid (show Below w5.heap.size w5 (w5.alloc (.cells #[.int .i64 (i : Int)] 3)) from below_alloc _ _)
        have GI2 := hid (own_below GI.out XB.out)
        have OWG2 := hid (OWG.out.below XB.out)
        have NX2 := hid (NXW.out.trans (XB.out.mono NXW.out.size))
        have MP2 := hid (MPW.out.below XB.out)
        have SZW := hid (show w.heap.size + 1 ≤ (w5.alloc (.cells #[.int .i64 (i : Int)] 3)).heap.size by have := HO1.out; have := XB.out.size; omega)
        have CN := hid (show (w5.alloc (.cells #[.int .i64 (i : Int)] 3)).cell? ⟨w5.heap.size, 0, none⟩ = some (encJ (i : Int)) from cell_new (w := w5))
        have gcell2 : (w5.alloc (.cells #[.int .i64 (i : Int)] 3)).cell? ⟨o, p, none⟩ = some (.slice gvo gl.length gvcap) := ((below_alloc w5 (.cells #[.int .i64 (i : Int)] 3)).cell (p := ⟨o, p, none⟩) HO1.out.2).trans gcell
        go_wp2_with (at_builtin; refine wpList_pushE rfl _ _ 37 rfl (w.heap.size + 1) 3 (.int .i64 0) 8 undPJ infoPJ rfl (by decide) encJ _ gl rfl GI2.out ⟨w5.heap.size, 0, none⟩ (i : Int) rfl rfl CN.out (by have := HGL.out; omega) SZW.out ?_)
        intro v8 w8 hown8 hg8 hv8
        obtain ⟨ao8, n8, cap8, rfl⟩ := own_sliceN hown8
        have ho8 := OWG2.out.outer.kept hg8 (.inr (fun e => HGNE.out e.symm))
        have hc8 := (ho8.cellAt p (by have := HPL.out; omega)).trans (show (gs1.map Prod.fst)[p]? = some (.slice gvo gl.length gvcap) by rw [List.getElem?_map, HPOS.out]; rfl)
        have hf8 : w8.frozen? ⟨o, p, none⟩ = false := ho8.frozenAt _
        have OG9 := hid (OwnGr.add (x := (i : Int)) OWG2.out HPOS.out (by simpa using hown8) hg8 (hv8.imp id fun h => by simpa using h) rfl)
        have ST9 := (ho8.stored p (.slice ao8 n8 cap8)).2
        have MP8 := MP2.out.kept hg8 (fun e => by have := (GI2.out.lt _ e.symm).1; omega)
        have MP9 := hid (MP8.kept ST9 (by intro e; have := HO1.out.1; simp at e; omega))
        have NX8 := NX2.out.grown hg8 NX2.out.size (fun j hj => by have := (GI2.out.lt j hj).1; omega)
        have NX9 := hid (NX8.grown ST9 NX8.size (fun j hj => by have h1 := HO1.out.1; simp at hj; omega))
        have HG9 := hid (FG.out (.slice ao8 n8 cap8))
        clear hown8 hg8 hv8 ho8 ST9 MP8 NX8 gcell gcell2
        go_wp2_with fail
        go_roundw
        case rel => exact ⟨i + 1, gs1.set p (.slice ao8 n8 cap8, gl ++ [(i : Int)]), by have := HLT.out; omega, by go_num, by rw [List.length_set, TN.out]; exact MP9.out, OG9.out, by rw [TN.out]; exact HG9, NX9.out⟩
        case measure => have := HLT.out; simp [intOf]; omega
    · have hie : i = ks.length := by omega
      have HG2 := hid (show (bigs gs).map (·.2) = BG from RES.out gs (by have h := HG.out; rw [List.take_of_length_le (by rw [LBL.out]; omega)] at h; exact h))
      have DG := hid (deleteG_anyA (w.heap.size + 1) gs _ wo w hnx (by omega) hgr (by have := HGL0.out; omega) (fun g hg => by have := HGE.out g hg; omega))
      clear hmap hgr hnx HG hie
      go_wp2_with fail
      refine DG.out.mono ?_
      rintro e w9 ⟨v9, rfl, hrd, hfg, hb9⟩
      have BF := hid hb9
      have RD := hid hrd
      have FGG := hid hfg
      clear hb9 hrd hfg
      go_wp2_with fail
      go_ret
      exact ⟨_, _, rfl, RD.out, HG2.out, fun j hj => FGG.out j (by omega), BF.out⟩

end Go.Proofs.YtgahpgmagfngfaaGreatDoor

