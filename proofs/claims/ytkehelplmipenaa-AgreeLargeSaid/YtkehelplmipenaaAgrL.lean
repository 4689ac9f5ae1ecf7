/- Plain laws of chapter 27: the agree sets of a table, their counts, the maximal and the minimal ones. No program. -/
import Derived.Test.YtkehelplmipenaaOrdS
import Derived.Test.YtkehelplmipenaaMapK
import Derived.Test.YtkehelplmipenaaGTabB
namespace Go.Proofs.Ytkehelplmipenaa

abbrev pairS (r q : Row3) : S := rowsS r.2.2 q.2.2 r.2.2.length
theorem pairsS_at {rs : List Row3} {i : Nat} {r : Row3} (h : rs[i]? = some r) : pairsS (rs.drop i) = (rs.drop (i + 1)).map (pairS r) ++ pairsS (rs.drop (i + 1)) := by rw [drop_at h]; rfl
theorem pairsS_length : ∀ rs : List Row3, (pairsS rs).length ≤ rs.length * rs.length := by
  intro rs
  induction rs with
  | nil => simp [pairsS]
  | cons r rs ih =>
    simp only [pairsS, List.length_append, List.length_map, List.length_cons]
    have : (rs.length + 1) * (rs.length + 1) = rs.length * rs.length + 2 * rs.length + 1 := by rw [Nat.add_mul, Nat.mul_add]; omega
    omega
/-- Twice the number of the pairs. -/
theorem pairsS_twice : ∀ rs : List Row3, 2 * (pairsS rs).length + rs.length = rs.length * rs.length := by
  intro rs
  induction rs with
  | nil => simp [pairsS]
  | cons r rs ih =>
    simp only [pairsS, List.length_append, List.length_map, List.length_cons]
    have : (rs.length + 1) * (rs.length + 1) = rs.length * rs.length + 2 * rs.length + 1 := by rw [Nat.add_mul, Nat.mul_add]; omega
    omega
/-- The pairs, each new row with those ahead of it. -/
theorem pairsS_snoc (l : List Row3) (r : Row3) : (pairsS (l ++ [r])).Perm (pairsS l ++ l.map fun q => pairS q r) := by
  induction l with
  | nil => exact List.Perm.refl _
  | cons q l ih =>
    show (((l ++ [r]).map (pairS q)) ++ pairsS (l ++ [r])).Perm (((l.map (pairS q)) ++ pairsS l) ++ (pairS q r :: l.map fun q => pairS q r))
    rw [List.map_append, List.append_assoc, List.append_assoc]
    refine List.Perm.append_left _ ?_
    refine (List.Perm.cons _ ih).trans ?_
    exact List.perm_middle.symm

def cntF (ps : List S) (s : S) : Nat := ps.count s
def memB (ps : List S) (s : S) : Bool := decide (s ∈ ps)
theorem count_upd (ps : List S) (s t : S) : upd (cntF ps) s (cntF ps s + 1) t = cntF (ps ++ [s]) t := by
  unfold cntF
  rw [List.count_append]
  by_cases h : t = s
  · subst h; rw [upd_same]; simp
  · rw [upd_other _ _ h]; simp [Ne.symm h]
theorem has_upd (ps : List S) (s t : S) : upd (memB ps) s true t = memB (ps ++ [s]) t := by
  unfold memB
  by_cases h : t = s
  · subst h; rw [upd_same]; simp
  · rw [upd_other _ _ h]; simp [h]
theorem count_perm {a b : List S} (h : a.Perm b) (s : S) : cntF a s = cntF b s := h.count_eq s
theorem has_perm {a b : List S} (h : a.Perm b) (s : S) : memB a s = memB b s := by unfold memB; simp [h.mem_iff]

/-- The different sets with their numbers. -/
def cntL (ps : List S) : List (S × Int) := (ordS ps).map fun s => (s, (ps.count s : Int))
theorem cntL_at {ps : List S} {k : Nat} {s : S} (h : (ordS ps)[k]? = some s) : ((ordS ps).take (k + 1)).map (fun s => (s, (ps.count s : Int))) = ((ordS ps).take k).map (fun s => (s, (ps.count s : Int))) ++ [(s, (ps.count s : Int))] := by
  rw [take_next h, List.map_append]; rfl
theorem ordS_nodup (ps : List S) : (ordS ps).Nodup := (ordS_ord ps).1.imp fun h e => by subst e; exact bef_irrefl _ h
theorem ord_nodup {ps : List S} {p : S → Prop} (h : IsOrd ps p) : ps.Nodup := h.1.imp fun h e => by subst e; exact bef_irrefl _ h
theorem ordS_congr {a b : List S} (h : ∀ s, s ∈ a ↔ s ∈ b) : ordS a = ordS b := (ordS_ord a).uniq (ordS_ord b) h
theorem nodup_length : ∀ {a b : List S}, a.Nodup → (∀ s ∈ a, s ∈ b) → a.length ≤ b.length := by
  intro a
  induction a with
  | nil => intro b _ _; simp
  | cons x a ih =>
    intro b h hs
    obtain ⟨h1, h2⟩ := List.nodup_cons.1 h
    have := ih (b := b.erase x) h2 fun s hm => (List.mem_erase_of_ne (fun e => h1 (by rw [← e]; exact hm))).2 (hs s (List.mem_cons_of_mem _ hm))
    have hx := List.length_erase_of_mem (hs x (by simp))
    have hp := List.length_pos_of_mem (hs x (by simp))
    simp only [List.length_cons]; omega
theorem ordS_length (ps : List S) : (ordS ps).length ≤ ps.length := nodup_length (ordS_nodup ps) fun s hs => ((ordS_ord ps).2 s).1 hs
/-- The numbers together are the number of the pairs. -/
theorem count_sum (ps : List S) : ∀ (ys : List S), ys.Nodup → (ys.map fun s => ps.count s).sum = (ps.filter fun s => decide (s ∈ ys)).length := by
  intro ys
  induction ys with
  | nil => intro _; rw [List.filter_eq_nil_iff.2 (by simp)]; rfl
  | cons y ys ih =>
    intro hn
    obtain ⟨h1, h2⟩ := List.nodup_cons.1 hn
    rw [List.map_cons, List.sum_cons, ih h2]
    clear ih hn
    rw [List.count_eq_countP, ← List.countP_eq_length_filter, ← List.countP_eq_length_filter]
    induction ps with
    | nil => rfl
    | cons p ps ihp =>
      rw [List.countP_cons, List.countP_cons, List.countP_cons, ← ihp]
      by_cases hp : p = y
      · subst hp
        have e1 : decide (p ∈ ys) = false := decide_eq_false h1
        have e2 : decide (p ∈ p :: ys) = true := decide_eq_true (by simp)
        rw [e1, e2]; simp; omega
      · have e0 : (p == y) = false := by simpa using hp
        have e2 : decide (p ∈ y :: ys) = decide (p ∈ ys) := by rw [decide_eq_decide]; simp [hp]
        rw [e2, e0]; simp; omega
theorem cntL_sum (ps : List S) : ((ordS ps).map fun s => ps.count s).sum = ps.length := by
  rw [count_sum ps _ (ordS_nodup ps), List.filter_eq_self.2]
  intro s hs
  exact decide_eq_true (((ordS_ord ps).2 s).2 hs)

/-- The different sets of a list to which no other one stands in the relation p. -/
def keepS (p : S → S → Bool) (xs : List S) : List S := (ordS xs).filter fun a => !(ordS xs).any fun b => a != b && p a b
def upR (a b : S) : Bool := a &&& ~~~ b == 0#32
def downR (a b : S) : Bool := b &&& ~~~ a == 0#32
def isMax (l : List S) (s : S) : Prop := s ∈ l ∧ ∀ f ∈ l, sub s f → f = s
theorem keepS_ord (p : S → S → Bool) (xs : List S) : IsOrd (keepS p xs) (fun s => s ∈ xs ∧ ∀ f ∈ xs, p s f = true → f = s) := by
  refine ⟨(ordS_ord xs).1.filter _, fun s => ?_⟩
  unfold keepS
  rw [List.mem_filter, (ordS_ord xs).2 s]
  refine and_congr Iff.rfl ?_
  rw [Bool.not_eq_true', List.any_eq_false]
  constructor
  · intro h f hf hp
    have := h f (((ordS_ord xs).2 f).2 hf)
    simp only [Bool.and_eq_true, bne_iff_ne, ne_eq, not_and, hp, not_true_eq_false, imp_false, Decidable.not_not] at this
    exact this.symm
  · intro h f hf
    simp only [Bool.and_eq_true, bne_iff_ne, ne_eq, not_and]
    intro hne hp
    exact hne (h f (((ordS_ord xs).2 f).1 hf) hp).symm
theorem max_ord (xs : List S) : IsOrd (keepS upR xs) (isMax xs) := (keepS_ord upR xs).congr fun s => by
  unfold isMax upR
  simp only [beq_iff_eq, andNot_zero_iff]
theorem min_ord (xs : List S) : IsOrd (keepS downR xs) (isMin xs) := (keepS_ord downR xs).congr fun s => by
  unfold isMin downR
  simp only [beq_iff_eq, andNot_zero_iff]
theorem keepS_congr (p : S → S → Bool) {a b : List S} (h : ∀ s, s ∈ a ↔ s ∈ b) : keepS p a = keepS p b := by unfold keepS; rw [ordS_congr h]
theorem redS_keep (xs : List S) : redS xs = keepS downR xs := (redS_ord xs).uniq (min_ord xs) fun _ => Iff.rfl
theorem keepS_length (p : S → S → Bool) (xs : List S) : (keepS p xs).length ≤ xs.length := Nat.le_trans (List.length_filter_le _ _) (ordS_length xs)

/-- The reference's test of the i-th set, as far as the k-th. -/
def okB (r : S → S → Bool) (L : List S) (i k : Nat) : Bool := (List.range k).all fun j => decide (j = i) || !r (L.getD i 0#32) (L.getD j 0#32)
theorem okB_zero (r : S → S → Bool) (L : List S) (i : Nat) : okB r L i 0 = true := rfl
theorem okB_next (r : S → S → Bool) {L : List S} {i k : Nat} {a b : S} (ha : L[i]? = some a) (hb : L[k]? = some b) : okB r L i (k + 1) = (okB r L i k && (decide (k = i) || !r a b)) := by
  unfold okB
  rw [List.range_succ, List.all_append]
  simp [List.getD, ha, hb]
theorem okB_end (r : S → S → Bool) {L : List S} (hn : L.Nodup) {i : Nat} {a : S} (ha : L[i]? = some a) : okB r L i L.length = !L.any fun b => a != b && r a b := by
  rw [Bool.eq_iff_iff]
  unfold okB
  rw [List.all_eq_true, Bool.not_eq_true', List.any_eq_false]
  have hi := (List.getElem?_eq_some_iff.1 ha).1
  constructor
  · intro h b hb
    obtain ⟨j, hj⟩ := List.getElem?_of_mem hb
    have hjl := (List.getElem?_eq_some_iff.1 hj).1
    have := h j (List.mem_range.2 hjl)
    simp only [List.getD, ha, hj, Option.getD_some, Bool.or_eq_true, decide_eq_true_eq, Bool.not_eq_true'] at this
    simp only [Bool.and_eq_true, bne_iff_ne, ne_eq, not_and, Bool.not_eq_true]
    intro hne
    rcases this with rfl | h2
    · rw [ha] at hj; exact absurd (Option.some.inj hj) hne
    · exact h2
  · intro h j hj
    have hjl := List.mem_range.1 hj
    have hj2 := List.getElem?_eq_getElem hjl
    simp only [List.getD, ha, hj2, Option.getD_some, Bool.or_eq_true, decide_eq_true_eq, Bool.not_eq_true']
    by_cases e : j = i
    · exact .inl e
    · have := h L[j] (List.getElem_mem hjl)
      simp only [Bool.and_eq_true, bne_iff_ne, ne_eq, not_and, Bool.not_eq_true] at this
      refine .inr (this fun e2 => e ?_)
      have e3 : L[i] = L[j] := by rw [← e2]; exact (List.getElem?_eq_some_iff.1 ha).2
      rcases Nat.lt_trichotomy i j with h1 | h1 | h1
      · exact absurd e3 (List.pairwise_iff_getElem.1 hn i j hi hjl h1)
      · exact h1.symm
      · exact absurd e3.symm (List.pairwise_iff_getElem.1 hn j i hjl hi h1)
theorem keep_take (r : S → S → Bool) {L : List S} {k : Nat} {a : S} (ha : L[k]? = some a) : (L.take (k + 1)).filter (fun a => !L.any fun b => a != b && r a b) = (L.take k).filter (fun a => !L.any fun b => a != b && r a b) ++ (if (!L.any fun b => a != b && r a b) = true then [a] else []) := by
  rw [take_next ha, List.filter_append]
  cases h : (!L.any fun b => a != b && r a b) <;> simp [h]

/-- The agree sets without an attribute; what they leave of the others. -/
def withoutS (ps : List S) (a : Nat) : List S := ps.filter fun s => !s.getLsbD a
def diffL (n a : Nat) (ps : List S) : List S := (withoutS ps a).map fun s => fullN n &&& ~~~ s &&& ~~~ bit a
theorem mem_withoutS {ps : List S} {a : Nat} {s : S} : s ∈ withoutS ps a ↔ s ∈ ps ∧ s.getLsbD a = false := by simp [withoutS]

end Go.Proofs.Ytkehelplmipenaa
