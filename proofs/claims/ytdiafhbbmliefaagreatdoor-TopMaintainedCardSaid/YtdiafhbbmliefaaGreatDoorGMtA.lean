/- Texts that belong together, in one file. -/
import Derived.Test.YtdiafhbbmliefaaGreatDoorGFdmC
import Derived.Test.YtdiafhbbmliefaaGreatDoorGTab30
import Derived.Test.YtdiafhbbmliefaaGreatDoorGOrd
import Derived.Test.YtdiafhbbmliefaaGreatDoorGKm1
import Derived.Test.YtdiafhbbmliefaaGreatDoorGTopA
import Derived.Test.YtdiafhbbmliefaaGreatDoorCells
import Derived.Test.YtdiafhbbmliefaaGreatDoorBase
import Derived.Test.YtdiafhbbmliefaaGreatDoorGKm2
import Derived.Test.YtdiafhbbmliefaaGreatDoorGPtA
/- Plain laws of a maintained state: the numbers of the agree sets under changes, the minimal dependencies out of them. No program. -/
namespace Go.Proofs.YtdiafhbbmliefaaGreatDoor
open Go.RowKit
set_option linter.unusedVariables false
set_option linter.unusedSimpArgs false

/-! Rows in order. -/
theorem rowsE_iff {m : Nat} : ∀ {rs : List Row3} {last : Int}, rowsE last m rs = 0 ↔ (last :: rs.map (·.1)).Pairwise (· < ·) ∧ ∀ r ∈ rs, r.2.2.length = m ∧ r.2.2.any badV = false := by
  intro rs
  induction rs with
  | nil => intro last; simp [rowsE]
  | cons r rs ih =>
    intro last
    rw [List.map_cons, List.pairwise_cons]
    unfold rowsE
    by_cases h1 : r.1 ≤ last
    · rw [if_pos h1]
      refine ⟨fun h => absurd h (by decide), fun h => ?_⟩
      have := h.1.1 r.1 (by simp)
      omega
    · rw [if_neg h1]
      by_cases h2 : r.2.2.length = m
      · rw [if_neg (by simpa using h2)]
        cases h3 : r.2.2.any badV with
        | true =>
          rw [if_pos rfl]
          refine ⟨fun h => absurd h (by decide), fun h => ?_⟩
          have := (h.2 r (by simp)).2
          rw [h3] at this; cases this
        | false =>
          rw [if_neg (by simp), ih]
          constructor
          · rintro ⟨a, b⟩
            refine ⟨⟨fun x hx => ?_, a⟩, fun q hq => ?_⟩
            · rcases List.mem_cons.1 hx with rfl | hx
              · omega
              · have := (List.pairwise_cons.1 a).1 x hx
                omega
            · rcases List.mem_cons.1 hq with rfl | hq
              · exact ⟨h2, h3⟩
              · exact b q hq
          · rintro ⟨⟨_, a⟩, b⟩
            exact ⟨a, fun q hq => b q (List.mem_cons_of_mem _ hq)⟩
      · rw [if_pos h2]
        refine ⟨fun h => absurd h (by decide), fun h => ?_⟩
        exact absurd (h.2 r (by simp)).1 h2
/-- What a valid table of few rows is. -/
theorem tabE_iff {t : T3} : tabE t = 0 ↔ nameB t.1 = true ∧ t.2.1.length ≤ 16 ∧ t.2.2.length ≤ 1000 ∧ attrsBad t.2.1 = false ∧ rowsE 0 t.2.1.length t.2.2 = 0 := by
  unfold tabE
  cases h1 : nameB t.1 with
  | false => rw [if_pos rfl]; simp
  | true =>
    rw [if_neg (by simp)]
    by_cases h2 : 16 < t.2.1.length ∨ 1000 < t.2.2.length
    · rw [if_pos h2]
      refine ⟨fun h => absurd h (by decide), fun h => ?_⟩
      have := h.2.1; have := h.2.2.1; omega
    · rw [if_neg h2]
      cases h3 : attrsBad t.2.1 with
      | true => rw [if_pos rfl]; simp
      | false =>
        rw [if_neg (by simp)]
        exact ⟨fun h => ⟨rfl, by omega, by omega, rfl, h⟩, fun h => h.2.2.2.2⟩
theorem tabE_rowsM {t : T3} {rs : List Row3} (h : tabE t = 0) (hl : rs.length ≤ 1000) (hr : rowsE 0 t.2.1.length rs = 0) : tabE (t.1, t.2.1, rs) = 0 := by
  obtain ⟨a, b, _, d, _⟩ := tabE_iff.1 h
  exact tabE_iff.2 ⟨a, b, hl, d, hr⟩

/-! The agree sets of a row with the others. -/
def agoS (rs : List Row3) (id : Int) (ys : List V3) : List S := (rs.filter fun x => !decide (x.1 = id)).map fun x => rowsS x.2.2 ys x.2.2.length
theorem agoS_take {rs : List Row3} {i : Nat} {x : Row3} (h : rs[i]? = some x) (id : Int) (ys : List V3) : agoS (rs.take (i + 1)) id ys = if x.1 = id then agoS (rs.take i) id ys else agoS (rs.take i) id ys ++ [rowsS x.2.2 ys x.2.2.length] := by
  unfold agoS
  rw [take_next h, List.filter_append, List.map_append]
  by_cases h1 : x.1 = id
  · rw [if_pos h1]; simp [h1]
  · rw [if_neg h1]; simp [h1]
theorem agoS_drop {rs : List Row3} {i : Nat} {x : Row3} (h : rs[i]? = some x) (id : Int) (ys : List V3) : agoS (rs.drop i) id ys = if x.1 = id then agoS (rs.drop (i + 1)) id ys else rowsS x.2.2 ys x.2.2.length :: agoS (rs.drop (i + 1)) id ys := by
  unfold agoS
  rw [drop_at h]
  by_cases h1 : x.1 = id
  · rw [if_pos h1]; simp [h1]
  · rw [if_neg h1]; simp [h1]
theorem agoS_length (rs : List Row3) (id : Int) (ys : List V3) : (agoS rs id ys).length ≤ rs.length := by
  unfold agoS; rw [List.length_map]; exact List.length_filter_le _ _
/-- The numbers go up .. -/
def upL (ps : List S) (rs : List Row3) (id : Int) (ys : List V3) (i : Nat) : List S := ps ++ agoS (rs.take i) id ys
/-- .. and down. -/
def dnL (ps : List S) (rs : List Row3) (id : Int) (ys : List V3) (i : Nat) : List S := ps ++ agoS (rs.drop i) id ys
/-- What one row does to the numbers. -/
structure StepC (d : Int) (rs : List Row3) (id : Int) (ys : List V3) (L : Nat → List S) : Prop where
  same : ∀ (i : Nat) (x : Row3), rs[i]? = some x → x.1 = id → L (i + 1) = L i
  key : ∀ (i : Nat) (x : Row3), rs[i]? = some x → x.1 ≠ id → ∀ k, k = rowsS x.2.2 ys x.2.2.length → (cntF (L (i + 1)) k : Int) = cntF (L i) k + d
  other : ∀ (i : Nat) (x : Row3), rs[i]? = some x → x.1 ≠ id → ∀ s, s ≠ rowsS x.2.2 ys x.2.2.length → cntF (L (i + 1)) s = cntF (L i) s
  len : ∀ i, (L i).length ≤ 40200
theorem stepC_up {ps : List S} {rs : List Row3} {id : Int} {ys : List V3} (h : ps.length ≤ 40000) (hr : rs.length ≤ 200) : StepC 1 rs id ys (upL ps rs id ys) := by
  refine ⟨fun i x hx he => ?_, fun i x hx he k hk => ?_, fun i x hx he s hs => ?_, fun i => ?_⟩
  · unfold upL; rw [agoS_take hx, if_pos he]
  · subst hk
    unfold upL cntF
    rw [agoS_take hx, if_neg he, ← List.append_assoc, List.count_append (l₁ := ps ++ agoS (List.take i rs) id ys)]
    simp
  · unfold upL cntF
    rw [agoS_take hx, if_neg he, ← List.append_assoc, List.count_append (l₁ := ps ++ agoS (List.take i rs) id ys)]
    simp [Ne.symm hs]
  · unfold upL
    rw [List.length_append]
    have h1 := agoS_length (rs.take i) id ys
    have h2 := List.length_take_le i rs
    have h3 := List.length_take_le' i rs
    omega
theorem stepC_dn {ps : List S} {rs : List Row3} {id : Int} {ys : List V3} (h : ps.length ≤ 40000) (hr : rs.length ≤ 200) : StepC (-1) rs id ys (dnL ps rs id ys) := by
  refine ⟨fun i x hx he => ?_, fun i x hx he k hk => ?_, fun i x hx he s hs => ?_, fun i => ?_⟩
  · unfold dnL; rw [agoS_drop hx, if_pos he]
  · subst hk
    unfold dnL cntF
    rw [agoS_drop hx, if_neg he, List.count_append, List.count_append, List.count_cons_self]
    omega
  · unfold dnL cntF
    rw [agoS_drop hx, if_neg he, List.count_append, List.count_append, List.count_cons_of_ne (Ne.symm hs)]
  · unfold dnL
    rw [List.length_append]
    have h1 := agoS_length (rs.drop i) id ys
    rw [List.length_drop] at h1
    omega
theorem pairsS_mid {m : Nat} (r : Row3) (b : List Row3) (hr : r.2.2.length = m) (hb : ∀ x ∈ b, x.2.2.length = m) : ∀ (a : List Row3), (∀ x ∈ a, x.2.2.length = m) → (pairsS (a ++ r :: b)).Perm (pairsS (a ++ b) ++ (a ++ b).map fun q => pairS q r) := by
  intro a
  induction a with
  | nil =>
    intro _
    have e : b.map (pairS r) = b.map fun q => pairS q r := List.map_congr_left fun q hq => by
      show rowsS r.2.2 q.2.2 r.2.2.length = rowsS q.2.2 r.2.2 q.2.2.length
      rw [rowsS_comm, hr, hb q hq]
    show ((b.map (pairS r)) ++ pairsS b).Perm _
    rw [e]
    exact List.perm_append_comm
  | cons x a ih =>
    intro ha
    have h := ih fun y hy => ha y (List.mem_cons_of_mem _ hy)
    show (((a ++ r :: b).map (pairS x)) ++ pairsS (a ++ r :: b)).Perm (((a ++ b).map (pairS x) ++ pairsS (a ++ b)) ++ (pairS x r :: (a ++ b).map fun q => pairS q r))
    have h1 : ((a ++ r :: b).map (pairS x)).Perm (pairS x r :: (a ++ b).map (pairS x)) := (List.perm_middle.map (pairS x))
    refine (h1.append h).trans ?_
    rw [List.cons_append]
    refine (List.Perm.trans ?_ List.perm_middle.symm)
    rw [List.append_assoc]
theorem agoS_mid {a b : List Row3} {id : Int} {u : Value} {ys : List V3} (ha : ∀ x ∈ a, x.1 ≠ id) (hb : ∀ x ∈ b, x.1 ≠ id) : agoS (a ++ (id, u, ys) :: b) id ys = (a ++ b).map fun q => pairS q (id, u, ys) := by
  unfold agoS
  rw [List.filter_append, List.filter_cons]
  have f1 : a.filter (fun x => !decide (x.1 = id)) = a := List.filter_eq_self.2 fun x hx => by simp [ha x hx]
  have f2 : b.filter (fun x => !decide (x.1 = id)) = b := List.filter_eq_self.2 fun x hx => by simp [hb x hx]
  rw [f1, f2]
  simp
/-- A row comes: the numbers behind it. -/
theorem count_in {m : Nat} {a b : List Row3} {id : Int} {u : Value} {ys : List V3} {ps : List S} (ha : ∀ x ∈ a, x.1 ≠ id ∧ x.2.2.length = m) (hb : ∀ x ∈ b, x.1 ≠ id ∧ x.2.2.length = m) (hy : ys.length = m) (hp : ps.Perm (pairsS (a ++ b))) :
    (upL ps (a ++ (id, u, ys) :: b) id ys (a ++ (id, u, ys) :: b).length).Perm (pairsS (a ++ (id, u, ys) :: b)) := by
  unfold upL
  rw [List.take_length, agoS_mid (fun x hx => (ha x hx).1) (fun x hx => (hb x hx).1)]
  exact (hp.append_right _).trans (pairsS_mid (m := m) (id, u, ys) b hy (fun x hx => (hb x hx).2) a (fun x hx => (ha x hx).2)).symm
/-- A row goes: the numbers ahead of it. -/
theorem count_out {m : Nat} {a b : List Row3} {id : Int} {u : Value} {ys : List V3} {ps : List S} (ha : ∀ x ∈ a, x.1 ≠ id ∧ x.2.2.length = m) (hb : ∀ x ∈ b, x.1 ≠ id ∧ x.2.2.length = m) (hy : ys.length = m) (hp : ps.Perm (pairsS (a ++ (id, u, ys) :: b))) :
    ps.Perm (dnL (pairsS (a ++ b)) (a ++ (id, u, ys) :: b) id ys 0) := by
  unfold dnL
  rw [List.drop_zero, agoS_mid (fun x hx => (ha x hx).1) (fun x hx => (hb x hx).1)]
  exact hp.trans (pairsS_mid (m := m) (id, u, ys) b hy (fun x hx => (hb x hx).2) a (fun x hx => (ha x hx).2))
theorem dnL_end (ps : List S) (rs : List Row3) (id : Int) (ys : List V3) : dnL ps rs id ys rs.length = ps := by
  unfold dnL agoS; simp
theorem upL_zero (ps : List S) (rs : List Row3) (id : Int) (ys : List V3) : upL ps rs id ys 0 = ps := by
  unfold upL agoS; simp
theorem memB_cnt (ps : List S) (s : S) : memB ps s = !decide (cntF ps s = 0) := by
  unfold memB cntF
  rw [Bool.eq_iff_iff, decide_eq_true_iff, Bool.not_eq_true', decide_eq_false_iff_not, ← List.count_pos_iff]
  omega
/-- Rows that differ only in their slices have the same agree sets. -/
theorem pairsS_core : ∀ {rs rs' : List Row3}, rs'.map (fun r => (r.1, r.2.2)) = rs.map (fun r => (r.1, r.2.2)) → pairsS rs' = pairsS rs := by
  intro rs
  induction rs with
  | nil => intro rs' h; have h0 : rs' = [] := by simpa using h
           rw [h0]
  | cons r rs ih =>
    intro rs' h
    cases rs' with
    | nil => simp at h
    | cons r' rs' =>
      rw [List.map_cons, List.map_cons, List.cons.injEq, Prod.mk.injEq] at h
      obtain ⟨⟨h1, h2⟩, h3⟩ := h
      have h4 : rs'.map (fun r => r.2.2) = rs.map (fun r => r.2.2) := by
        have := congrArg (List.map Prod.snd) h3
        simpa [List.map_map, Function.comp_def] using this
      show (rs'.map (pairS r')) ++ pairsS rs' = (rs.map (pairS r)) ++ pairsS rs
      rw [ih h3]
      congr 1
      have e : ∀ (l : List Row3) (q : Row3), l.map (pairS q) = (l.map (fun r => r.2.2)).map fun ys => rowsS q.2.2 ys q.2.2.length := fun l q => by rw [List.map_map]; rfl
      rw [e, e, h4, h2]

/-! The minimal dependencies. -/
def clStep (x c k : S) : S := if (x &&& ~~~ k == 0#32) = true then c &&& k else c
/-- The attributes that a set determines, by the agree sets. -/
def clL (m : Nat) (ks : List S) (x : S) : S := ks.foldl (clStep x) (fullN m)
theorem clL_snoc (m : Nat) (ks : List S) (k x : S) : clL m (ks ++ [k]) x = clStep x (clL m ks x) k := by unfold clL; rw [List.foldl_append]; rfl
theorem clL_get (m : Nat) (ks : List S) (x : S) {i : Nat} (hi : i < 32) : (clL m ks x).getLsbD i = (decide (i < m) && ks.all fun k => !(x &&& ~~~ k == 0#32) || k.getLsbD i) := by
  have key : ∀ (ks : List S) (c : S), (ks.foldl (clStep x) c).getLsbD i = (c.getLsbD i && ks.all fun k => !(x &&& ~~~ k == 0#32) || k.getLsbD i) := by
    intro ks
    induction ks with
    | nil => intro c; simp
    | cons k ks ih =>
      intro c
      rw [List.foldl_cons, ih, List.all_cons]
      unfold clStep
      cases h : (x &&& ~~~ k == 0#32) with
      | true => rw [if_pos rfl, BitVec.getLsbD_and]; simp [Bool.and_assoc]
      | false => rw [if_neg (by simp)]; simp
  unfold clL
  rw [key, fullN_get _ _ hi]
theorem clL_congr {m : Nat} {a b : List S} (h : ∀ s, s ∈ a ↔ s ∈ b) (x : S) : clL m a x = clL m b x := bv_ext fun i hi => by
  rw [clL_get _ _ _ hi, clL_get _ _ _ hi]
  congr 1
  rw [Bool.eq_iff_iff, List.all_eq_true, List.all_eq_true]
  exact ⟨fun k s hs => k s ((h s).2 hs), fun k s hs => k s ((h s).1 hs)⟩
/-- A set determines an attribute that it does not have. -/
def qB (m : Nat) (ps : List S) (a : Nat) (s : S) : Bool := (clL m ps s).getLsbD a && !s.getLsbD a
/-- .. and no earlier one that it contains does. -/
def pickB (Q : S → Bool) (xs : List S) (i : Nat) : Bool := Q (xs.getD i 0#32) && !(selL Q (xs.take i)).any fun y => y &&& ~~~ (xs.getD i 0#32) == 0#32
theorem selL_pick {Q : S → Bool} {xs : List S} {i : Nat} {x : S} (h : xs[i]? = some x) : selL Q (xs.take (i + 1)) = if pickB Q xs i = true then selL Q (xs.take i) ++ [x] else selL Q (xs.take i) := by
  rw [selL_next h]
  unfold selStep pickB
  rw [show xs.getD i 0#32 = x by simp [List.getD, h]]
theorem mem_selL {Q : S → Bool} {xs : List S} {x : S} : ∀ k, k ≤ xs.length → (x ∈ selL Q (xs.take k) ↔ ∃ i, i < k ∧ xs[i]? = some x ∧ pickB Q xs i = true) := by
  intro k
  induction k with
  | zero => intro _; simp [selL]
  | succ k ih =>
    intro hk
    obtain ⟨y, hy⟩ := get_some (show k < xs.length by omega)
    have ih := ih (by omega)
    rw [selL_pick hy]
    cases hp : pickB Q xs k with
    | true =>
      rw [if_pos rfl, List.mem_append, ih, List.mem_singleton]
      constructor
      · rintro (⟨i, h1, h2, h3⟩ | rfl)
        · exact ⟨i, by omega, h2, h3⟩
        · exact ⟨k, by omega, hy, hp⟩
      · rintro ⟨i, h1, h2, h3⟩
        by_cases e : i = k
        · subst e; rw [hy] at h2; exact .inr (Option.some.inj h2).symm
        · exact .inl ⟨i, by omega, h2, h3⟩
    | false =>
      rw [if_neg (by simp), ih]
      constructor
      · rintro ⟨i, h1, h2, h3⟩; exact ⟨i, by omega, h2, h3⟩
      · rintro ⟨i, h1, h2, h3⟩
        refine ⟨i, ?_, h2, h3⟩
        by_cases e : i = k
        · subst e; rw [hp] at h3; cases h3
        · omega
/-- The dependencies of one left side, as far as an attribute. -/
def rowO (Q : Nat → S → Bool) (xs : List S) (i a : Nat) : List F := ((List.range a).filter fun b => pickB (Q b) xs i).map fun b => (xs.getD i 0#32, bit b)
def minO (Q : Nat → S → Bool) (m : Nat) (xs : List S) (k : Nat) : List F := (List.range k).flatMap fun i => rowO Q xs i m
theorem rowO_next (Q : Nat → S → Bool) (xs : List S) (i a : Nat) : rowO Q xs i (a + 1) = rowO Q xs i a ++ if pickB (Q a) xs i = true then [(xs.getD i 0#32, bit a)] else [] := by
  unfold rowO
  rw [List.range_succ, List.filter_append, List.map_append]
  cases h : pickB (Q a) xs i <;> simp [h]
theorem rowO_zero (Q : Nat → S → Bool) (xs : List S) (i : Nat) : rowO Q xs i 0 = [] := rfl
theorem minO_next (Q : Nat → S → Bool) (m : Nat) (xs : List S) (k : Nat) : minO Q m xs (k + 1) = minO Q m xs k ++ rowO Q xs k m := by
  unfold minO; rw [List.range_succ, List.flatMap_append]; simp
theorem rowO_length (Q : Nat → S → Bool) (xs : List S) (i a : Nat) : (rowO Q xs i a).length ≤ a := by
  unfold rowO
  rw [List.length_map]
  exact Nat.le_trans (List.length_filter_le _ _) (by simp)
theorem minO_length (Q : Nat → S → Bool) (m : Nat) (xs : List S) : ∀ k, (minO Q m xs k).length ≤ k * m := by
  intro k
  induction k with
  | zero => simp [minO]
  | succ k ih =>
    rw [minO_next, List.length_append, Nat.add_mul]
    have := rowO_length Q xs k m
    omega
theorem mem_minO {Q : Nat → S → Bool} {m : Nat} {xs : List S} {f : F} : f ∈ minO Q m xs xs.length ↔ ∃ a : Nat, a < m ∧ f.1 ∈ selL (Q a) xs ∧ f.2 = bit a := by
  unfold minO
  rw [List.mem_flatMap]
  have e : ∀ a x, x ∈ selL (Q a) xs ↔ ∃ i, i < xs.length ∧ xs[i]? = some x ∧ pickB (Q a) xs i = true := fun a x => by
    have := mem_selL (Q := Q a) (xs := xs) (x := x) xs.length (Nat.le_refl _)
    rwa [List.take_length] at this
  constructor
  · rintro ⟨i, hi, hf⟩
    unfold rowO at hf
    obtain ⟨a, ha, rfl⟩ := List.mem_map.1 hf
    obtain ⟨h1, h2⟩ := List.mem_filter.1 ha
    have hi := List.mem_range.1 hi
    refine ⟨a, List.mem_range.1 h1, (e a _).2 ⟨i, hi, ?_, h2⟩, rfl⟩
    simp [List.getD, List.getElem?_eq_getElem hi]
  · rintro ⟨a, ha, hf, h2⟩
    obtain ⟨i, hi, hx, hp⟩ := (e a _).1 hf
    refine ⟨i, List.mem_range.2 hi, ?_⟩
    unfold rowO
    refine List.mem_map.2 ⟨a, List.mem_filter.2 ⟨List.mem_range.2 ha, hp⟩, ?_⟩
    rw [show xs.getD i 0#32 = f.1 by simp [List.getD, hx], ← h2]
theorem rowO_ord {Q : Nat → S → Bool} {xs : List S} {i m : Nat} (hm : m ≤ 32) : (rowO Q xs i m).Pairwise befF := by
  unfold rowO
  rw [List.pairwise_map]
  refine (List.Pairwise.filter _ List.pairwise_lt_range).imp_of_mem fun {a b} ha hb h => .inr ⟨rfl, ?_⟩
  have h1 := List.mem_range.1 (List.mem_filter.1 ha).1
  have h2 := List.mem_range.1 (List.mem_filter.1 hb).1
  show iv (bit a) < iv (bit b)
  rw [iv_bitN (by omega), iv_bitN (by omega)]
  have := Nat.pow_lt_pow_right (show 1 < 2 by decide) h
  omega
theorem minO_ord {Q : Nat → S → Bool} {m : Nat} {xs : List S} (hm : m ≤ 32) (hx : xs.Pairwise bef) : ∀ k, k ≤ xs.length → (minO Q m xs k).Pairwise befF := by
  intro k
  induction k with
  | zero => intro _; exact List.Pairwise.nil
  | succ k ih =>
    intro hk
    rw [minO_next, List.pairwise_append]
    refine ⟨ih (by omega), rowO_ord hm, fun f hf g hg => .inl ?_⟩
    unfold minO at hf
    obtain ⟨i, hi, hf⟩ := List.mem_flatMap.1 hf
    have hi := List.mem_range.1 hi
    unfold rowO at hf hg
    obtain ⟨a, _, rfl⟩ := List.mem_map.1 hf
    obtain ⟨b, _, rfl⟩ := List.mem_map.1 hg
    have := List.pairwise_iff_getElem.1 hx i k (by omega) (by omega) hi
    simpa [List.getD, List.getElem?_eq_getElem (show i < xs.length by omega), List.getElem?_eq_getElem (show k < xs.length by omega)] using this
theorem qB_det {m : Nat} {rs : List Row3} (hw : Wide m rs) (hm : m ≤ 32) {a : Nat} (ha : a < m) {s : S} (hs : sub s (fullN m)) : qB m (pairsS rs) a s = (!s.getLsbD a && detB rs a s) := by
  unfold qB
  rw [clL_get _ _ _ (by omega), decide_eq_true ha, Bool.true_and, Bool.and_comm]
  congr 1
  unfold detB
  rw [Bool.eq_iff_iff, satB_iff (f := (s, bit a)) hw hm hs (bit_full ha hm), List.all_eq_true]
  refine forall_congr' fun p => forall_congr' fun _ => ?_
  rw [Bool.or_eq_true, Bool.not_eq_true']
  show _ ↔ (sub s p → sub (bit a) p)
  rw [bit_le (by omega)]
  cases h : (s &&& ~~~ p == 0#32) with
  | true =>
    have : sub s p := by rwa [beq_iff_eq, andNot_zero_iff] at h
    simp [this]
  | false =>
    have : ¬ sub s p := fun k => by rw [← andNot_zero_iff] at k; rw [k] at h; simp at h
    simp [this]
/-- What the state finds is what is found from scratch. -/
theorem minO_all {t : T3} (h : fE t = 0) {xs : List S} (hx : IsOrd xs (fun s => sub s (fullN t.2.1.length))) : minO (qB t.2.1.length (pairsS t.2.2)) t.2.1.length xs xs.length = allR t := by
  have h10 := (fE_ok h).2.1
  have hk := fE_tab h
  obtain ⟨h16, -, hrows⟩ := tabE2_ok hk
  have hw : Wide t.2.1.length t.2.2 := fun r hr => (hrows r hr).1
  have hA : allR t = bndL t.2.1.length t.2.2 16 := by unfold allR; rw [if_pos h]
  refine ordF_uniq (minO_ord (by omega) hx.1 _ (Nat.le_refl _)) (by rw [hA]; exact bndG_ord (by omega)) fun f => ?_
  rw [mem_minO, mem_allR h]
  refine exists_congr fun a => and_congr_right fun ha => ?_
  have hx2 : IsOrd xs (fun s => sub s (fullN t.2.1.length) ∧ pop s ≤ 32) := hx.congr fun s => ⟨fun k => ⟨k, pop_le s⟩, fun k => k.1⟩
  rw [selL_for (rs := t.2.2) (by omega) hx2 fun s hs => qB_det hw (by omega) ha hs, forK_all (by omega) (by omega) (by omega)]
theorem minO_congr {Q Q' : Nat → S → Bool} (h : ∀ a s, Q a s = Q' a s) : Q = Q' := funext fun a => funext fun s => h a s
theorem qB_congr {m : Nat} {a b : List S} (h : ∀ s, s ∈ a ↔ s ∈ b) : qB m a = qB m b := minO_congr fun i s => by unfold qB; rw [clL_congr h]

end Go.Proofs.YtdiafhbbmliefaaGreatDoor


/- Maps with their keys: deletion; ranging over keys and elements. No program. -/
namespace Go.Proofs.YtdiafhbbmliefaaGreatDoor
open Go.RowKit
open Go.Maps (Keyed)

section
variable {P : Program} {e : TypeId} {β : Type} {E : Elems P e β} {z : β} {k : TypeId} {w : World} {b r n : Nat} {f : S → β} {p left : S → Bool} {cnt : Nat}
theorem wpList_kdel {ops : Array Oper} {rest : List Oper} {o : Oper} {a : Act} {Q : Exit → Act → World → Prop} (hg : o.guard = none) (m x : Operand) (t : TypeId) (hop : o.op = Op.call { callee := Callee.builtin Builtin.delete, args := #[m, x], argTypes := #[t, k] })
    (hk : P.underlying k = some (.int .u32)) (ht : P.underlying t = some (.map k e))
    (hm : a.eval m = .map (some b)) (hown : OwnK E z k w b n f p) (s : S) (hx : a.eval x = enc s)
    (hK : ∀ w', OwnK E z k w' b n (upd f s z) (upd p s false) → w.grownBy w' (some b) → wpList P ops Q rest (a.put o.dst (.tuple #[])) w') : wpList P ops Q (o :: rest) a w := by
  obtain ⟨D, h1, h2, h3⟩ := hown
  refine wpList_delete_own w hg m x t k hop e (Maps.int_keyed hk) ht _ b n D hm h1 _ (keyL s) hx (Maps.keyOf_int_mk hk (wf_iv s)) ?_
  intro w' r1 r2
  refine hK w' ⟨_, r1, fun t => ?_, fun t => ?_⟩ r2.grown
  · by_cases h : t = s
    · subst h
      rw [upd_same]
      exact Maps.atKey_del_same _
    · rw [upd_other _ _ h, Maps.atKey_del_other (keyL_ne h)]
      exact h2 t
  · by_cases h : t = s
    · subst h
      rw [upd_same]
      exact Maps.has_del_same
    · rw [upd_other _ _ h, Maps.has_del_other (keyL_ne h)]
      exact h3 t
theorem wpList_knextv {ops : Array Oper} {rest : List Oper} {o : Oper} {a : Act} {Q : Exit → Act → World → Prop} (hg : o.guard = none) (it : Operand) (hop : o.op = Op.next it false)
    (hk : P.underlying k = some (.int .u32))
    (hit : a.eval it = .pointer (some ⟨r, 0, none⟩)) (h : RngK E z k w b r n f p left cnt)
    (hDone : cnt = 0 → (∀ s, left s = false) → wpList P ops Q rest (a.put o.dst (.tuple #[.bool false])) w)
    (hMore : ∀ (s : S) (w' : World) (cnt' : Nat), left s = true → p s = true → RngK E z k w' b r n f p (fun t => left t && !decide (t = s)) cnt' → cnt' < cnt → w.grownBy w' (some r) → w'.heap.size = w.heap.size →
      (Instr.entry (.pointer (some ⟨r, 0, none⟩))).run P w' = .ok (.tuple #[.int .u32 (iv s), E.el (f s)]) w' → wpList P ops Q rest (a.put o.dst (.tuple #[.bool true, .int .u32 (iv s), E.el (f s)])) w') : wpList P ops Q (o :: rest) a w := by
  obtain ⟨D, lf, h1, h2, h3, h4, h5⟩ := h
  refine wpList_next_ranges w hg it hop k (Maps.int_keyed hk) (plainElem P e) enc (id : Value → Value) ?_ (fun v _ _ => ⟨v, rfl⟩) b r n D lf cnt hit h1 ?_ ?_
  · intro key kl hkey
    obtain ⟨x, rfl, _, hw⟩ := Maps.keyOf_int_inv hk hkey
    have hx : 0 ≤ x ∧ x < 4294967296 := by
      simp [Lit.wf, IntKind.min, IntKind.max, IntKind.signed, IntKind.bits] at hw
      exact ⟨by omega, by omega⟩
    exact ⟨BitVec.ofInt 32 x, by rw [enc_eq, iv_ofInt x hx.1 hx.2]⟩
  · intro h0 hl
    exact hDone h0 fun s => by rw [← h4, hl]
  · intro s c kl y w' cnt' hkey hl hR hat hr hlt hgr hsz hen
    obtain rfl : kl = keyL s := by
      have := Maps.keyOf_int_mk hk (wf_iv s)
      rw [enc_eq] at hkey
      rw [this] at hkey
      exact (Option.some.inj hkey).symm
    rw [h4] at hl
    have hy : y.1 = E.dl (f s) := by rw [← hat (E.dl z)]; exact h2 s
    have hp2 : y.2 = [] := plainElem_places hR
    obtain rfl : c = E.el (f s) := E.inv c (f s) y.2 (by rw [← hy]; exact hR)
    exact hMore s w' cnt' hl (h5 s hl) ⟨D, _, hr, h2, h3, fun t => by rw [h4, keyL_same], fun t ht => h5 t (by simp at ht; exact ht.1)⟩ hlt hgr hsz hen
end

end Go.Proofs.YtdiafhbbmliefaaGreatDoor


/- The walk of maintain.agreeSet. -/
namespace Go.Proofs.YtdiafhbbmliefaaGreatDoor
open Go.RowKit
set_option linter.unusedVariables false

attribute [local irreducible] Go.wpQuiet
set_option maxHeartbeats 1600000 in
set_option maxRecDepth 100000 in
theorem magree_any (i j : Int) (xs ys : List V3) (u v : Value) (w : World) (hu : RdV w u xs) (hv : RdV w v ys) (hl : ys.length = xs.length) (h32 : xs.length ≤ 32) :
    Calls Tryz.prog 69 #[.agg #[.int .i64 i, u], .agg #[.int .i64 j, v]] w fun e w' => e = .returned (.int .u32 (iv (rowsS xs ys xs.length))) ∧ Below w.heap.size w w' := by
  have hb1 := below_alloc w (.cells #[.int .i64 i, u] 44)
  have C1 := hid (fun W h => cells2 (w := w) (a := .int .i64 i) (b := u) (t := 44) W h)
  obtain ⟨w1, hw1⟩ : ∃ w1 : World, w.alloc (.cells #[.int .i64 i, u] 44) = w1 := ⟨_, rfl⟩
  rw [hw1] at hb1 C1
  have hs1 : w1.heap.size = w.heap.size + 1 := by rw [← hw1]; simp
  have hb2 := below_alloc w1 (.cells #[.int .i64 j, v] 44)
  have C2 := hid (fun W h => cells2 (w := w1) (a := .int .i64 j) (b := v) (t := 44) W h)
  obtain ⟨w2, hw2⟩ : ∃ w2 : World, w1.alloc (.cells #[.int .i64 j, v] 44) = w2 := ⟨_, rfl⟩
  rw [hw2] at hb2 C2
  have B2 := hid (hb1.trans (hb2.mono hb1.size))
  have CC := hid (fun (W : World) (h : Below w2.heap.size w2 W) => (⟨(C1.out W (hb2.trans (h.mono hb2.size))).2, by have := (C2.out W h).2; rwa [hs1] at this⟩ : W.cell? ⟨w.heap.size, 1, none⟩ = some u ∧ W.cell? ⟨w.heap.size + 1, 1, none⟩ = some v))
  have WW := hid (show (w.alloc (.cells #[.int .i64 i, u] 44)).alloc (.cells #[.int .i64 j, v] 44) = w2 by rw [hw1, hw2])
  have U := hid (RdC.below hu B2.out)
  have V := hid (RdC.below hv B2.out)
  clear hb1 hb2 C1 C2 hw1 hw2 hs1 hu hv
  obtain ⟨uo, ucap, rfl, hul, huc⟩ := RdV.split U.out
  obtain ⟨vo, vcap, rfl, hvl, hvc⟩ := RdV.split V.out
  have UC := hid huc
  have VC := hid hvc
  clear huc hvc
  obtain ⟨c1, d1⟩ := CC.out w2 (Below.refl _ _)
  rw [hl] at CC d1 V WW ⊢
  go_enter Tryz.func69, Tryz.ntmps69
  go_wp2_with fail
  rw [WW.out]
  go_wp2_with fail
  go_loopw [5, 11] (fun s i wr => ∃ k : Nat, k ≤ xs.length ∧ i = .int .i64 k ∧ s = .int .u32 (iv (rowsS xs ys k)) ∧ Below w2.heap.size w2 wr) (fun _ i _ => xs.length - (intOf i).toNat)
  case atStart => exact ⟨0, Nat.zero_le _, rfl, rfl, Below.refl _ _⟩
  case round =>
    obtain ⟨k, hk, rfl, rfl, hnx⟩ := hrel
    have hsz := hnx.size
    by_cases hlt : k < xs.length
    · obtain ⟨x, hx⟩ := get_some hlt
      obtain ⟨y, hy⟩ := get_some (show k < ys.length by omega)
      obtain ⟨b, off, rfl, hd⟩ := UC.out k x hx
      obtain ⟨b', off', rfl, hd'⟩ := VC.out k y hy
      have RS := hid (rowsS_at hx hy)
      have hba := below_alloc wr (.cells #[.int .i64 x.1, .int .i64 x.2.1, .string x.2.2] 37)
      have NX := hid (hnx.trans (hba.mono hsz))
      obtain ⟨e0, e1, e2⟩ := hd wr hnx
      have hx3 := cells3 (w := wr) (a := .int .i64 x.1) (b := .int .i64 x.2.1) (c := .string x.2.2) (t := 37) _ (Below.refl _ _)
      obtain ⟨wa, hwa⟩ : ∃ wa : World, wr.alloc (.cells #[.int .i64 x.1, .int .i64 x.2.1, .string x.2.2] 37) = wa := ⟨_, rfl⟩
      rw [hwa] at hx3 NX
      have WA := hid hwa
      obtain ⟨g0, g1, g2⟩ := hx3
      obtain ⟨f0, f1, f2⟩ := hd' _ NX.out
      obtain ⟨c1', d1'⟩ := CC.out _ NX.out
      have k0 : (0 : Int) ≤ (k : Int) := by omega
      have k1 : k < 32 := by omega
      have CV := hid (fun z : After wa => Calls.after z (vcompare_any x y z.world))
      have VZ := vcmp_zero x y
      have m0 : ∀ z : After wa, z.world.cell? ⟨wr.heap.size, 0, none⟩ = some (.int .i64 x.1) := fun z => After.cell g0 z
      have m1 : ∀ z : After wa, z.world.cell? ⟨wr.heap.size, 1, none⟩ = some (.int .i64 x.2.1) := fun z => After.cell g1 z
      have m2 : ∀ z : After wa, z.world.cell? ⟨wr.heap.size, 2, none⟩ = some (.string x.2.2) := fun z => After.cell g2 z
      have m3 : ∀ z : After wa, z.world.cell? ⟨w.heap.size + 1, 1, none⟩ = some (.slice (some ⟨b', off', none⟩) xs.length vcap) := fun z => After.cell d1' z
      have m4 : ∀ z : After wa, z.world.cell? ⟨b', off' + k * 3, none⟩ = some (.int .i64 y.1) := fun z => After.cell f0 z
      have m5 : ∀ z : After wa, z.world.cell? ⟨b', off' + k * 3 + 1, none⟩ = some (.int .i64 y.2.1) := fun z => After.cell f1 z
      have m6 : ∀ z : After wa, z.world.cell? ⟨b', off' + k * 3 + 2, none⟩ = some (.string y.2.2) := fun z => After.cell f2 z
      generalize vcmp x y = vc at *
      clear hd hd' hx hy hnx hba c1 d1 hwa g0 g1 g2 f0 f1 f2 c1' d1'
      cases hq : eqV x y with
      | true =>
        rw [hq] at VZ
        rw [hq, if_pos rfl] at RS
        go_wp2_with fail
        rw [WA.out]
        refine wp_region_after (by kernel_rfl) (by kernel_rfl) ?_
        repeat (any_goals (quiet_step (first | exact CV.out _)))
        refine wpQuiet_nil ?_
        intro wq hbq
        have NQ := hid (NX.out.trans (hbq.mono NX.out.size))
        clear hbq m0 m1 m2 m3 m4 m5 m6 CV
        go_wp2_with fail
        go_roundw
        case rel => exact ⟨k + 1, by omega, by go_num, by rw [RS.out], NQ.out⟩
        case measure => simp [intOf]; omega
      | false =>
        rw [hq] at VZ
        rw [hq, if_neg (by simp)] at RS
        go_wp2_with fail
        rw [WA.out]
        refine wp_region_after (by kernel_rfl) (by kernel_rfl) ?_
        repeat (any_goals (quiet_step (first | exact CV.out _)))
        refine wpQuiet_nil ?_
        intro wq hbq
        have NQ := hid (NX.out.trans (hbq.mono NX.out.size))
        clear hbq m0 m1 m2 m3 m4 m5 m6 CV
        go_wp2_with fail
        go_roundw
        case rel => exact ⟨k + 1, by omega, by go_num, by rw [RS.out], NQ.out⟩
        case measure => simp [intOf]; omega
    · have hk2 : k = xs.length := by omega
      have HN := hid hnx
      clear hnx
      go_wp2_with fail
      go_ret
      exact ⟨by rw [hk2]; rfl, B2.out.trans (HN.out.mono B2.out.size)⟩

end Go.Proofs.YtdiafhbbmliefaaGreatDoor


/- The walk of maintain's count. -/
namespace Go.Proofs.YtdiafhbbmliefaaGreatDoor
open Go.RowKit
set_option linter.unusedVariables false

theorem RdR.grown {w w' : World} {v : Value} {rs : List Row3} {o : Option Nat} (h : RdR w v rs) (hg : w.grownBy w' o) (hf : FarV v o) (hf2 : ∀ r ∈ rs, FarV r.2.1 o) : RdR w' v rs :=
  ⟨RdC.grown h.1 hg hf, fun r hr => RdC.grown (h.2 r hr) hg (hf2 r hr)⟩
theorem RdR.at {w : World} {ao : Option Addr} {n cap : Nat} {rs : List Row3} (h : RdR w (.slice ao n cap) rs) {k : Nat} {r : Row3} (hr : rs[k]? = some r) :
    ∃ b off, ao = some ⟨b, off, none⟩ ∧ w.cell? ⟨b, off + k * 2, none⟩ = some (.int .i64 r.1) ∧ w.cell? ⟨b, off + k * 2 + 1, none⟩ = some r.2.1 ∧ RdV w r.2.1 r.2.2 := by
  obtain ⟨ao', cap', e, -, hc⟩ := RdR.split h
  cases e
  obtain ⟨⟨b, off, e2, h2⟩, h3⟩ := hc k r hr
  obtain ⟨h4, h5⟩ := h2 w (Below.refl _ _)
  exact ⟨b, off, e2, h4, h5, h3 w (Below.refl _ _)⟩
theorem grow_of_below {w w' : World} {o : Option Nat} (h : Below w.heap.size w w') : w.grownBy w' o := ⟨h.os, h.tape, h.output, h.size, fun i hi _ => h.block i hi⟩

theorem grow_trans' {w a b : World} {row : Option Nat} (h : w.grownBy a row) (k : a.grownBy b row) : w.grownBy b row :=
  ⟨k.os.trans h.os, k.tape.trans h.tape, k.output.trans h.output, Nat.le_trans h.size k.size, fun j hj hne => (k.block j (Nat.lt_of_lt_of_le hj h.size) hne).trans (h.block j hj hne)⟩

theorem stepC_put {d : Int} {rs : List Row3} {id : Int} {ys : List V3} {L : Nat → List S} (h : StepC d rs id ys L) {i : Nat} {x : Row3} (hx : rs[i]? = some x) (hne : x.1 ≠ id) {k : S} (hk : k = rowsS x.2.2 ys x.2.2.length) (h0 : cntF (L (i + 1)) k ≠ 0) :
    (∀ s, upd (cntF (L i)) k (cntF (L (i + 1)) k) s = cntF (L (i + 1)) s) ∧ ∀ s, upd (memB (L i)) k true s = memB (L (i + 1)) s := by
  refine ⟨fun s => ?_, fun s => ?_⟩
  · by_cases e : s = k
    · subst e; rw [upd_same]
    · rw [upd_other _ _ e, h.other i x hx hne s (by rw [← hk]; exact e)]
  · by_cases e : s = k
    · subst e; rw [upd_same, memB_cnt]; simp [h0]
    · rw [upd_other _ _ e, memB_cnt, memB_cnt, h.other i x hx hne s (by rw [← hk]; exact e)]
theorem stepC_del {d : Int} {rs : List Row3} {id : Int} {ys : List V3} {L : Nat → List S} (h : StepC d rs id ys L) {i : Nat} {x : Row3} (hx : rs[i]? = some x) (hne : x.1 ≠ id) {k : S} (hk : k = rowsS x.2.2 ys x.2.2.length) (h0 : cntF (L (i + 1)) k = 0) :
    (∀ s, upd (upd (cntF (L i)) k (cntF (L (i + 1)) k)) k 0 s = cntF (L (i + 1)) s) ∧ ∀ s, upd (upd (memB (L i)) k true) k false s = memB (L (i + 1)) s := by
  refine ⟨fun s => ?_, fun s => ?_⟩
  · by_cases e : s = k
    · subst e; rw [upd_same, h0]
    · rw [upd_other _ _ e, upd_other _ _ e, h.other i x hx hne s (by rw [← hk]; exact e)]
  · by_cases e : s = k
    · subst e; rw [upd_same, memB_cnt]; simp [h0]
    · rw [upd_other _ _ e, upd_other _ _ e, memB_cnt, memB_cnt, h.other i x hx hne s (by rw [← hk]; exact e)]

set_option maxHeartbeats 3200000 in
set_option maxRecDepth 100000 in
theorem mcount_any (b m n : Nat) (rs : List Row3) (rv u : Value) (rid d : Int) (ys : List V3) (L : Nat → List S) (w : World)
    (hc2 : w.cell? ⟨b, 2, none⟩ = some rv) (hc3 : w.cell? ⟨b, 3, none⟩ = some (.map (some m))) (hbm : b ≠ m)
    (hr : RdR w rv rs) (hf : FarV rv (some m)) (hf2 : ∀ r ∈ rs, FarV r.2.1 (some m)) (hu : RdV w u ys) (hfu : FarV u (some m))
    (hw : ∀ r ∈ rs, r.2.2.length = ys.length) (h32 : ys.length ≤ 32) (h200 : rs.length ≤ 200)
    (hS : StepC d rs rid ys L) (hd : d = 1 ∨ d = -1) (ho : OwnC w m n (cntF (L 0)) (memB (L 0))) (hn : n ≤ 1000000) :
    Calls Tryz.prog 29 #[.pointer (some ⟨b, 0, none⟩), .agg #[.int .i64 rid, u], .int .i64 d] w fun e w' =>
      e = .returned (.tuple #[]) ∧ ∃ n', OwnC w' m n' (cntF (L rs.length)) (memB (L rs.length)) ∧ n' ≤ n + rs.length ∧ w.grownBy w' (some m) := by
  have hblt := World.block_lt_of_cell? _ _ hc2
  have hmlt := ho.lt
  have hb0 := below_alloc w (.cells #[.int .i64 rid, u] 44)
  have C2 := hid (fun W h => cells2 (w := w) (a := .int .i64 rid) (b := u) (t := 44) W h)
  obtain ⟨w0, hw0⟩ : ∃ w0 : World, w.alloc (.cells #[.int .i64 rid, u] 44) = w0 := ⟨_, rfl⟩
  rw [hw0] at hb0 C2
  have hs0 : w0.heap.size = w.heap.size + 1 := by rw [← hw0]; simp
  have BC := hid (show w0.cell? ⟨b, 2, none⟩ = some rv ∧ w0.cell? ⟨b, 3, none⟩ = some (.map (some m)) from ⟨(hb0.cell (p := ⟨b, 2, none⟩) hblt).trans hc2, (hb0.cell (p := ⟨b, 3, none⟩) hblt).trans hc3⟩)
  have R0 := hid (hr.below hb0)
  have U0 := hid (RdC.below hu hb0)
  have HO := hid (ho.below hb0)
  obtain ⟨k0, k1⟩ := C2.out w0 (Below.refl _ _)
  obtain ⟨ro, rcap, rfl, -, -⟩ := RdR.split R0.out
  obtain ⟨uo, ucap, rfl, -⟩ := RdV.split U0.out
  have KB := hid (fun (W : World) (hg : w0.grownBy W (some m)) => show W.cell? ⟨b, 2, none⟩ = some (.slice ro rs.length rcap) ∧ W.cell? ⟨b, 3, none⟩ = some (.map (some m)) ∧ W.cell? ⟨w.heap.size, 0, none⟩ = some (.int .i64 rid) ∧ W.cell? ⟨w.heap.size, 1, none⟩ = some (.slice uo ys.length ucap) from by
    have ne1 : some b ≠ some m := fun e => hbm (Option.some.inj e)
    have ne2 : some w.heap.size ≠ some m := fun e => by have := Option.some.inj e; omega
    exact ⟨(hg.cell_far ⟨b, 2, none⟩ (by show b < _; have : b < w.heap.size := hblt; omega) ne1).trans BC.out.1, (hg.cell_far ⟨b, 3, none⟩ (by show b < _; have : b < w.heap.size := hblt; omega) ne1).trans BC.out.2,
      (hg.cell_far ⟨w.heap.size, 0, none⟩ (by show w.heap.size < _; omega) ne2).trans k0, (hg.cell_far ⟨w.heap.size, 1, none⟩ (by show w.heap.size < _; omega) ne2).trans k1⟩)
  have KR := hid (fun (W : World) (hg : w0.grownBy W (some m)) => show RdR W (.slice ro rs.length rcap) rs ∧ RdV W (.slice uo ys.length ucap) ys from ⟨R0.out.grown hg hf hf2, RdC.grown U0.out hg hfu⟩)
  have W0 := hid hw0
  have G0 := hid (show w.grownBy w0 (some m) from grow_of_below hb0)
  have HW := hid hw
  have HS := hid hS
  have HD := hid hd
  have M0 := hid (show m < w0.heap.size by omega)
  clear hc2 hc3 hr hu hf hf2 hfu hw hS ho hb0 hw0 k0 k1 BC R0 U0 C2 hblt
  have hd1 : -1 ≤ d := by rcases hd with rfl | rfl <;> decide
  have hd2 : d ≤ 1 := by rcases hd with rfl | rfl <;> decide
  clear hd
  go_enter Tryz.func29, Tryz.ntmps29
  obtain ⟨a2, a3, a4, a5⟩ := KB.out w0 (World.grownBy.refl _ _)
  rw [← W0.out] at a2 a3 a4 a5
  go_wp2_with fail
  rw [W0.out] at a2 a3 a4 a5 ⊢
  go_loopw [15] (fun i wr => ∃ (k n' : Nat), k ≤ rs.length ∧ i = .int .i64 k ∧ Hid (OwnC wr m n' (cntF (L k)) (memB (L k))) ∧ n' ≤ n + k ∧ Hid (w0.grownBy wr (some m))) (fun i _ => rs.length - (intOf i).toNat)
  case atStart => exact ⟨0, n, Nat.zero_le _, rfl, HO, Nat.le_refl _, hid (World.grownBy.refl _ _)⟩
  case round =>
    clear a2 a3 a4 a5
    obtain ⟨k, n', hk, rfl, OW, hn', GR⟩ := hrel
    have k00 : (0 : Int) ≤ (k : Int) := by omega
    have k200 : (k : Int) ≤ 200 := by omega
    by_cases hlt : k < rs.length
    · obtain ⟨⟨xid, xu, xs⟩, hx⟩ := get_some hlt
      obtain ⟨a2, a3, a4, a5⟩ := KB.out wr GR.out
      obtain ⟨RR, RU⟩ := KR.out wr GR.out
      obtain ⟨bb, off, rfl, e0, e1, hxv⟩ := RR.at hx
      simp only at e0 e1 hxv
      have HXL := hid (show xs.length = ys.length from HW.out _ (List.mem_of_getElem? hx))
      obtain ⟨xo, xcap, rfl, -⟩ := RdV.split hxv
      have hba := below_alloc wr (.cells #[.int .i64 xid, .slice xo xs.length xcap] 44)
      obtain ⟨y0, y1⟩ := cells2 (w := wr) (a := .int .i64 xid) (b := .slice xo xs.length xcap) (t := 44) _ (Below.refl _ _)
      obtain ⟨wa, hwa⟩ : ∃ wa : World, wr.alloc (.cells #[.int .i64 xid, .slice xo xs.length xcap] 44) = wa := ⟨_, rfl⟩
      rw [hwa] at hba y0 y1
      have WA := hid hwa
      have GA := hid (show w0.grownBy wa (some m) from grow_trans' GR.out (grow_of_below hba))
      have OA := hid (OW.out.below hba)
      obtain ⟨f2, f3, f4, f5⟩ := KB.out wa GA.out
      have XS := hid (RdC.below hxv hba)
      have UA := hid (RdC.below RU hba)
      have HX := hid hx
      clear hba hwa hxv RR RU
      rw [← WA.out] at f2 f3 f4 f5 y0 y1
      by_cases hid0 : xid = rid
      · subst hid0
        have SM := hid (HS.out.same k _ hx rfl)
        clear hx
        go_wp2_with fail
        go_roundw
        case rel => exact ⟨k + 1, n', by omega, by go_num, by rw [SM.out, WA.out]; exact OA, by omega, by rw [WA.out]; exact GA⟩
        case measure => simp [intOf]; omega
      · have hne : (xid == rid) = false := by rw [beq_eq_false_iff_ne]; exact hid0
        have AG := hid (magree_any xid rid xs ys (.slice xo xs.length xcap) (.slice uo ys.length ucap) wa XS.out UA.out HXL.out.symm (by rw [HXL.out]; omega))
        obtain ⟨key, hkey⟩ : ∃ key, rowsS xs ys xs.length = key := ⟨_, rfl⟩
        have KY := hid (HS.out.key k _ hx hid0 key hkey.symm)
        have PU := hid (fun h0 => stepC_put HS.out hx hid0 (k := key) hkey.symm h0)
        have DE := hid (fun h0 => stepC_del HS.out hx hid0 (k := key) hkey.symm h0)
        have LK := hid (show cntF (L k) key ≤ 40200 from Nat.le_trans List.count_le_length (HS.out.len k))
        have LK1 := hid (show cntF (L (k + 1)) key ≤ 40200 from Nat.le_trans List.count_le_length (HS.out.len (k + 1)))
        rw [hkey] at AG
        clear hx hkey XS UA HX
        obtain ⟨g, hg⟩ : ∃ g, cntF (L k) = g := ⟨_, rfl⟩
        obtain ⟨pp, hpp⟩ : ∃ pp, memB (L k) = pp := ⟨_, rfl⟩
        obtain ⟨g1, hg1⟩ : ∃ g1, cntF (L (k + 1)) key = g1 := ⟨_, rfl⟩
        rw [hg1] at KY PU DE LK1
        rw [hg] at KY PU DE OA LK
        rw [hpp] at PU DE OA
        clear hg hpp hg1 OW HS
        have hgk : (g1 : Int) = (g key : Int) + d := KY.out
        have b1 : (0 : Int) ≤ (g key : Int) := by omega
        have b2 : (g key : Int) ≤ 40200 := by have := LK.out; omega
        have b3 : (0 : Int) ≤ (g1 : Int) := by omega
        have b4 : (g1 : Int) ≤ 40200 := by have := LK1.out; omega
        have HG := hid (capN_eq (n := g key) (by omega))
        have HG1 := hid (capN_eq (n := g1) (by omega))
        have HV := hid (show Value.int .i64 ((g key : Int) + d) = (cntElems Tryz.prog 2 undI64).el g1 by show _ = Value.int .i64 (capN g1); rw [HG1.out, hgk])
        have HN := hid (show n' < maxLen by unfold maxLen; omega)
        have GK := hid hgk
        clear hgk KY
        go_wp2_with fail
        rw [WA.out]
        refine AG.out.mono ?_
        rintro e w2 ⟨rfl, hb2⟩
        have G2 := hid (show w0.grownBy w2 (some m) from grow_trans' GA.out (grow_of_below hb2))
        have O2 := hid (OA.out.below hb2)
        obtain ⟨j2, j3, j4, j5⟩ := KB.out w2 G2.out
        clear hb2 f2 f3 f4 f5 y0 y1 e0 e1 a2 a3 a4 a5 OA AG
        go_wp2_with (first | (at_lookup; refine wpList_mlook (E := cntElems Tryz.prog 2 undI64) (z := 0) (f := g) (n := n') (b := m) (k := 67) rfl _ _ 75 rfl undU32 undMapC (zeroC _) rfl O2.out.toM key rfl ?_; show wpList _ _ _ _ (Act.put _ _ (.int .i64 (capN (g key)))) _; rw [HG.out]) | (at_mapUpdate; refine wpList_kput (E := cntElems Tryz.prog 2 undI64) rfl _ _ _ 75 rfl undU32 undMapC rfl O2.out HN.out key g1 rfl HV.out ?_))
        intro w4 hm4 hg4
        have O4 := hid hm4
        have G4 := hid (show w0.grownBy w4 (some m) from grow_trans' G2.out hg4)
        obtain ⟨l2, l3, l4, l5⟩ := KB.out w4 G4.out
        have UG := hid (show upd g key g1 key = g1 from upd_same _ _ _)
        clear hm4 hg4 j2 j3 j4 j5 O2
        obtain ⟨gg, hgg⟩ : ∃ gg, upd g key g1 = gg := ⟨_, rfl⟩
        obtain ⟨qq, hqq⟩ : ∃ qq, upd pp key true = qq := ⟨_, rfl⟩
        rw [hgg] at O4 UG DE PU
        rw [hqq] at O4 DE PU
        clear hgg hqq
        cases h0 : ((g1 : Int) == 0) with
        | false =>
          have N0 := hid (PU.out (by intro e; rw [e] at h0; cases h0))
          go_wp2_with (at_lookup; refine wpList_mlook (E := cntElems Tryz.prog 2 undI64) (z := 0) (f := gg) (n := n' + 1) (b := m) (k := 67) rfl _ _ 75 rfl undU32 undMapC (zeroC _) rfl O4.out.toM key rfl ?_; show wpList _ _ _ _ (Act.put _ _ (.int .i64 (capN (gg key)))) _; rw [UG.out, HG1.out])
          go_roundw
          case rel => exact ⟨k + 1, n' + 1, by omega, by go_num, hid (O4.out.congr N0.out.1 N0.out.2), by omega, G4⟩
          case measure => simp [intOf]; omega
        | true =>
          have N0 := hid (DE.out (by have := beq_iff_eq.1 h0; omega))
          go_wp2_with (first | (at_lookup; refine wpList_mlook (E := cntElems Tryz.prog 2 undI64) (z := 0) (f := gg) (n := n' + 1) (b := m) (k := 67) rfl _ _ 75 rfl undU32 undMapC (zeroC _) rfl O4.out.toM key rfl ?_; show wpList _ _ _ _ (Act.put _ _ (.int .i64 (capN (gg key)))) _; rw [UG.out, HG1.out]) | (at_delete; refine wpList_kdel (E := cntElems Tryz.prog 2 undI64) (z := 0) (f := gg) (p := qq) (n := n' + 1) (b := m) (k := 67) rfl _ _ 75 rfl undU32 undMapC rfl O4.out key rfl ?_))
          intro w5 hm5 hg5
          have O5 := hid (hm5.congr N0.out.1 N0.out.2)
          have G5 := hid (show w0.grownBy w5 (some m) from grow_trans' G4.out hg5)
          clear hm5 hg5
          go_wp2_with fail
          go_roundw
          case rel => exact ⟨k + 1, n' + 1, by omega, by go_num, O5, by omega, G5⟩
          case measure => simp [intOf]; omega
    · obtain rfl : k = rs.length := by omega
      obtain ⟨a2, a3, a4, a5⟩ := KB.out wr GR.out
      go_wp2_with fail
      go_end0
      exact ⟨rfl, n', OW.out, hn', grow_trans' G0.out GR.out⟩

end Go.Proofs.YtdiafhbbmliefaaGreatDoor


/- Rows of slices of sets, each with a row of the call's own (as Grp). No program. -/
namespace Go.Proofs.YtdiafhbbmliefaaGreatDoor
open Go.RowKit

abbrev GpS := Value × List S
structure OwnGs (w : World) (B BI : Nat) (tO tI : TypeId) (v : Value) (gs : List GpS) : Prop where
  outer : w.ownsRow B tO 1 v gs.length (gs.map Prod.fst)
  inner : ∀ g ∈ gs, w.ownsRow BI tI 1 g.1 g.2.length (g.2.map enc)
  apart : ∀ (i j : Nat) (g h : GpS), gs[i]? = some g → gs[j]? = some h → i ≠ j → g.1.ownBlock = none ∨ g.1.ownBlock ≠ h.1.ownBlock
  away : ∀ g ∈ gs, g.1.ownBlock = none ∨ g.1.ownBlock ≠ v.ownBlock

section
variable {w w' : World} {B BI : Nat} {tO tI : TypeId} {v : Value} {gs : List GpS}
theorem OwnGs.nil (w : World) (B BI : Nat) (tO tI : TypeId) : OwnGs w B BI tO tI (.slice none 0 0) [] :=
  ⟨World.ownsRow_nil _ _ _ _, by simp, by simp, by simp⟩
theorem OwnGs.kept {row : Option Nat} (h : OwnGs w B BI tO tI v gs) (hg : w.grownBy w' row) (hv : v.ownBlock = none ∨ v.ownBlock ≠ row) (hi : ∀ g ∈ gs, g.1.ownBlock = none ∨ g.1.ownBlock ≠ row) : OwnGs w' B BI tO tI v gs :=
  ⟨h.outer.kept hg hv, fun g hm => (h.inner g hm).kept hg (hi g hm), h.apart, h.away⟩
theorem OwnGs.below (h : OwnGs w B BI tO tI v gs) (hb : Below w.heap.size w w') : OwnGs w' B BI tO tI v gs :=
  ⟨own_below h.outer hb, fun g hg => own_below (h.inner g hg) hb, h.apart, h.away⟩
/-- 'groups = append(groups, nil)'. -/
theorem OwnGs.push {v' : Value} (h : OwnGs w B BI tO tI v gs) (ho : w'.ownsRow B tO 1 v' (gs ++ [((.slice none 0 0, []) : GpS)]).length ((gs ++ [((.slice none 0 0, []) : GpS)]).map Prod.fst)) (hg : w.grownBy w' v.ownBlock) (hl : v'.ownBlock = v.ownBlock ∨ v'.ownBlock = some w.heap.size) :
    OwnGs w' B BI tO tI v' (gs ++ [(.slice none 0 0, [])]) := by
  refine ⟨ho, fun g hm => ?_, fun i j g k hi hj hij => ?_, fun g hm => ?_⟩
  · rcases List.mem_append.1 hm with hm | hm
    · exact (h.inner g hm).kept hg (h.away g hm)
    · rw [List.mem_singleton] at hm; subst hm; exact World.ownsRow_nil _ _ _ _
  · by_cases h1 : i < gs.length
    · rw [List.getElem?_append_left h1] at hi
      by_cases h2 : j < gs.length
      · rw [List.getElem?_append_left h2] at hj
        exact h.apart i j g k hi hj hij
      · rw [List.getElem?_append_right (by omega)] at hj
        have hj0 := (List.getElem?_eq_some_iff.1 hj).1
        simp at hj0
        have : j - gs.length = 0 := by omega
        rw [this] at hj
        simp at hj; subst hj
        cases hb : g.1.ownBlock with
        | none => exact .inl rfl
        | some b => exact .inr (by simp [Value.ownBlock])
    · rw [List.getElem?_append_right (by omega)] at hi
      have hi0 := (List.getElem?_eq_some_iff.1 hi).1
      simp at hi0
      have : i - gs.length = 0 := by omega
      rw [this] at hi
      simp at hi; subst hi
      exact .inl rfl
  · rcases List.mem_append.1 hm with hm | hm
    · rcases hl with e | e
      · rw [e]; exact h.away g hm
      · cases hb : g.1.ownBlock with
        | none => exact .inl rfl
        | some b =>
          refine .inr ?_
          rw [e]
          intro e2
          have := ((h.inner g hm).lt b hb).2
          simp at e2; omega
    · rw [List.mem_singleton] at hm; subst hm; exact .inl rfl
/-- 'groups[i] = append(groups[i], x)'. -/
theorem OwnGs.add {o n cap i : Nat} {g : GpS} {u' : Value} {x : S} (h : OwnGs w B BI tO tI (.slice (some ⟨o, 0, none⟩) n cap) gs) (hi : gs[i]? = some g)
    (ho : w'.ownsRow BI tI 1 u' (g.2 ++ [x]).length ((g.2 ++ [x]).map enc)) (hg : w.grownBy w' g.1.ownBlock) (hl : u'.ownBlock = g.1.ownBlock ∨ u'.ownBlock = some w.heap.size) (hn : n = gs.length) :
    OwnGs (w'.setCell ⟨o, i, none⟩ u') B BI tO tI (.slice (some ⟨o, 0, none⟩) n cap) (gs.set i (u', g.2 ++ [x])) := by
  subst hn
  have hgm := List.mem_of_getElem? hi
  have haw : ∀ k ∈ gs, k.1.ownBlock ≠ some o := by
    intro k hk e
    rcases h.away k hk with h1 | h1
    · rw [h1] at e; cases e
    · exact h1 e
  have hlt : o < w.heap.size := (h.outer.lt o rfl).2
  have huo : u'.ownBlock ≠ some o := by
    rcases hl with e | e
    · rw [e]; exact haw g hgm
    · rw [e]; simp; omega
  have hout : w'.ownsRow B tO 1 (.slice (some ⟨o, 0, none⟩) gs.length cap) gs.length (gs.map Prod.fst) := by
    refine h.outer.kept hg (.inr ?_)
    intro e
    exact haw g hgm e.symm
  have hne : ∀ (j : Nat) (k : GpS), gs[j]? = some k → j ≠ i → k.1.ownBlock = none ∨ k.1.ownBlock ≠ u'.ownBlock := by
    intro j k hj hji
    rcases hl with e | e
    · rw [e]; exact h.apart j i k g hj hi hji
    · cases hb : k.1.ownBlock with
      | none => exact .inl rfl
      | some b =>
        refine .inr ?_
        rw [e]
        intro e2
        have := ((h.inner k (List.mem_of_getElem? hj)).lt b hb).2
        simp at e2; omega
  refine ⟨?_, fun k hm => ?_, fun a b k l ha hb hab => ?_, fun k hm => ?_⟩
  · have := (hout.stored i u').1
    rw [List.length_set, List.map_set]
    exact this
  · obtain ⟨j, hj⟩ := List.mem_iff_getElem?.1 hm
    rw [List.getElem?_set] at hj
    by_cases e : i = j
    · subst e
      rw [if_pos rfl] at hj
      split at hj
      · obtain rfl := Option.some.inj hj
        exact ownsRow_setCell_other ho huo _
      · cases hj
    · rw [if_neg e] at hj
      refine ownsRow_setCell_other ((h.inner k (List.mem_of_getElem? hj)).kept hg ?_) (haw k (List.mem_of_getElem? hj)) _
      exact h.apart j i k g hj hi (Ne.symm e)
  · rw [List.getElem?_set] at ha hb
    by_cases e : i = a
    · subst e
      rw [if_pos rfl] at ha
      split at ha
      · obtain rfl := Option.some.inj ha
        rw [if_neg hab] at hb
        rcases hne b l hb (Ne.symm hab) with h1 | h1
        · by_cases hz : u'.ownBlock = none
          · exact .inl hz
          · right; rw [h1]; exact hz
        · exact .inr (Ne.symm h1)
      · cases ha
    · rw [if_neg e] at ha
      by_cases e2 : i = b
      · subst e2
        rw [if_pos rfl] at hb
        split at hb
        · obtain rfl := Option.some.inj hb
          exact hne a k ha (Ne.symm e)
        · cases hb
      · rw [if_neg e2] at hb
        exact h.apart a b k l ha hb hab
  · obtain ⟨j, hj⟩ := List.mem_iff_getElem?.1 hm
    rw [List.getElem?_set] at hj
    by_cases e : i = j
    · subst e
      rw [if_pos rfl] at hj
      split at hj
      · obtain rfl := Option.some.inj hj
        exact .inr huo
      · cases hj
    · rw [if_neg e] at hj
      exact .inr (haw k (List.mem_of_getElem? hj))
/-- The groups, read. -/
def RdGs (w : World) (v : Value) (gs : List GpS) : Prop := RdE Prod.fst w v gs ∧ ∀ g ∈ gs, RdE enc w g.1 g.2
theorem RdGs.below (h : RdGs w v gs) (hb : Below w.heap.size w w') : RdGs w' v gs := ⟨h.1.below hb, fun g hg => (h.2 g hg).below hb⟩
theorem OwnGs.rd (h : OwnGs w B BI tO tI v gs) (h1 : gs.length ≤ 100000) (h2 : ∀ g ∈ gs, g.2.length ≤ 100000) : RdGs w v gs :=
  ⟨RdE.of_owns h.outer (by omega), fun g hg => RdE.of_owns (h.inner g hg) (by have := h2 g hg; omega)⟩

theorem OwnGs.made {w : World} {B BI n : Nat} {tO tI : TypeId} {v : Value} (ho : w.ownsRow B tO 1 v n (List.replicate n (.slice none 0 0))) : OwnGs w B BI tO tI v (List.replicate n (((.slice none 0 0), []) : GpS)) := by
  refine ⟨by rw [List.length_replicate, List.map_replicate]; exact ho, fun g hg => ?_, fun i j g h hi _ _ => ?_, fun g hg => ?_⟩
  · rw [List.eq_of_mem_replicate hg]; exact World.ownsRow_nil _ _ _ _
  · rw [List.eq_of_mem_replicate (List.mem_of_getElem? hi)]; exact .inl rfl
  · rw [List.eq_of_mem_replicate hg]; exact .inl rfl

end

end Go.Proofs.YtdiafhbbmliefaaGreatDoor


/- The walks of maintain's all and minimal. -/
namespace Go.Proofs.YtdiafhbbmliefaaGreatDoor
open Go.RowKit
set_option linter.unusedVariables false

theorem grow_appM {w1 wr w6 : World} {o row : Option Nat} (h : w1.grownBy wr o) (hg : wr.grownBy w6 row) (hr : ∀ j, row = some j → w1.heap.size ≤ j) : w1.grownBy w6 o :=
  ⟨hg.os.trans h.os, hg.tape.trans h.tape, hg.output.trans h.output, Nat.le_trans h.size hg.size, fun k hk hne => (hg.block k (Nat.lt_of_lt_of_le hk h.size) (fun e => by have := hr k e.symm; omega)).trans (h.block k hk hne)⟩
theorem grow_belowM {B b : Nat} {w w' : World} (h : w.grownBy w' (some b)) (hB : B ≤ b) (hs : B ≤ w.heap.size) : Below B w w' := ⟨h.os, h.tape, h.output, h.size, fun k hk => h.block k (by omega) (fun e => by cases e; omega)⟩
/-- Rows of different types of elements lie in different blocks. -/
theorem own_neM {w : World} {B1 B2 n1 n2 s1 s2 : Nat} {e1 e2 : TypeId} {v1 v2 : Value} {xs1 xs2 : List Value} (h1 : w.ownsRow B1 e1 s1 v1 n1 xs1) (h2 : w.ownsRow B2 e2 s2 v2 n2 xs2) (hne : e1 ≠ e2) : v1.ownBlock = none ∨ v1.ownBlock ≠ v2.ownBlock := by
  rcases h1.2 with ⟨rfl, -⟩ | ⟨g1, c1, cur1, rfl, -, hg1, -⟩
  · exact .inl rfl
  · right
    rcases h2.2 with ⟨rfl, -⟩ | ⟨g2, c2, cur2, rfl, -, hg2, -⟩
    · intro e; cases e
    · intro e
      have e' : g1 = g2 := Option.some.inj e
      subst e'
      rw [hg1] at hg2
      injection hg2 with h; injection h with _ h; exact hne h
def minKM (i a j : Nat) : Nat := if j < a then i + 1 else i
structure MinJ (Q : Nat → S → Bool) (ys : List S) (n i a : Nat) (gs : List GpS) : Prop where
  len : gs.length = n
  at_ : ∀ j, j < n → ∃ v, gs[j]? = some (v, selL (Q j) (ys.take (minKM i a j)))
section
variable {Q : Nat → S → Bool} {ys : List S} {n i a : Nat} {gs : List GpS}
theorem MinJ.start (Q : Nat → S → Bool) (ys : List S) (n : Nat) : MinJ Q ys n 0 0 (List.replicate n (((.slice none 0 0), []) : GpS)) :=
  ⟨by simp, fun j hj => ⟨.slice none 0 0, by unfold minKM; simp [hj, selL]⟩⟩
theorem MinJ.next (h : MinJ Q ys n i n gs) : MinJ Q ys n (i + 1) 0 gs := by
  have e : ∀ j, j < n → minKM (i + 1) 0 j = minKM i n j := fun j hj => by unfold minKM; rw [if_pos hj, if_neg (by omega)]
  exact ⟨h.len, fun j hj => by rw [e j hj]; exact h.at_ j hj⟩
theorem minKM_ne {j : Nat} (h : j ≠ a) : minKM i (a + 1) j = minKM i a j := by
  unfold minKM
  by_cases h1 : j < a
  · rw [if_pos (by omega), if_pos h1]
  · rw [if_neg (by omega), if_neg h1]
theorem minKM_eq : minKM i (a + 1) a = i + 1 ∧ minKM i a a = i := by unfold minKM; rw [if_pos (by omega), if_neg (by omega)]; exact ⟨rfl, rfl⟩
theorem MinJ.skip (h : MinJ Q ys n i a gs) {X : S} (hX : ys[i]? = some X) (hs : pickB (Q a) ys i = false) : MinJ Q ys n i (a + 1) gs := by
  have key : ∀ j, selL (Q j) (ys.take (minKM i (a + 1) j)) = selL (Q j) (ys.take (minKM i a j)) := by
    intro j
    by_cases e : j = a
    · subst e; rw [minKM_eq.1, minKM_eq.2, selL_pick hX, hs]; rfl
    · rw [minKM_ne e]
  exact ⟨h.len, fun j hj => by rw [key]; exact h.at_ j hj⟩
theorem MinJ.take (h : MinJ Q ys n i a gs) {X : S} {out : List S} (v' : Value) (hX : ys[i]? = some X) (ho : selL (Q a) (ys.take i) = out) (hs : pickB (Q a) ys i = true) (ha : a < n) : MinJ Q ys n i (a + 1) (gs.set a (v', out ++ [X])) := by
  have ka : selL (Q a) (ys.take (minKM i (a + 1) a)) = out ++ [X] := by rw [minKM_eq.1, selL_pick hX, hs, if_pos rfl, ho]
  refine ⟨by rw [List.length_set]; exact h.len, fun j hj => ?_⟩
  by_cases e : j = a
  · subst e
    refine ⟨v', ?_⟩
    rw [List.getElem?_set_self (by rw [h.len]; exact hj), ka]
  · rw [List.getElem?_set_ne (Ne.symm e), minKM_ne e]
    exact h.at_ j hj
theorem selLM_length (Q : S → Bool) (l : List S) : (selL Q l).length ≤ l.length := by
  have : ∀ (l out : List S), (l.foldl (selStep Q) out).length ≤ out.length + l.length := by
    intro l
    induction l with
    | nil => intro out; simp
    | cons x l ih =>
      intro out
      rw [List.foldl_cons, List.length_cons]
      refine Nat.le_trans (ih _) ?_
      have : (selStep Q out x).length ≤ out.length + 1 := by
        unfold selStep; split <;> simp
      omega
  have h := this l []
  unfold selL
  simpa using h
theorem MinJ.small (h : MinJ Q ys n i a gs) {g : GpS} (hg : g ∈ gs) (hy : ys.length ≤ 64) : g.2.length ≤ 64 := by
  obtain ⟨j, hj⟩ := List.mem_iff_getElem?.1 hg
  obtain ⟨v, hv⟩ := h.at_ j (by rw [← h.len]; exact (List.getElem?_eq_some_iff.1 hj).1)
  rw [hj] at hv
  rw [Option.some.inj hv]
  refine Nat.le_trans (selLM_length _ _) ?_
  rw [List.length_take]; omega
end
/-- The minimal dependencies so far, as the code holds them. -/
structure MinV (w : World) (o M n : Nat) (u : Value) (gs : List GpS) (L : List F) : Prop where
  own : OwnGs w o M 53 67 (.slice (some ⟨o, 0, none⟩) n n) gs
  out : w.ownsRow M 69 2 u L.length (L.flatMap cF)
theorem MinV.below {w w' : World} {o M n : Nat} {u : Value} {gs : List GpS} {L : List F} (h : MinV w o M n u gs L) (hb : Below w.heap.size w w') : MinV w' o M n u gs L := ⟨h.own.below hb, own_below h.out hb⟩
theorem MinV.kept {w w' : World} {o M n r : Nat} {u : Value} {gs : List GpS} {L : List F} (h : MinV w o M n u gs L) (hg : w.grownBy w' (some r)) (ho : o ≠ r) (hu : u.ownBlock ≠ some r) (hi : ∀ g ∈ gs, g.1.ownBlock ≠ some r) : MinV w' o M n u gs L :=
  ⟨h.own.kept hg (.inr (fun e => ho (Option.some.inj e))) fun g hm => .inr (hi g hm), h.out.kept hg (.inr hu)⟩
theorem undSetsMt : Tryz.prog.underlying 115 = some (.slice 53) := by kernel_rfl
theorem infoSetsMt : (Tryz.prog.info? 53).map (fun i => (i.zero, i.size, i.bytes)) = some (some (.slice none 0 0), 1, 24) := by kernel_rfl

theorem mall_any (b k : Nat) (ao : Option Addr) (acap : Nat) (w : World) (hc : w.cell? ⟨b, 1, none⟩ = some (.slice ao k acap)) (hk : k ≤ 16) :
    Calls Tryz.prog 45 #[.pointer (some ⟨b, 0, none⟩)] w fun e w' => e = .returned (.int .u32 (iv (1#32 <<< k - 1#32))) ∧ w = w' := by
  have k0 : (0 : Int) ≤ (k : Int) := by omega
  have k16 : (k : Int) < 32 := by omega
  go_enter Tryz.func45, Tryz.ntmps45
  go_wp2_with fail
  go_ret
  exact ⟨rfl, rfl⟩
theorem mmin1_any (s : S) (b : Nat) (x : S) (w : World) (hc : w.cell? ⟨b, 0, none⟩ = some (enc s)) :
    Calls Tryz.prog 64 (#[enc x] ++ #[.pointer (some ⟨b, 0, none⟩)]) w fun e w' => e = .returned (.bool (x &&& ~~~ s == 0#32)) ∧ w = w' := by
  show Calls Tryz.prog 64 #[enc x, .pointer (some ⟨b, 0, none⟩)] w _
  unfold enc at hc ⊢
  go_enter Tryz.func64, Tryz.ntmps64
  go_wp2
  go_ret
  exact ⟨rfl, rfl⟩

set_option maxHeartbeats 12800000 in
set_option maxRecDepth 100000 in
theorem mmin_any (b mb n k : Nat) (ps : List S) (ao : Option Addr) (acap : Nat) (w : World) (hc1 : w.cell? ⟨b, 1, none⟩ = some (.slice ao k acap)) (hc3 : w.cell? ⟨b, 3, none⟩ = some (.map (some mb)))
    (ho : OwnC w mb n (cntF ps) (memB ps)) (hk6 : k ≤ 6) :
    Calls Tryz.prog 26 #[.pointer (some ⟨b, 0, none⟩)] w fun e w' => ∃ (v' : Value) (xs : List S), e = .returned v' ∧ IsOrd xs (fun s => sub s (fullN k)) ∧ xs.length ≤ 64 ∧
      w'.ownsRow w.heap.size 69 2 v' (minO (qB k ps) k xs xs.length).length ((minO (qB k ps) k xs xs.length).flatMap cF) ∧ Below w.heap.size w w' := by
  have hblt := World.block_lt_of_cell? _ _ hc1
  have hmlt := ho.lt
  have HC1 := hid hc1
  have HC3 := hid hc3
  have HO := hid ho
  have AL := hid (fun (W : World) (h : W.cell? ⟨b, 1, none⟩ = some (.slice ao k acap)) => mall_any b k ao acap W h (by omega))
  have SB := hid (fun W => asubsets_any (1#32 <<< k - 1#32) W)
  have SF := hid (shl_full (show k < 32 by omega))
  have PF := hid (pop_full12 (show k ≤ 12 by omega))
  simp only [enc_eq] at SB
  have H6 := hid hk6
  have m6 : (k : Int) ≤ 6 := by omega
  have m0 : (0 : Int) ≤ (k : Int) := by omega
  have CF := hid (fun (b : Nat) (s : S) (out : List S) (u : Value) (W : World) (hu : RdE enc W u out) (hc : W.cell? ⟨b, 0, none⟩ = some (enc s)) => containsFunc_any 64 #[.pointer (some ⟨b, 0, none⟩)] (fun y => y &&& ~~~ s == 0#32) out u W hu
    (enters _ _ _ Tryz.func64 (by kernel_rfl) rfl) (fun y => mmin1_any s b y W hc))
  obtain ⟨i0, hi, hz0, hz1, hz2⟩ := info_parts infoSetsMt
  have I0 := hid hi
  have I1 := hid hz0
  have I2 := hid hz1
  have I3 := hid (show i0.bytes * k ≤ 281474976710656 by rw [hz2]; omega)
  have QD := hid (show ∀ a s, qB k ps a s = ((clL k ps s).getLsbD a && !s.getLsbD a) from fun _ _ => rfl)
  obtain ⟨Q, hQ⟩ : ∃ Q, qB k ps = Q := ⟨_, rfl⟩
  rw [hQ] at QD ⊢
  have CLC := hid (fun (ks : List S) (h : ∀ s, s ∈ ks ↔ s ∈ ps) (x : S) => clL_congr (m := k) h x)
  have CLN := hid (fun (ks : List S) (s x : S) => clL_snoc k ks s x)
  have MEM := hid (show ∀ s, memB ps s = decide (s ∈ ps) from fun _ => rfl)
  obtain ⟨mp, hmp⟩ : ∃ mp, memB ps = mp := ⟨_, rfl⟩
  obtain ⟨cp, hcp⟩ : ∃ cp, cntF ps = cp := ⟨_, rfl⟩
  rw [hmp] at MEM HO
  rw [hcp] at HO
  obtain ⟨CL, hCL⟩ : ∃ CL, clL k = CL := ⟨_, rfl⟩
  have CL0 := hid (show ∀ x, CL [] x = 1#32 <<< k - 1#32 from fun x => by rw [← hCL, SF.out]; rfl)
  rw [hCL] at QD CLC CLN
  clear hc3 ho hk6 hi hz0 hz1 hz2 hQ hmp hcp hCL
  go_enter Tryz.func26, Tryz.ntmps26
  go_wp2_with (at_make; refine wpList_make_full _ rfl _ _ 115 rfl w.heap.size 53 i0 (.slice none 0 0) 1 undSetsMt I0.out I1.out I2.out _ _ _ _ k rfl rfl (by simp) (by simp) I3.out (by have := H6.out; unfold maxLen; omega) (Nat.le_refl _) ?_)
  intro w3 hown hgrow
  have hb3 : Below w.heap.size w w3 := ⟨hgrow.os, hgrow.tape, hgrow.output, hgrow.size, fun k hk => hgrow.block k hk (fun e => by cases e)⟩
  have D3 := hid hb3
  obtain ⟨o, ho⟩ : ∃ o, w.heap.size = o := ⟨_, rfl⟩
  have O3 := hid (show w3.ownsRow o 53 1 (.slice (some ⟨o, 0, none⟩) k k) k (List.replicate k (.slice none 0 0)) by
    rw [← ho]
    first | exact hown | simpa [toList_madeCells_one, Value.cells] using hown)
  have hc13 : w3.cell? ⟨b, 1, none⟩ = some (.slice ao k acap) := (hb3.cell (p := ⟨b, 1, none⟩) hblt).trans hc1
  have hc33 : w3.cell? ⟨b, 3, none⟩ = some (.map (some mb)) := (hb3.cell (p := ⟨b, 3, none⟩) hblt).trans HC3.out
  have M3 := hid (HO.out.below hb3)
  have HOE := hid ho
  have BLT := hid (show b < o by rw [← ho]; exact hblt)
  have MLT := hid (show mb < o by rw [← ho]; exact hmlt)
  rw [ho] at D3 ⊢
  have C33 := hid hc33
  have C13 := hid hc13
  clear hown hgrow hb3 ho hc33 hc1 HC1 HC3 HO hblt hmlt
  go_wp2_with fail
  refine (AL.out _ C13.out).mono ?_
  rintro e w' ⟨rfl, rfl⟩
  go_wp2_with fail
  refine (SB.out _).mono ?_
  rintro e w4 ⟨v4, ys, rfl, hown4, hsp, hyl, hb4⟩
  have HS := hid (hsp.2 (by rw [SF.out]; exact PF.out))
  rw [SF.out] at HS
  have YL := hid (show ys.length ≤ 64 by
    have h1 : ys.length ≤ 2 ^ k := ord_bound HS.out.1 fun s hs => full_pow (by have := H6.out; omega) ((HS.out.2 s).1 hs)
    have h2 : 2 ^ k ≤ 2 ^ 6 := Nat.pow_le_pow_right (by decide) H6.out
    omega)
  have RY := hid (RdE.of_owns hown4 (by have := YL.out; omega))
  have HOL := hid (show o < w3.heap.size from (O3.out.lt o rfl).2)
  have FY := hid (far_own hown4 HOL.out)
  obtain ⟨yo, ycap, rfl, -⟩ := RY.out.split
  have D4 := hid (D3.out.trans (hb4.mono (by have := HOL.out; omega)))
  have O4 := hid (own_below O3.out hb4)
  have HO4 := hid (show o < w4.heap.size by have := HOL.out; have := hb4.size; omega)
  have y64 : (ys.length : Int) ≤ 64 := by have := YL.out; omega
  have FCY := hid (fun (W : World) (h : w4.grownBy W (some o)) => show RdE enc W (.slice yo ys.length ycap) ys from RdE.grown RY.out h FY.out)
  have BW := hid (fun (W : World) (h : w4.grownBy W (some o)) => show Below o w W from D4.out.trans (grow_belowM h (Nat.le_refl _) (by have := HO4.out; omega)))
  have C14 := hid ((hb4.cell (p := ⟨b, 1, none⟩) (by have := BLT.out; have := HOL.out; show b < _; omega)).trans C13.out)
  have C34 := hid ((hb4.cell (p := ⟨b, 3, none⟩) (by have := BLT.out; have := HOL.out; show b < _; omega)).trans C33.out)
  have M4 := hid (M3.out.below hb4)
  have KB := hid (fun (W : World) (h : w4.grownBy W (some o)) => show W.cell? ⟨b, 1, none⟩ = some (.slice ao k acap) ∧ W.cell? ⟨b, 3, none⟩ = some (.map (some mb)) ∧ OwnC W mb n cp mp from by
    have h1 := BLT.out; have h2 := MLT.out; have h3 := HO4.out
    exact ⟨(h.cell_far ⟨b, 1, none⟩ (by show b < _; omega) (by simp; omega)).trans C14.out, (h.cell_far ⟨b, 3, none⟩ (by show b < _; omega) (by simp; omega)).trans C34.out, M4.out.kept h (by simp; omega)⟩)
  have OY := hid (HS.out)
  clear hown4 hsp hyl hb4 SB O3 RY FY hc13 C13 C33 C14 C34 M3 M4
  go_wp2_with fail
  go_loopw [3, 21] (fun u idx wr => ∃ (i : Nat) (gs : List GpS) (L : List F), i ≤ ys.length ∧ idx = .int .i64 i ∧ MinV wr o w4.heap.size k u gs L ∧ Hid (L = minO Q k ys i) ∧ Hid (MinJ Q ys k i 0 gs) ∧ w4.grownBy wr (some o)) (fun _ idx _ => ys.length - (intOf idx).toNat)
  case atStart => exact ⟨0, _, [], Nat.zero_le _, rfl, ⟨OwnGs.made O4.out, World.ownsRow_nil _ _ _ _⟩, hid rfl, hid (MinJ.start Q ys k), World.grownBy.refl _ _⟩
  case round =>
    obtain ⟨wo, rfl⟩ : ∃ wo : World, wo = wr := ⟨_, rfl⟩
    obtain ⟨i, gs0, L0, hi, rfl, hmw, HL0, HI, hgg⟩ := hrel
    have i0 : (0 : Int) ≤ (i : Int) := by omega
    by_cases hlt : i < ys.length
    · obtain ⟨X, hX⟩ := get_some hlt
      have hltO : (i : Int) < (ys.length : Int) := by omega
      have HX := hid hX
      obtain ⟨ao2, acap2, he, -, hc2⟩ := (FCY.out wo hgg).split
      simp only [Value.slice.injEq] at he
      obtain ⟨rfl, -, rfl⟩ := he
      obtain ⟨fb, foff, rfl, hd⟩ := hc2 i X hX
      have e0 := hd wo (Below.refl _ _)
      unfold enc at e0
      have BX := hid (below_alloc wo (.cells #[.int .u32 (iv X)] 67))
      have W4S := hid (show w4.heap.size ≤ wo.heap.size from hgg.size)
      have MW1 := hid (hmw.below BX.out)
      have GG1 := hid (grow_trans' hgg (grow_of_below (o := some o) BX.out))
      have CX1 := hid (show (wo.alloc (.cells #[.int .u32 (iv X)] 67)).cell? ⟨wo.heap.size, 0, none⟩ = some (.int .u32 (iv X)) from cell_new (w := wo))
      have NB1 := hid (show ∀ g ∈ gs0, g.1.ownBlock ≠ some wo.heap.size from fun g hg e => by have := ((hmw.own.inner g hg).lt _ e).2; omega)
      have NU1 := hid (show u3.ownBlock ≠ some wo.heap.size from fun e => by have := (hmw.out.lt _ e).2; omega)
      have HLT := hid hlt
      have I64 := hid (show i ≤ 64 by have := YL.out; omega)
      obtain ⟨bx, hbx⟩ : ∃ bx, wo.heap.size = bx := ⟨_, rfl⟩
      obtain ⟨wx, hwx⟩ : ∃ wx : World, wo.alloc (.cells #[.int .u32 (iv X)] 67) = wx := ⟨_, rfl⟩
      have SBX := hid (show bx < wx.heap.size by rw [← hbx, ← hwx]; simp)
      have OBX := hid (show o < bx by have := HO4.out; have := W4S.out; omega)
      rw [hbx] at NB1 NU1
      rw [hbx, hwx] at CX1
      rw [hwx] at MW1 GG1
      have HBX := hid hbx
      have WX := hid hwx
      obtain ⟨x1, x3, xm⟩ := KB.out wx GG1.out
      have XM := hid xm
      have x0 := CX1.out
      clear hX hd hc2 hmw hgg hlt hbx hwx xm BX
      go_wp2_with fail
      rw [WX.out, HBX.out]
      go_wp2_with fail
      refine (AL.out _ x1).mono ?_
      rintro e w' ⟨rfl, rfl⟩
      go_wp2_with (at_range; refine wpList_krange (E := cntElems Tryz.prog 2 undI64) (z := 0) (k := 67) rfl _ 75 rfl undU32 undMapC rfl XM.out ?_; intro wi cnt hrg hcn hbi hsi)
      go_frame
      have MWi := hid (MW1.out.below hbi)
      have GGi := hid (grow_trans' GG1.out (grow_of_below (o := some o) hbi))
      have CXi := hid ((hbi.cell (p := ⟨bx, 0, none⟩) SBX.out).trans CX1.out)
      obtain ⟨r, hr⟩ : ∃ r, wx.heap.size = r := ⟨_, rfl⟩
      rw [hr] at hrg ⊢
      have NR := hid (show bx < r ∧ o ≠ r ∧ u3.ownBlock ≠ some r ∧ (∀ g ∈ gs0, g.1.ownBlock ≠ some r) ∧ w4.heap.size ≤ r ∧ r < wi.heap.size from by
        have h1 := SBX.out; have h2 := OBX.out; have h3 := W4S.out; have h4 := GG1.out.size
        exact ⟨by omega, by omega, fun e => by have := (MW1.out.out.lt _ e).2; omega, fun g hg e => by have := ((MW1.out.own.inner g hg).lt _ e).2; omega, by omega, by omega⟩)
      have RG := hid hrg
      clear hrg hbi hsi MW1 GG1 CX1 XM x0 x1 x3 e0 hr
      go_loopw [7] (fun c wr => ∃ (left : S → Bool) (cnt : Nat) (ks : List S) (C : S), Hid (RngC wr mb r n cp mp left cnt) ∧ c = .int .u32 (iv C) ∧ Hid (C = CL ks X) ∧ Hid (Coll mp left ks) ∧ wi.grownBy wr (some r)) (fun _ wr => wr.rangeLeft mb r)
      case atStart => exact ⟨mp, cnt, [], _, RG, rfl, hid (CL0.out X).symm, hid (Coll.start mp), World.grownBy.refl _ _⟩
      case round =>
        obtain ⟨left, cnt1, ks, C, hrg, rfl, HC, CO, hgi⟩ := hrel
        have hLE := hid hrg.out.left_eq
        have GI := hid hgi
        clear hgi
        go_wp2_with (at_next; refine wpList_knext (E := cntElems Tryz.prog 2 undI64) (z := 0) (k := 67) rfl _ rfl undU32 rfl hrg.out ?_ ?_)
        · intro hc0 hl0
          have HCX := hid (show C = CL ps X from by rw [HC.out]; exact CLC.out ks (fun s => by rw [CO.out.done hl0, MEM.out]; simp) X)
          have MW1 := hid (MWi.out.kept GI.out NR.out.2.1 NR.out.2.2.1 NR.out.2.2.2.1)
          have GG1 := hid (grow_appM GGi.out GI.out (fun j hj => by cases hj; exact NR.out.2.2.2.2.1))
          have CX1 := hid ((GI.out.cell_far ⟨bx, 0, none⟩ (World.block_lt_of_cell? _ _ CXi.out) (by have := NR.out.1; simp; omega)).trans CXi.out)
          have SB1 := hid (show bx < wr.heap.size from World.block_lt_of_cell? _ _ CX1.out)
          obtain ⟨x1, x3, -⟩ := KB.out wr GG1.out
          have RZ := hid (show (minO Q k ys i ++ rowO Q ys i 0) = minO Q k ys i by rw [rowO_zero, List.append_nil])
          have QX := hid (fun a => QD.out a X)
          rw [← HCX.out] at QX
          clear hrg hLE hl0 hc0 HC CO
          obtain ⟨wl, rfl⟩ : ∃ wl : World, wl = wr := ⟨_, rfl⟩
          go_wp2_with fail
          go_loopw [3, 49] (fun u idx wr => ∃ (a : Nat) (gs : List GpS) (L : List F), a ≤ k ∧ idx = .int .i64 a ∧ MinV wr o w4.heap.size k u gs L ∧ Hid (L = minO Q k ys i ++ rowO Q ys i a) ∧ Hid (MinJ Q ys k i a gs) ∧ w4.grownBy wr (some o) ∧ Hid (wr.cell? ⟨bx, 0, none⟩ = some (.int .u32 (iv X)) ∧ (∀ g ∈ gs, g.1.ownBlock ≠ some bx) ∧ u.ownBlock ≠ some bx ∧ bx < wr.heap.size)) (fun _ idx _ => k - (intOf idx).toNat)
          case atStart => exact ⟨0, gs0, L0, Nat.zero_le _, rfl, MW1.out, hid (by rw [RZ.out]; exact HL0.out), HI, GG1.out, hid ⟨CX1.out, NB1.out, NU1.out, SB1.out⟩⟩
          case round =>
            clear x1 x3
            obtain ⟨a, gs, L, ha, rfl, hmw, HLE, HII, hgg, HB⟩ := hrel
            have a0 : (0 : Int) ≤ (a : Int) := by omega
            have a32 : (a : Int) < 32 := by omega
            by_cases hlt : a < k
            · have hltI : (a : Int) < (k : Int) := by omega
              obtain ⟨v0, hv0⟩ := HII.out.at_ a hlt
              rw [minKM_eq.2] at hv0
              obtain ⟨out, hout⟩ : ∃ out, selL (Q a) (ys.take i) = out := ⟨_, rfl⟩
              rw [hout] at hv0
              have HV := hid hv0
              have HOUT := hid hout
              have MEMV := hid (List.mem_of_getElem? hv0)
              have OUTS := hid (show out.length ≤ 64 from HII.out.small MEMV.out YL.out)
              have GO := hid (show wr.ownsRow w4.heap.size 67 1 v0 out.length (out.map enc) from hmw.own.inner _ MEMV.out)
              obtain ⟨go, gcap, hge⟩ := own_slicePI GO.out
              subst hge
              have OUO := hid (show wr.ownsRow o 53 1 (.slice (some ⟨o, 0, none⟩) k k) k (gs.map Prod.fst) from by have h := hmw.own.outer; rw [HII.out.len] at h; exact h)
              have gcell : wr.cell? ⟨o, a, none⟩ = some (.slice go out.length gcap) := by rw [OUO.out.cellAt a (by omega), List.getElem?_map, hv0]; rfl
              have x0 := HB.out.1
              have CF1 := hid (CF.out bx X out (.slice go out.length gcap) wr (RdE.of_owns GO.out (by have := OUTS.out; omega)) x0)
              have PB := hid (show pickB (Q a) ys i = ((C.getLsbD a && !X.getLsbD a) && !out.any (fun y => y &&& ~~~ X == 0#32)) from by
                unfold pickB
                rw [show ys.getD i 0#32 = X by simp [List.getD, HX.out], HOUT.out, QX.out a])
              have SKIP := hid (fun (h : pickB (Q a) ys i = false) => HII.out.skip HX.out h)
              have TAKE := hid (fun (v' : Value) (h : pickB (Q a) ys i = true) => HII.out.take v' HX.out HOUT.out h hlt)
              have RNX := hid (rowO_next Q ys i a)
              have GX := hid (show ys.getD i 0#32 = X by simp [List.getD, HX.out])
              have MW := hid hmw
              have GG := hid hgg
              have HLT2 := hid hlt
              have hcz := bit_zeroN C a
              have hxz := bit_test X a
              obtain ⟨OB, hOB⟩ : ∃ OB, out.any (fun y => y &&& ~~~ X == 0#32) = OB := ⟨_, rfl⟩
              rw [hOB] at CF1 PB
              have NOP := hid (fun (h : pickB (Q a) ys i = false) => show L = minO Q k ys i ++ rowO Q ys i (a + 1) from by rw [RNX.out, h, if_neg (by simp), List.append_nil]; exact HLE.out)
              clear hv0 hout hmw hgg hlt hOB
              cases hq : C.getLsbD a with
              | false =>
                have PF := hid (show pickB (Q a) ys i = false by rw [PB.out, hq]; rfl)
                rw [hq] at hcz
                replace hcz : (C >>> a &&& 1#32 == 0#32) = true := hcz
                have hcz2 : C >>> a &&& 1#32 = 0#32 := by simpa using hcz
                clear hq hxz
                go_wp2_with fail
                go_roundw
                case rel => exact ⟨a + 1, gs, L, by have := HLT2.out; omega, by go_num, MW.out, hid (NOP.out PF.out), hid (SKIP.out PF.out), GG.out, HB⟩
                case measure => have := HLT2.out; simp [intOf]; omega
              | true =>
                rw [hq] at hcz
                replace hcz : (C >>> a &&& 1#32 == 0#32) = false := hcz
                cases hx : X.getLsbD a with
                | true =>
                  have PF := hid (show pickB (Q a) ys i = false by rw [PB.out, hx]; simp)
                  rw [hx] at hxz
                  clear hq hx
                  go_wp2_with fail
                  go_roundw
                  case rel => exact ⟨a + 1, gs, L, by have := HLT2.out; omega, by go_num, MW.out, hid (NOP.out PF.out), hid (SKIP.out PF.out), GG.out, HB⟩
                  case measure => have := HLT2.out; simp [intOf]; omega
                | false =>
                  rw [hx] at hxz
                  cases OB with
                  | true =>
                    have PF := hid (show pickB (Q a) ys i = false by rw [PB.out]; simp)
                    clear hq hx
                    go_wp2_with fail
                    refine CF1.out.mono ?_
                    rintro e w5 ⟨rfl, rfl⟩
                    go_wp2_with fail
                    go_roundw
                    case rel => exact ⟨a + 1, gs, L, by have := HLT2.out; omega, by go_num, MW.out, hid (NOP.out PF.out), hid (SKIP.out PF.out), GG.out, HB⟩
                    case measure => have := HLT2.out; simp [intOf]; omega
                  | false =>
                    have PT := hid (show pickB (Q a) ys i = true by rw [PB.out, hq, hx]; rfl)
                    have LT := hid (show L ++ [(X, bit a)] = minO Q k ys i ++ rowO Q ys i (a + 1) from by rw [RNX.out, PT.out, if_pos rfl, ← List.append_assoc, ← HLE.out, GX.out])
                    clear hq hx
                    go_wp2_with fail
                    refine CF1.out.mono ?_
                    rintro e w5 ⟨rfl, rfl⟩
                    have HO1 := hid (OUO.out.lt o rfl)
                    have XB := hid (show Below wr.heap.size wr (wr.drew.alloc (.cells #[.int .u32 (iv X)] 67)) from (Below.refl _ _).drew.alloc (by simp) _)
                    have GI2 := hid (own_below GO.out XB.out)
                    have MW2 := hid (MW.out.below XB.out)
                    have GG2 := hid (grow_trans' GG.out (grow_of_below (o := some o) XB.out))
                    have SZW := hid (show w4.heap.size ≤ (wr.drew.alloc (.cells #[.int .u32 (iv X)] 67)).heap.size from GG2.out.size)
                    have CN := hid (show (wr.drew.alloc (.cells #[.int .u32 (iv X)] 67)).cell? ⟨wr.heap.size, 0, none⟩ = some (enc X) from cell_new (w := wr.drew))
                    have HGNE := hid (show (Value.slice go out.length gcap).ownBlock ≠ some o from fun e => by
                      rcases MW.out.own.away _ MEMV.out with h | h
                      · rw [show (Value.slice go out.length gcap).ownBlock = none from h] at e; cases e
                      · exact h e)
                    have gcell2 : (wr.alloc (.cells #[.int .u32 (iv X)] 67)).cell? ⟨o, a, none⟩ = some (.slice go out.length gcap) := ((below_alloc wr (.cells #[.int .u32 (iv X)] 67)).cell (p := ⟨o, a, none⟩) HO1.out.2).trans gcell
                    have xalloc : (wr.alloc (.cells #[.int .u32 (iv X)] 67)).cell? ⟨bx, 0, none⟩ = some (.int .u32 (iv X)) := ((below_alloc wr (.cells #[.int .u32 (iv X)] 67)).cell (p := ⟨bx, 0, none⟩) HB.out.2.2.2).trans x0
                    have ho8e := hid (fun (W : World) (hg8 : (wr.drew.alloc (.cells #[.int .u32 (iv X)] 67)).grownBy W (Value.slice go out.length gcap).ownBlock) => (own_below OUO.out XB.out).kept hg8 (.inr (fun e => HGNE.out e.symm)))
                    go_wp2_with fail
                    go_region_law ((refine step_pushE (by rfl) _ _ 53 (by rfl) w4.heap.size 67 (.int .u32 0) 4 undSets infoSet rfl (by decide) enc (.slice go out.length gcap) out (by rfl) GI2.out ⟨wr.heap.size, 0, none⟩ X rfl (by rfl) CN.out (by have := OUTS.out; omega) SZW.out ?_; intro v8 w8 hown8 hg8 hv8; obtain ⟨ao8, n8, cap8, rfl⟩ := own_sliceN hown8; have ho8 := ho8e.out w8 hg8; have hc8 := (ho8.cellAt a (by have := HLT2.out; omega)).trans (show (gs.map Prod.fst)[a]? = some (.slice go out.length gcap) by rw [List.getElem?_map, HV.out]; rfl); have hf8 : w8.frozen? ⟨o, a, none⟩ = false := ho8.frozenAt _; have OG9 := hid (OwnGs.add (x := X) MW2.out.own HV.out hown8 hg8 hv8 HII.out.len.symm); have ST9 := hid (ho8.stored a (.slice ao8 n8 cap8)).2; have HG8 := hid hg8; have HV8 := hid hv8))
                    all_goals
                      have GG9 := hid (grow_trans' (grow_appM GG2.out HG8.out (fun j hj => (GI2.out.lt j hj).1)) ST9.out)
                      have UO := hid (show u3.ownBlock ≠ some o from fun e => by
                        rcases own_neM MW2.out.out MW2.out.own.outer (by decide) with h | h
                        · rw [h] at e; cases e
                        · exact h (e.trans rfl))
                      have OUT8 := MW2.out.out.kept HG8.out (own_neM MW2.out.out GI2.out (by decide))
                      have OUT9 := hid (ownsRow_setCell_other (a := ⟨o, a, none⟩) OUT8 UO.out (.slice ao8 n8 cap8))
                      have xx : (w8.setCell ⟨o, a, none⟩ (.slice ao8 n8 cap8)).cell? ⟨bx, 0, none⟩ = some (.int .u32 (iv X)) := (World.cell?_setCell_other _ _ _ _ (by have := OBX.out; intro e; simp at e <;> omega)).trans ((HG8.out.cell_far ⟨bx, 0, none⟩ (Nat.lt_of_lt_of_le HB.out.2.2.2 XB.out.size) (fun e => HB.out.2.1 _ MEMV.out e.symm)).trans ((XB.out.cell (p := ⟨bx, 0, none⟩) HB.out.2.2.2).trans HB.out.1))
                      have NB9 := hid (show ∀ g ∈ gs.set a (.slice ao8 n8 cap8, out ++ [X]), g.1.ownBlock ≠ some bx from fun g hg => by
                        rcases List.mem_or_eq_of_mem_set hg with h | h
                        · exact HB.out.2.1 g h
                        · subst h
                          rcases HV8.out with h | h
                          · intro e; exact HB.out.2.1 _ MEMV.out (h.symm.trans e)
                          · intro e; exact Nat.lt_irrefl _ (Nat.lt_of_lt_of_le (Nat.lt_of_lt_of_le HB.out.2.2.2 XB.out.size) (Nat.le_of_eq (Option.some.inj (h.symm.trans e)))))
                      obtain ⟨w9, hw9⟩ : ∃ w9 : World, w8.setCell ⟨o, a, none⟩ (.slice ao8 n8 cap8) = w9 := ⟨_, rfl⟩
                      rw [hw9] at OG9 GG9 OUT9 xx ⊢
                      have XX := hid xx
                      have W4S9 := hid (show w4.heap.size ≤ w9.heap.size from GG9.out.size)
                      have BA9 := hid (show Below w9.heap.size w9 (w9.alloc (.cells #[.int .u32 (iv X), .int .u32 (iv (1#32 <<< a))] 69)).drew from (below_alloc w9 _).drew)
                      have OA9 := hid (show (w9.alloc (.cells #[.int .u32 (iv X), .int .u32 (iv (1#32 <<< a))] 69)).drew.ownsRow w4.heap.size 69 2 u3 L.length (L.flatMap cF) from (OUT9.out.alloc _).drew)
                      have xd : w9.drew.cell? ⟨bx, 0, none⟩ = some (.int .u32 (iv X)) := xx
                      have LLE := hid (show L.length ≤ 1000 from by
                        have h1 := minO_length Q k ys i
                        have h2 := rowO_length Q ys i a
                        have h3 : i * k ≤ 64 * 6 := Nat.mul_le_mul I64.out H6.out
                        have := HLT2.out; have := H6.out
                        rw [HLE.out, List.length_append]; omega)
                      clear hown8 hg8 hv8 ho8 hc8 hf8 ST9 HG8 OUT8 gcell gcell2 x0 hw9 xalloc
                      go_wp2_with fail
                      go_region_law ((refine step_pushCo (by rfl) _ _ 50 (by rfl) w4.heap.size 69 (.agg #[.int .u32 0, .int .u32 0]) 2 8 undFDs infoFD rfl (by decide) (by decide) cF cF_length cF_one _ L (by rfl) OA9.out ⟨w9.heap.size, 0, none⟩ (X, 1#32 <<< a) (by rfl) (cells_newFd _ (X, 1#32 <<< a)) (by have := LLE.out; omega) (by have := W4S9.out; simp; omega) ?_; intro v10 w10 hown10 hg10 hl10))
                      all_goals
                        have OWN10 := hid (show w10.ownsRow w4.heap.size 69 2 v10 (L ++ [(X, bit a)]).length ((L ++ [(X, bit a)]).flatMap cF) from hown10)
                        have OGA := hid (OG9.out.below BA9.out)
                        have OG10 := hid (OGA.out.kept hg10 (own_neM OGA.out.outer OA9.out (by decide)) (fun g hm => own_neM (OGA.out.inner g hm) OA9.out (by decide)))
                        have GG10 := hid (grow_appM (grow_trans' GG9.out (grow_of_below (o := some o) BA9.out)) hg10 (fun j hj => (OUT9.out.lt j hj).1))
                        have XX10 := hid (show w10.cell? ⟨bx, 0, none⟩ = some (.int .u32 (iv X)) from (hg10.cell_far ⟨bx, 0, none⟩ (Nat.lt_of_lt_of_le (World.block_lt_of_cell? _ _ XX.out) BA9.out.size) (fun e => HB.out.2.2.1 e.symm)).trans ((BA9.out.cell (p := ⟨bx, 0, none⟩) (World.block_lt_of_cell? _ _ XX.out)).trans XX.out))
                        have NU10 := hid (show v10.ownBlock ≠ some bx from fun e => by
                          rcases hl10 with h | h
                          · exact HB.out.2.2.1 (h.symm.trans e)
                          · have e2 := Option.some.inj (h.symm.trans e); have h3 : bx < w9.heap.size := World.block_lt_of_cell? _ _ XX.out; have h4 := BA9.out.size; omega)
                        have S10 := hid (show bx < w10.heap.size from World.block_lt_of_cell? _ _ XX10.out)
                        clear hown10 hg10 hl10 xx xd
                        go_wp2_with fail
                        go_roundw
                        case rel => exact ⟨a + 1, _, _, by have := HLT2.out; omega, by go_num, ⟨OG10.out, OWN10.out⟩, hid LT.out, hid (TAKE.out _ PT.out), GG10.out, hid ⟨XX10.out, NB9.out, NU10.out, S10.out⟩⟩
                        case measure => have := HLT2.out; simp [intOf]; omega
            · have hae : a = k := by omega
              have HIE := hid (show MinJ Q ys k (i + 1) 0 gs from by have h := HII.out; rw [hae] at h; exact h.next)
              have LE := hid (show L = minO Q k ys (i + 1) from by rw [minO_next, ← hae]; rw [← hae] at HLE; exact HLE.out)
              have MW := hid hmw
              have GG := hid hgg
              clear hmw hgg
              go_wp2_with fail
              go_roundw
              case rel => exact ⟨i + 1, gs, L, by have := HLT.out; omega, by go_num, MW.out, LE, HIE, GG.out⟩
              case measure => have := HLT.out; simp [intOf]; omega
        · intro s c w5 cnt2 hls hps hrg5 hlt5 hg5 hs5 hen
          have G5 := hid (grow_trans' GI.out hg5)
          have x5 : w5.cell? ⟨bx, 0, none⟩ = some (.int .u32 (iv X)) := (G5.out.cell_far ⟨bx, 0, none⟩ (World.block_lt_of_cell? _ _ CXi.out) (by have := NR.out.1; simp; omega)).trans CXi.out
          have CO5 := hid (CO.out.next hls hps)
          have E5 := hid (CLN.out ks s X)
          rw [← HC.out] at E5
          have RG5 := hid hrg5
          have MS := hid (show wr.rangeLeft mb r = cnt1 ∧ w5.rangeLeft mb r = cnt2 from ⟨hLE.out, RG5.out.left_eq⟩)
          have LT5 := hid hlt5
          clear hrg hrg5 hg5 hs5 hlt5 hls hps hLE CO HC
          cases hq : (X &&& ~~~ s == 0#32) with
          | true =>
            have E6 := hid (show C &&& s = CL (ks ++ [s]) X by rw [E5.out]; unfold clStep; rw [if_pos hq])
            have hq2 : X &&& ~~~ s = 0#32 := by simpa using hq
            clear E5
            go_wp2_with fail
            go_roundw
            case rel => exact ⟨_, cnt2, ks ++ [s], _, RG5, rfl, E6, CO5, G5.out⟩
            case measure => rw [MS.out.1, MS.out.2]; exact LT5.out
          | false =>
            have E6 := hid (show C = CL (ks ++ [s]) X by rw [E5.out]; unfold clStep; rw [if_neg (by rw [hq]; simp)])
            clear E5
            go_wp2_with fail
            go_roundw
            case rel => exact ⟨_, cnt2, ks ++ [s], C, RG5, rfl, E6, CO5, G5.out⟩
            case measure => rw [MS.out.1, MS.out.2]; exact LT5.out
    · have hie : i = ys.length := by omega
      have OWN := hid (show wo.ownsRow o 69 2 u3 (minO Q k ys ys.length).length ((minO Q k ys ys.length).flatMap cF) from by
        have h := HL0.out; rw [hie] at h; rw [← h]; exact own_mono hmw.out (by have := HO4.out; omega))
      have BF := hid (BW.out _ hgg)
      clear hmw hgg
      go_wp2_with fail
      go_ret
      exact ⟨_, ys, rfl, HS.out, YL.out, by rw [HOE.out]; exact OWN.out, by rw [HOE.out]; exact BF.out⟩

end Go.Proofs.YtdiafhbbmliefaaGreatDoor

