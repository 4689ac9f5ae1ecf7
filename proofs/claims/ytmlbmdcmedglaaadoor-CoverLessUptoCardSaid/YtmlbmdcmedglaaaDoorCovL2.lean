/- Plain laws of covers, on: what is left is equivalent, trimmed on the left, and none of it follows from the others. No program. -/
import Derived.Test.YtmlbmdcmedglaaaDoorCovL
namespace Go.Proofs.YtmlbmdcmedglaaaDoor

theorem sub_less (s : S) (a : Nat) : sub (s &&& ~~~ bit a) s := fun i hi h => by rw [BitVec.getLsbD_and, Bool.and_eq_true] at h; exact h.1
theorem less_get (s : S) (a i : Nat) (hi : i < 32) : (s &&& ~~~ bit a).getLsbD i = (s.getLsbD i && !decide (i = a)) := by
  rw [BitVec.getLsbD_and, BitVec.getLsbD_not, bit_get a i hi]; simp [hi]
theorem less_mono {s t : S} (h : sub s t) (a : Nat) : sub (s &&& ~~~ bit a) (t &&& ~~~ bit a) := fun i hi k => by
  rw [less_get _ _ _ hi, Bool.and_eq_true] at k ⊢; exact ⟨h i hi k.1, k.2⟩

theorem trimStep_none {i : Nat} {l : List F} {a : Nat} (h : l[i]? = none) : trimStep i l a = l := by unfold trimStep; rw [h]
theorem trimStep_yes {i : Nat} {l : List F} {a : Nat} {x : F} (h : l[i]? = some x) (he : extrB l x a = true) : trimStep i l a = l.set i (x.1 &&& ~~~ bit a, x.2) := by unfold trimStep; rw [h]; simp [he]
theorem trimStep_no {i : Nat} {l : List F} {a : Nat} {x : F} (h : l[i]? = some x) (he : extrB l x a = false) : trimStep i l a = l := by unfold trimStep; rw [h]; simp [he]
theorem trimStep_other {i j : Nat} {l : List F} {a : Nat} (h : j ≠ i) : (trimStep i l a)[j]? = l[j]? := by
  unfold trimStep; split
  · rfl
  · split
    · rw [List.getElem?_set_ne (Ne.symm h)]
    · rfl
theorem set_eqv {l : List F} {i : Nat} {x : F} {s : S} (h : l[i]? = some x) (hs : sub s x.1) (he : impS l (s, x.2) = true) : Eqv (l.set i (s, x.2)) l := by
  obtain ⟨hi, hx⟩ := List.getElem?_eq_some_iff.1 h
  intro d
  constructor
  · intro hd f hf
    obtain ⟨j, hj, rfl⟩ := List.mem_iff_getElem.1 hf
    by_cases hji : j = i
    · subst hji
      rw [hx]
      intro hsd
      exact hd (s, x.2) (List.mem_iff_getElem.2 ⟨j, by simpa using hj, by simp⟩) (sub_trans hs hsd)
    · refine hd l[j] (List.mem_iff_getElem.2 ⟨j, by simpa using hj, ?_⟩)
      rw [List.getElem_set_ne (fun e => hji e.symm)]
  · intro hd f hf
    obtain ⟨j, hj, rfl⟩ := List.mem_iff_getElem.1 hf
    by_cases hji : j = i
    · subst hji
      rw [List.getElem_set_self]
      exact imp_iff.1 he d hd
    · rw [List.getElem_set_ne (fun e => hji e.symm)]
      exact hd _ (List.getElem_mem _)
theorem trimStep_eqv (i : Nat) (l : List F) (a : Nat) : Eqv (trimStep i l a) l := by
  cases h : l[i]? with
  | none => rw [trimStep_none h]; exact Eqv.refl l
  | some x =>
    cases he : extrB l x a with
    | true => rw [trimStep_yes h he]; exact set_eqv h (sub_less _ _) he
    | false => rw [trimStep_no h he]; exact Eqv.refl l
theorem trimN_eqv (i : Nat) : ∀ (as : List Nat) (l : List F), Eqv (trimN l i as) l := by
  intro as
  induction as with
  | nil => intro l; exact Eqv.refl l
  | cons a as ih => intro l; exact (ih _).trans (trimStep_eqv i l a)
theorem trimF_eqv (l : List F) (k : Nat) : Eqv (trimF l k) l := by
  induction k with
  | zero => exact Eqv.refl l
  | succ k ih => exact (trimN_eqv _ _ _).trans ih
theorem trimN_other {i j : Nat} (h : j ≠ i) : ∀ (as : List Nat) (l : List F), (trimN l i as)[j]? = l[j]? := by
  intro as
  induction as with
  | nil => intro l; rfl
  | cons a as ih => intro l; exact (ih _).trans (trimStep_other h)

/-- What one entry becomes: its left side shrinks, and what was passed and is still there is needed. -/
theorem trimN_at {i : Nat} : ∀ (as : List Nat) (l : List F) (x : F), l[i]? = some x → ∃ s, (trimN l i as)[i]? = some (s, x.2) ∧ sub s x.1 ∧ ∀ a ∈ as, s.getLsbD a = true → extrB (trimN l i as) (s, x.2) a = false := by
  intro as
  induction as with
  | nil => intro l x h; exact ⟨x.1, h, sub_refl _, by simp⟩
  | cons a as ih =>
    intro l x h
    have key : ∃ t, (trimStep i l a)[i]? = some (t, x.2) ∧ sub t x.1 ∧ (t.getLsbD a = true → a < 32 → extrB (trimStep i l a) (t, x.2) a = false) := by
      cases he : extrB l x a with
      | true =>
        rw [trimStep_yes h he]
        refine ⟨x.1 &&& ~~~ bit a, ?_, sub_less _ _, fun hb ha => ?_⟩
        · rw [List.getElem?_set_self (List.getElem?_eq_some_iff.1 h).1]
        · rw [less_get _ _ _ ha] at hb; simp at hb
      | false =>
        rw [trimStep_no h he]
        exact ⟨x.1, h, sub_refl _, fun _ _ => he⟩
    obtain ⟨t, ht, hts, hk⟩ := key
    obtain ⟨s, hs, hss, hr⟩ := ih (trimStep i l a) (t, x.2) ht
    refine ⟨s, hs, sub_trans hss hts, fun b hb hsb => ?_⟩
    rcases List.mem_cons.1 hb with rfl | hb
    · by_cases hb32 : b < 32
      · have h1 := hk (hss b hb32 hsb) hb32
        have e : Eqv (trimN (trimStep i l b) i as) (trimStep i l b) := trimN_eqv i as _
        show impS (trimN (trimStep i l b) i as) (s &&& ~~~ bit b, x.2) = false
        rw [e.imp]
        cases h2 : impS (trimStep i l b) (s &&& ~~~ bit b, x.2) with
        | false => rfl
        | true =>
          have := imp_left h2 (less_mono hss b)
          rw [show impS (trimStep i l b) (t &&& ~~~ bit b, x.2) = false from h1] at this
          cases this
      · rw [BitVec.getLsbD_of_ge _ _ (by omega)] at hsb; cases hsb
    · exact hr b hb hsb

/-- Nothing on the left side of an entry is superfluous. -/
def Trimmed (l : List F) (j : Nat) : Prop := ∀ x, l[j]? = some x → ∀ a, x.1.getLsbD a = true → extrB l x a = false
theorem trimF_trimmed (l : List F) : ∀ k, ∀ j, j < k → Trimmed (trimF l k) j := by
  intro k
  induction k with
  | zero => intro j h; omega
  | succ k ih =>
    intro j hj x hx a ha
    have hev : Eqv (trimF l (k + 1)) (trimF l k) := trimN_eqv _ _ _
    by_cases hjk : j = k
    · subst hjk
      cases hy : (trimF l j)[j]? with
      | none =>
        have h1 : (trimF l j).length ≤ j := List.getElem?_eq_none_iff.1 hy
        have h2 := (List.getElem?_eq_some_iff.1 hx).1
        rw [trimF_length] at h1 h2; omega
      | some y =>
        obtain ⟨s, hs, hss, hr⟩ := trimN_at (lhsN (trimF l j) j) (trimF l j) y hy
        have e : (trimF l (j + 1))[j]? = some (s, y.2) := hs
        rw [e] at hx
        obtain rfl := Option.some.inj hx
        refine hr a ?_ ha
        unfold lhsN
        have ha32 : a < 32 := Nat.lt_of_not_le fun h => by rw [BitVec.getLsbD_of_ge _ _ h] at ha; cases ha
        rw [mem_memN]
        refine ⟨ha32, ?_⟩
        simp only [List.getD, hy, Option.getD_some]
        exact hss a ha32 ha
    · have e : (trimF l (k + 1))[j]? = (trimF l k)[j]? := trimN_other hjk _ _
      rw [e] at hx
      have := ih j (by omega) x hx a ha
      unfold extrB at this ⊢
      rw [hev.imp]; exact this

/-- The left sides have nothing superfluous; the right sides have one attribute, which is not on the left. -/
def LeftMin (l : List F) : Prop := ∀ x ∈ l, ∀ a, x.1.getLsbD a = true → extrB l x a = false
def UnitR (l : List F) : Prop := ∀ x ∈ l, ∃ a, a < 32 ∧ x.2 = bit a ∧ x.1.getLsbD a = false
def NonRed (l : List F) : Prop := ∀ i, i < l.length → redB l i = false
theorem split_unit (l : List F) : UnitR (splitF l) := by
  intro f hf
  obtain ⟨x, _, hf⟩ := mem_splitF.1 hf
  obtain ⟨a, ha, _, h2, rfl⟩ := mem_splitX.1 hf
  exact ⟨a, ha, rfl, h2⟩
theorem trimN_unit {i : Nat} {l : List F} (as : List Nat) (h : UnitR l) : UnitR (trimN l i as) := by
  intro f hf
  obtain ⟨j, hj, rfl⟩ := List.mem_iff_getElem.1 hf
  have hj' : j < l.length := by rw [trimN_length] at hj; exact hj
  by_cases hji : j = i
  · subst hji
    obtain ⟨s, hs, hss, _⟩ := trimN_at as l l[j] (List.getElem?_eq_getElem hj')
    have e : (trimN l j as)[j] = (s, l[j].2) := Option.some.inj ((List.getElem?_eq_getElem hj).symm.trans hs)
    rw [e]
    obtain ⟨a, ha, h1, h2⟩ := h l[j] (List.getElem_mem _)
    refine ⟨a, ha, h1, ?_⟩
    cases hb : s.getLsbD a with
    | false => rfl
    | true => rw [hss a ha hb] at h2; cases h2
  · have e := trimN_other (l := l) hji as
    rw [List.getElem?_eq_getElem hj, List.getElem?_eq_getElem hj'] at e
    rw [Option.some.inj e]
    exact h _ (List.getElem_mem _)
theorem trimF_unit {l : List F} (h : UnitR l) (k : Nat) : UnitR (trimF l k) := by
  induction k with
  | zero => exact h
  | succ k ih => exact trimN_unit _ ih
theorem trimF_left (l : List F) : LeftMin (trimF l l.length) := by
  intro x hx a ha
  obtain ⟨j, hj, rfl⟩ := List.mem_iff_getElem.1 hx
  have hj' : j < l.length := by rw [trimF_length] at hj; exact hj
  exact trimF_trimmed l l.length j hj' _ (List.getElem?_eq_getElem hj) a ha
theorem LeftMin.of {l m : List F} (h : LeftMin l) (e : Eqv m l) (hm : ∀ f ∈ m, f ∈ l) : LeftMin m := fun x hx a ha => by
  have := h x (hm x hx) a ha
  unfold extrB at this ⊢
  rw [e.imp]; exact this
theorem UnitR.of {l m : List F} (h : UnitR l) (hm : ∀ f ∈ m, f ∈ l) : UnitR m := fun x hx => h x (hm x hx)

theorem dropS_spec : ∀ (n : Nat) (l : List F) (i : Nat), l.length - i ≤ n → i ≤ l.length → (∀ j, j < i → redB l j = false) →
    Eqv (dropS l i) l ∧ (dropS l i).Sublist l ∧ NonRed (dropS l i) := by
  intro n
  induction n with
  | zero =>
    intro l i h hi hp
    rw [dropS_end (by omega)]
    exact ⟨Eqv.refl l, List.Sublist.refl l, fun j hj => hp j (by omega)⟩
  | succ n ih =>
    intro l i h hi hp
    by_cases hlt : i < l.length
    · obtain ⟨x, hx⟩ := get_some hlt
      cases hr : redB l i with
      | true =>
        rw [dropS_yes hlt hr]
        have hol := others_length hlt
        have hsub : (othersF l i).Sublist l := by
          conv => rhs; rw [others_split hx]
          exact List.Sublist.append (List.Sublist.refl _) (List.sublist_cons_self _ _)
        have hp' : ∀ j, j < i → redB (othersF l i) j = false := by
          intro j hj
          obtain ⟨y, hy⟩ := get_some (show j < l.length by omega)
          have hy' : (othersF l i)[j]? = some y := by
            unfold othersF
            rw [List.getElem?_append_left (by simp; omega), List.getElem?_take_of_lt hj]; exact hy
          rw [redB_at hy']
          have h1 := hp j hj
          rw [redB_at hy] at h1
          cases h2 : impS (othersF (othersF l i) j) y with
          | false => rfl
          | true =>
            have hm : ∀ f ∈ othersF (othersF l i) j, f ∈ othersF l j := by
              intro f hf
              unfold othersF at hf ⊢
              rcases List.mem_append.1 hf with hf | hf
              · rw [List.take_append_of_le_length (by simp; omega), List.take_take, Nat.min_eq_left (by omega)] at hf
                exact List.mem_append.2 (.inl hf)
              · refine List.mem_append.2 (.inr ?_)
                rw [List.drop_append_of_le_length (by simp; omega)] at hf
                rcases List.mem_append.1 hf with hf | hf
                · rw [List.drop_take] at hf; exact List.mem_of_mem_take hf
                · have : l.drop (i + 1) = (l.drop (j + 1)).drop (i - j) := by rw [List.drop_drop]; congr 1; omega
                  rw [this] at hf; exact List.mem_of_mem_drop hf
            have := imp_mono hm h2
            rw [h1] at this; cases this
        obtain ⟨h1, h2, h3⟩ := ih (othersF l i) i (by omega) (by omega) hp'
        exact ⟨h1.trans (others_eqv hx hr), h2.trans hsub, h3⟩
      | false =>
        rw [dropS_no hlt hr]
        refine ih l (i + 1) (by omega) (by omega) fun j hj => ?_
        by_cases e : j = i
        · subst e; exact hr
        · exact hp j (by omega)
    · rw [dropS_end hlt]
      exact ⟨Eqv.refl l, List.Sublist.refl l, fun j hj => hp j (by omega)⟩

/-- What a minimal list is. -/
def MinL (l : List F) : Prop := UnitR l ∧ NonRed l ∧ LeftMin l
theorem minF_spec (l : List F) : Eqv (minF l) l ∧ MinL (minF l) ∧ (minF l).Sublist (onceF (trimF (splitF l) (splitF l).length)) := by
  obtain ⟨h1, h2, h3⟩ := dropS_spec _ (onceF (trimF (splitF l) (splitF l).length)) 0 (Nat.le_refl _) (Nat.zero_le _) (by intro j hj; omega)
  have e1 : Eqv (onceF (trimF (splitF l) (splitF l).length)) (trimF (splitF l) (splitF l).length) := eqv_of_mem fun f => mem_onceF
  have hm : ∀ f ∈ minF l, f ∈ trimF (splitF l) (splitF l).length := fun f hf => mem_onceF.1 (h2.subset hf)
  have e2 : Eqv (minF l) (trimF (splitF l) (splitF l).length) := h1.trans e1
  refine ⟨(e2.trans (trimF_eqv _ _)).trans (split_eqv l), ⟨(trimF_unit (split_unit l) _).of hm, h3, (trimF_left (splitF l)).of e2 hm⟩, h2⟩
theorem nonred_nodup {l : List F} (h : NonRed l) : l.Nodup := by
  rw [List.nodup_iff_pairwise_ne, List.pairwise_iff_getElem]
  intro i j hi hj hij e
  have := h i hi
  rw [redB_at (List.getElem?_eq_getElem hi)] at this
  have hm : l[i] ∈ othersF l i := by
    unfold othersF
    refine List.mem_append.2 (.inr ?_)
    rw [e]
    exact List.mem_drop_iff_getElem.2 ⟨j - (i + 1), by omega, by congr 1; omega⟩
  rw [imp_of_mem hm] at this; cases this
theorem minF_self {l : List F} (h : MinL l) (hs : splitF l = l) : minF l = l := by
  have ht : ∀ k, trimF l k = l := by
    intro k
    induction k with
    | zero => rfl
    | succ k ih =>
      unfold trimF
      rw [ih]
      have : ∀ as : List Nat, (∀ a ∈ as, a ∈ lhsN l k) → trimN l k as = l := by
        intro as
        induction as with
        | nil => intro _; rfl
        | cons a as iha =>
          intro hh
          have e : trimStep k l a = l := by
            cases hk : l[k]? with
            | none => exact trimStep_none hk
            | some x =>
              refine trimStep_no hk (h.2.2 x (List.mem_of_getElem? hk) a ?_)
              have := hh a (List.mem_cons_self ..)
              unfold lhsN at this
              simp only [List.getD, hk, Option.getD_some] at this
              exact (mem_memN.1 this).2
          show trimN (trimStep k l a) k as = l
          rw [e]; exact iha fun b hb => hh b (List.mem_cons_of_mem _ hb)
      exact this _ fun _ h => h
  unfold minF
  rw [hs, ht, onceF_of_nodup (nonred_nodup h.2.1)]
  have : ∀ (n i : Nat), l.length - i ≤ n → dropS l i = l := by
    intro n
    induction n with
    | zero => intro i hi; exact dropS_end (by omega)
    | succ n ih =>
      intro i hi
      by_cases hlt : i < l.length
      · rw [dropS_no hlt (h.2.1 i hlt)]; exact ih (i + 1) (by omega)
      · exact dropS_end hlt
  exact this _ 0 (Nat.le_refl _)
theorem bit_inj {a b : Nat} (ha : a < 32) (h : bit a = bit b) : a = b := by
  have := bit_get b a ha
  rw [← h, bit_get a a ha] at this
  simpa using this.symm
theorem splitX_unit {x : F} {a : Nat} (ha : a < 32) (h1 : x.2 = bit a) (h2 : x.1.getLsbD a = false) : splitX x = [x] := by
  have hm : memN (x.2 &&& ~~~ x.1) 32 = [a] := by
    have hg : ∀ j, j < 32 → (x.2 &&& ~~~ x.1).getLsbD j = decide (j = a) := by
      intro j hj
      rw [BitVec.getLsbD_and, BitVec.getLsbD_not, h1, bit_get a j hj]
      by_cases e : j = a
      · subst e; rw [h2]; simp [hj]
      · simp [e]
    rw [memN_low ha (by rw [hg a ha]; simp) (fun j hj => by rw [hg j (by omega)]; simp; omega)]
    have hz : (x.2 &&& ~~~ x.1) &&& ~~~ bit a = 0#32 := by
      apply bv_ext
      intro j hj
      rw [less_get _ _ _ hj, hg j hj]; simp
    rw [hz, memN_zero]
  unfold splitX
  rw [hm, List.map_singleton, ← h1]
theorem splitF_unit {l : List F} (h : UnitR l) (hn : l.Nodup) : splitF l = l := by
  have : l.flatMap splitX = l := by
    clear hn
    induction l with
    | nil => rfl
    | cons x l ih =>
      rw [List.flatMap_cons, ih fun y hy => h y (List.mem_cons_of_mem _ hy)]
      obtain ⟨a, ha, h1, h2⟩ := h x (List.mem_cons_self ..)
      rw [splitX_unit ha h1 h2]; rfl
  unfold splitF
  rw [this, onceF_of_nodup hn]
theorem minF_again (l : List F) : minF (minF l) = minF l := by
  obtain ⟨_, h, _⟩ := minF_spec l
  exact minF_self h (splitF_unit h.1 (nonred_nodup h.2.1))

end Go.Proofs.YtmlbmdcmedglaaaDoor
