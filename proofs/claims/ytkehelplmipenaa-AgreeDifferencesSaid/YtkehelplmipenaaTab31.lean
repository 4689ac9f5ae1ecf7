/- Plain laws of agree sets: they decide the dependencies of a table; the difference sets do too. No program. -/
import Derived.Test.YtkehelplmipenaaTab28
import Derived.Test.YtkehelplmipenaaTab25
import Derived.Test.YtkehelplmipenaaAgrL
namespace Go.Proofs.Ytkehelplmipenaa
open Go.RowKit Go.Lib
set_option linter.unusedSimpArgs false

theorem eqV_refl (x : V3) : eqV x x = true := by unfold eqV eqT; simp
theorem eqV_iff (x y : V3) : eqV x y = true ↔ x.1 = y.1 ∧ x.2.1 = y.2.1 ∧ x.2.2.toList = y.2.2.toList := by
  unfold eqV eqT; simp [and_assoc]
theorem eqV_comm (x y : V3) : eqV x y = eqV y x := by
  rw [Bool.eq_iff_iff, eqV_iff, eqV_iff]
  exact ⟨fun ⟨a, b, c⟩ => ⟨a.symm, b.symm, c.symm⟩, fun ⟨a, b, c⟩ => ⟨a.symm, b.symm, c.symm⟩⟩
theorem eqV_trans {x y z : V3} (h : eqV x y = true) (k : eqV y z = true) : eqV x z = true := by
  rw [eqV_iff] at *
  exact ⟨h.1.trans k.1, h.2.1.trans k.2.1, h.2.2.trans k.2.2⟩
theorem rowsS_get (xs ys : List V3) (k i : Nat) (hi : i < 32) : (rowsS xs ys k).getLsbD i = (decide (i < k) && eqV (xs.getD i noV) (ys.getD i noV)) := by
  induction k with
  | zero => simp [rowsS]
  | succ k ih =>
    unfold rowsS
    cases hq : eqV (xs.getD k noV) (ys.getD k noV) with
    | false =>
      rw [if_neg (by simp), ih]
      by_cases h1 : i < k
      · simp [h1, show i < k + 1 by omega]
      · by_cases h2 : i = k
        · subst h2; rw [hq]; simp
        · simp [h1, show ¬ i < k + 1 by omega]
    | true =>
      rw [if_pos rfl, BitVec.getLsbD_or, ih, show (1#32 <<< k) = bit k from rfl, bit_get k i hi]
      by_cases h1 : i < k
      · simp [h1, show i < k + 1 by omega, show i ≠ k by omega]
      · by_cases h2 : i = k
        · subst h2; rw [hq]; simp
        · simp [h1, h2, show ¬ i < k + 1 by omega]
theorem rowsS_comm (xs ys : List V3) (k : Nat) : rowsS xs ys k = rowsS ys xs k := bv_ext fun i hi => by
  rw [rowsS_get _ _ _ _ hi, rowsS_get _ _ _ _ hi, eqV_comm]
theorem rowsS_self (xs : List V3) (k : Nat) : rowsS xs xs k = fullN k := bv_ext fun i hi => by
  rw [rowsS_get _ _ _ _ hi, fullN_get _ _ hi, eqV_refl, Bool.and_true]
theorem rowsS_full (xs ys : List V3) (k : Nat) : sub (rowsS xs ys k) (fullN k) := fun i hi h => by
  rw [rowsS_get _ _ _ _ hi, Bool.and_eq_true] at h
  rw [fullN_get _ _ hi]; exact h.1
theorem full_le {s : S} {m i : Nat} (h : sub s (fullN m)) (hi : i < 32) (hs : s.getLsbD i = true) : i < m := by
  have := h i hi hs
  rw [fullN_get _ _ hi, decide_eq_true_iff] at this; exact this
theorem agB_sub {xs ys : List V3} {m : Nat} (hx : xs.length = m) (hy : ys.length = m) (h32 : m ≤ 32) {s : S} (hs : sub s (fullN m)) : agB xs ys s = true ↔ sub s (rowsS xs ys m) := by
  unfold agB
  rw [agB_iff s xs.length (Nat.le_refl _) (by omega) (by omega), hx]
  constructor
  · intro h i hi hb; exact h i (full_le hs hi hb) hb
  · intro h i hi hb; exact h i (by omega) hb

theorem mem_pairsS : ∀ {rs : List Row3} {s : S}, s ∈ pairsS rs ↔ ∃ (i k : Nat) (r q : Row3), i < k ∧ rs[i]? = some r ∧ rs[k]? = some q ∧ s = rowsS r.2.2 q.2.2 r.2.2.length := by
  intro rs
  induction rs with
  | nil => intro s; simp [pairsS]
  | cons x xs ih =>
    intro s
    unfold pairsS
    rw [List.mem_append, ih]
    constructor
    · rintro (h | ⟨i, k, r, q, hik, hr, hq, e⟩)
      · obtain ⟨q, hq, e⟩ := List.mem_map.1 h
        obtain ⟨k, hk⟩ := List.mem_iff_getElem?.1 hq
        exact ⟨0, k + 1, x, q, by omega, rfl, by simpa using hk, e.symm⟩
      · exact ⟨i + 1, k + 1, r, q, by omega, by simpa using hr, by simpa using hq, e⟩
    · rintro ⟨i, k, r, q, hik, hr, hq, e⟩
      obtain ⟨k, rfl⟩ : ∃ m, k = m + 1 := ⟨k - 1, by omega⟩
      cases i with
      | zero =>
        simp at hr hq; subst hr
        exact .inl (List.mem_map.2 ⟨q, List.mem_of_getElem? hq, e.symm⟩)
      | succ i => exact .inr ⟨i, k, r, q, by omega, by simpa using hr, by simpa using hq, e⟩

/-- All rows have m values. -/
def Wide (m : Nat) (rs : List Row3) : Prop := ∀ r ∈ rs, r.2.2.length = m
theorem mem_pairsW {m : Nat} {rs : List Row3} (hw : Wide m rs) {s : S} : s ∈ pairsS rs ↔ ∃ (i k : Nat) (r q : Row3), i < k ∧ rs[i]? = some r ∧ rs[k]? = some q ∧ s = rowsS r.2.2 q.2.2 m := by
  rw [mem_pairsS]
  constructor
  · rintro ⟨i, k, r, q, h1, h2, h3, h4⟩
    exact ⟨i, k, r, q, h1, h2, h3, by rw [h4, hw r (List.mem_of_getElem? h2)]⟩
  · rintro ⟨i, k, r, q, h1, h2, h3, h4⟩
    exact ⟨i, k, r, q, h1, h2, h3, by rw [h4, hw r (List.mem_of_getElem? h2)]⟩
/-- What holds of the agree sets of all pairs holds of any two rows, if it holds of the full set. -/
theorem pairs_all {m : Nat} {rs : List Row3} (hw : Wide m rs) (P : S → Prop) (hf : P (fullN m)) : (∀ s ∈ pairsS rs, P s) ↔ ∀ r ∈ rs, ∀ q ∈ rs, P (rowsS r.2.2 q.2.2 m) := by
  constructor
  · intro h r hr q hq
    obtain ⟨i, hi⟩ := List.mem_iff_getElem?.1 hr
    obtain ⟨k, hk⟩ := List.mem_iff_getElem?.1 hq
    rcases Nat.lt_trichotomy i k with hlt | rfl | hgt
    · exact h _ ((mem_pairsW hw).2 ⟨i, k, r, q, hlt, hi, hk, rfl⟩)
    · have e : r = q := by rw [hi] at hk; exact Option.some.inj hk
      rw [e, rowsS_self]; exact hf
    · rw [rowsS_comm]; exact h _ ((mem_pairsW hw).2 ⟨k, i, q, r, hgt, hk, hi, rfl⟩)
  · intro h s hs
    obtain ⟨i, k, r, q, _, hr, hq, rfl⟩ := (mem_pairsW hw).1 hs
    exact h r (List.mem_of_getElem? hr) q (List.mem_of_getElem? hq)

theorem satB_iff {m : Nat} {rs : List Row3} (hw : Wide m rs) (h32 : m ≤ 32) {f : F} (h1 : sub f.1 (fullN m)) (h2 : sub f.2 (fullN m)) : satB rs f = true ↔ ∀ s ∈ pairsS rs, sub f.1 s → sub f.2 s := by
  rw [pairs_all hw (fun s => sub f.1 s → sub f.2 s) (fun _ => h2)]
  unfold satB
  rw [List.all_eq_true]
  constructor
  · intro h r hr q hq hs
    have := List.all_eq_true.1 (h r hr) q hq
    unfold satR at this
    rw [Bool.or_eq_true, Bool.not_eq_true', agB_sub (hw r hr) (hw q hq) h32 h2] at this
    rcases this with h3 | h3
    · rw [Bool.eq_false_iff, ne_eq, agB_sub (hw r hr) (hw q hq) h32 h1] at h3
      exact absurd hs h3
    · exact h3
  · intro h r hr
    rw [List.all_eq_true]
    intro q hq
    unfold satR
    rw [Bool.or_eq_true, Bool.not_eq_true', agB_sub (hw r hr) (hw q hq) h32 h2]
    by_cases hs : sub f.1 (rowsS r.2.2 q.2.2 m)
    · exact .inr (h r hr q hq hs)
    · refine .inl ?_
      rw [Bool.eq_false_iff, ne_eq, agB_sub (hw r hr) (hw q hq) h32 h1]; exact hs

theorem mem_cntL {ps : List S} {c : C2} (h : c ∈ cntL ps) : c.1 ∈ ps := by
  unfold cntL at h
  obtain ⟨s, hs, rfl⟩ := List.mem_map.1 h
  exact ((ordS_ord ps).2 s).1 hs
theorem cntL_mem {ps : List S} {s : S} (h : s ∈ ps) : ∃ c ∈ cntL ps, c.1 = s := by
  unfold cntL
  exact ⟨_, List.mem_map.2 ⟨s, ((ordS_ord ps).2 s).2 h, rfl⟩, rfl⟩
theorem holds_iff (ps : List S) (f : F) : holdsB (cntL ps) f = true ↔ ∀ s ∈ ps, sub f.1 s → sub f.2 s := by
  unfold holdsB
  rw [Bool.not_eq_true', Bool.eq_false_iff, ne_eq, List.any_eq_true]
  constructor
  · intro h s hs h1
    apply Classical.byContradiction
    intro h2
    obtain ⟨c, hc, rfl⟩ := cntL_mem hs
    refine h ⟨c, hc, ?_⟩
    rw [Bool.and_eq_true, beq_iff_eq, bne_iff_ne, BitVec.and_comm c.1 f.1, BitVec.and_comm c.1 f.2, and_self_iff, ne_eq, and_self_iff]
    exact ⟨h1, h2⟩
  · rintro h ⟨c, hc, h1⟩
    rw [Bool.and_eq_true, beq_iff_eq, bne_iff_ne, BitVec.and_comm c.1 f.1, BitVec.and_comm c.1 f.2, and_self_iff, ne_eq, and_self_iff] at h1
    exact h1.2 (h c.1 (mem_cntL hc) h1.1)
theorem holds_sat {m : Nat} {rs : List Row3} (hw : Wide m rs) (h32 : m ≤ 32) {f : F} (h1 : sub f.1 (fullN m)) (h2 : sub f.2 (fullN m)) : holdsB (cntL (pairsS rs)) f = satB rs f := by
  rw [Bool.eq_iff_iff, satB_iff hw h32 h1 h2, holds_iff]
theorem closC_get (s : S) (i : Nat) : ∀ (l : List C2) (full : S), (closC full s l).getLsbD i = (full.getLsbD i && l.all fun c => !(c.1 &&& s == s) || c.1.getLsbD i) := by
  intro l
  induction l with
  | nil => intro full; simp [closC]
  | cons c l ih =>
    intro full
    have : closC full s (c :: l) = closC (if c.1 &&& s == s then full &&& c.1 else full) s l := rfl
    rw [this, ih, List.all_cons]
    cases hc : (c.1 &&& s == s) with
    | false => simp
    | true => rw [if_pos rfl, BitVec.getLsbD_and]; simp [Bool.and_assoc]
theorem closC_sub (full s : S) (l : List C2) : sub (closC full s l) full := fun i _ h => by
  rw [closC_get, Bool.and_eq_true] at h; exact h.1
theorem bit_le {i : Nat} {s : S} (hi : i < 32) : sub (bit i) s ↔ s.getLsbD i = true := by
  constructor
  · intro h; exact h i hi (by rw [bit_get i i hi]; simp)
  · intro h k hk hb
    rw [bit_get i k hk, decide_eq_true_iff] at hb
    rw [hb]; exact h
theorem bit_full {i m : Nat} (h : i < m) (h32 : m ≤ 32) : sub (bit i) (fullN m) := (bit_le (by omega)).2 (by rw [fullN_get _ _ (by omega)]; simpa using h)
theorem clos_sat {m : Nat} {rs : List Row3} (hw : Wide m rs) (h32 : m ≤ 32) {s : S} (h1 : sub s (fullN m)) {i : Nat} (hi : i < m) : (closC (fullN m) s (cntL (pairsS rs))).getLsbD i = satB rs (s, bit i) := by
  rw [Bool.eq_iff_iff, satB_iff hw h32 (f := (s, bit i)) h1 (bit_full hi h32), closC_get, Bool.and_eq_true, List.all_eq_true, fullN_get _ _ (by omega), decide_eq_true_iff]
  constructor
  · rintro ⟨_, h⟩ p hp hs
    obtain ⟨c, hc, rfl⟩ := cntL_mem hp
    have := h c hc
    rw [BitVec.and_comm, and_self_iff.2 hs] at this
    exact (bit_le (by omega)).2 (by simpa using this)
  · intro h
    refine ⟨hi, fun c hc => ?_⟩
    cases hq : (c.1 &&& s == s) with
    | false => rfl
    | true =>
      rw [beq_iff_eq, BitVec.and_comm, and_self_iff] at hq
      have := (bit_le (by omega)).1 (h c.1 (mem_cntL hc) hq)
      simpa using this
theorem clos_over {m : Nat} {s : S} {l : List C2} : (closC (fullN m) s l &&& ~~~ fullN m == 0#32) = true := by
  rw [beq_iff_eq, andNot_zero_iff]; exact closC_sub _ _ _

/-- The difference sets decide what determines an attribute. -/
theorem dif_sat {m a : Nat} {rs : List Row3} (hw : Wide m rs) (h32 : m ≤ 32) (ha : a < m) {s : S} (hs : sub s (fullN m)) (hsa : s.getLsbD a = false) :
    (!(keepS downR (diffL m a (pairsS rs))).any fun d => d &&& s == 0#32) = satB rs (s, bit a) := by
  have hd : ∀ p : S, p.getLsbD a = false → ((fullN m &&& ~~~ p &&& ~~~ bit a) &&& s = 0#32 ↔ sub s p) := by
    intro p _
    rw [and_zero_iff]
    constructor
    · intro h i hi hb
      cases hp : p.getLsbD i with
      | true => rfl
      | false =>
        have hia : i ≠ a := by rintro rfl; rw [hsa] at hb; cases hb
        have := h i hi (by rw [BitVec.getLsbD_and, BitVec.getLsbD_and, BitVec.getLsbD_not, BitVec.getLsbD_not, hp, bit_get a i hi, fullN_get m i hi]; simp [hi, full_le hs hi hb, hia])
        rw [hb] at this; cases this
    · intro h i hi hb
      cases hx : s.getLsbD i with
      | false => rfl
      | true =>
        have := h i hi hx
        rw [BitVec.getLsbD_and, BitVec.getLsbD_and, BitVec.getLsbD_not, this] at hb; simp at hb
  rw [Bool.eq_iff_iff, satB_iff hw h32 (f := (s, bit a)) hs (bit_full ha h32), Bool.not_eq_true', Bool.eq_false_iff, ne_eq, List.any_eq_true]
  have hmin := min_ord (diffL m a (pairsS rs))
  constructor
  · intro h p hp hsp
    refine (bit_le (by omega)).2 ?_
    cases hpa : p.getLsbD a with
    | true => rfl
    | false =>
      refine absurd ?_ h
      have hm : (fullN m &&& ~~~ p &&& ~~~ bit a) ∈ diffL m a (pairsS rs) := List.mem_map.2 ⟨p, mem_withoutS.2 ⟨hp, hpa⟩, rfl⟩
      obtain ⟨f, hf, hsub⟩ := min_below _ _ _ (Nat.le_refl _) hm
      refine ⟨f, (hmin.2 f).2 hf, ?_⟩
      rw [beq_iff_eq, and_zero_iff]
      intro i hi hb
      exact and_zero_iff.1 ((hd p hpa).2 hsp) i hi (hsub i hi hb)
  · rintro h ⟨d, hd1, hd2⟩
    obtain ⟨p, hp, rfl⟩ := List.mem_map.1 ((hmin.2 d).1 hd1).1
    obtain ⟨hp1, hp2⟩ := mem_withoutS.1 hp
    rw [beq_iff_eq, hd p hp2] at hd2
    have := (bit_le (show a < 32 by omega)).1 (h p hp1 hd2)
    rw [hp2] at this; cases this

end Go.Proofs.Ytkehelplmipenaa
