/- Texts that belong together, in one file. -/
import Derived.Test.YthoidncbbcpnnaaGreatDoorGFdmA
import Derived.Test.YthoidncbbcpnnaaGreatDoorGFdmB
import Derived.Test.YthoidncbbcpnnaaGreatDoorGKm3
import Derived.Test.YthoidncbbcpnnaaGreatDoorRefSubs
import Derived.Test.YthoidncbbcpnnaaGreatDoorGMid
import Derived.Test.YthoidncbbcpnnaaGreatDoorGKm2
/- Plain laws: the order of dependencies, insertion, and the order of all the minimal dependencies. No program of its own. -/
namespace Go.Proofs.YthoidncbbcpnnaaGreatDoor
open Go.RowKit
set_option linter.unusedVariables false

/-- A dependency comes before another one. -/
def befF (x y : F) : Prop := bef x.1 y.1 ∨ (x.1 = y.1 ∧ iv x.2 < iv y.2)
instance (x y : F) : Decidable (befF x y) := by unfold befF; exact inferInstance
theorem befF_asymm {x y : F} (h : befF x y) : ¬ befF y x := by
  rintro (k | ⟨k, k2⟩)
  · rcases h with h | ⟨h, -⟩
    · exact bef_asymm h k
    · rw [h] at k; exact bef_irrefl _ k
  · rcases h with h | ⟨h, h2⟩
    · rw [k] at h; exact bef_irrefl _ h
    · omega
theorem befF_trans {x y z : F} (h : befF x y) (k : befF y z) : befF x z := by
  rcases h with h | ⟨h, h2⟩ <;> rcases k with k | ⟨k, k2⟩
  · exact .inl (bef_trans h k)
  · exact .inl (k ▸ h)
  · exact .inl (h ▸ k)
  · exact .inr ⟨h.trans k, by omega⟩
theorem befF_total {x y : F} (h : ¬ befF x y) (k : ¬ befF y x) : x = y := by
  have h1 : x.1 = y.1 := bef_total (fun e => h (.inl e)) (fun e => k (.inl e))
  have h2 : x.2 = y.2 := by
    apply iv_inj
    have a1 : ¬ iv x.2 < iv y.2 := fun e => h (.inr ⟨h1, e⟩)
    have a2 : ¬ iv y.2 < iv x.2 := fun e => k (.inr ⟨h1.symm, e⟩)
    omega
  exact Prod.ext h1 h2
def SrtF (l : List F) : Prop := l.Pairwise fun p q => ¬ befF q p
theorem srt_ins {a b : List F} {x : F} (h : SrtF (a ++ b)) (hb : ∀ y ∈ b, befF x y) (ha : ∀ y ∈ a, ¬ befF x y) : SrtF (a ++ x :: b) := by
  unfold SrtF at *
  rw [List.pairwise_append] at h ⊢
  refine ⟨h.1, List.pairwise_cons.2 ⟨fun y hy => befF_asymm (hb y hy), h.2.1⟩, fun p hp q hq => ?_⟩
  rcases List.mem_cons.1 hq with rfl | hq
  · exact ha p hp
  · exact h.2.2 p hp q hq
theorem srt_last {a : List F} {y x : F} (h : SrtF (a ++ [y])) (hx : ¬ befF x y) : ∀ p ∈ a ++ [y], ¬ befF x p := by
  intro p hp hb
  rcases List.mem_append.1 hp with hp | hp
  · have h1 := (List.pairwise_append.1 h).2.2 p hp y (by simp)
    -- not (y before p)
    rcases Classical.em (p = y) with e | e
    · exact hx (e ▸ hb)
    · have h2 : befF p y := Classical.byContradiction fun k => e (befF_total k h1)
      exact hx (befF_trans hb h2)
  · rw [List.mem_singleton] at hp
    exact hx (hp ▸ hb)
/-- Strictly ordered lists of dependencies with the same members. -/
theorem srt_strict {l : List F} (h : SrtF l) (hn : l.Nodup) : l.Pairwise befF :=
  (h.and hn).imp fun ⟨h1, h2⟩ => Classical.byContradiction fun k => h2 (befF_total k h1)
theorem ordF_uniq : ∀ {l m : List F}, l.Pairwise befF → m.Pairwise befF → (∀ f, f ∈ l ↔ f ∈ m) → l = m := by
  intro l
  induction l with
  | nil =>
    intro m _ _ h
    cases m with
    | nil => rfl
    | cons y m => exact absurd ((h y).2 (by simp)) (by simp)
  | cons x l ih =>
    intro m hl hm h
    cases m with
    | nil => exact absurd ((h x).1 (by simp)) (by simp)
    | cons y m =>
      rw [List.pairwise_cons] at hl hm
      have hxy : x = y := by
        rcases List.mem_cons.1 ((h x).1 (by simp)) with e | e
        · exact e
        · rcases List.mem_cons.1 ((h y).2 (by simp)) with e2 | e2
          · exact e2.symm
          · exact absurd (hm.1 x e) (befF_asymm (hl.1 y e2))
      subst hxy
      congr 1
      refine ih hl.2 hm.2 fun f => ?_
      constructor
      · intro hf
        rcases List.mem_cons.1 ((h f).1 (List.mem_cons_of_mem _ hf)) with e | e
        · subst e; exact absurd (hl.1 f hf) (fun k => befF_asymm k k)
        · exact e
      · intro hf
        rcases List.mem_cons.1 ((h f).2 (List.mem_cons_of_mem _ hf)) with e | e
        · subst e; exact absurd (hm.1 f hf) (fun k => befF_asymm k k)
        · exact e
theorem iv_bitN {b : Nat} (h : b < 32) : iv (bit b) = ((2 ^ b : Nat) : Int) := by unfold bit; exact iv_bit h
theorem mem_rowsN {G : Nat → List S} {m : Nat} {s : S} {b : Int} : b ∈ rowsN G m s ↔ ∃ k : Nat, k < m ∧ s ∈ G k ∧ b = (k : Int) := by
  unfold rowsN
  rw [List.mem_map]
  constructor
  · rintro ⟨k, hk, rfl⟩
    rw [List.mem_filter, List.mem_range, decide_eq_true_iff] at hk
    exact ⟨k, hk.1, hk.2, rfl⟩
  · rintro ⟨k, h1, h2, rfl⟩
    exact ⟨k, by rw [List.mem_filter, List.mem_range, decide_eq_true_iff]; exact ⟨h1, h2⟩, rfl⟩
theorem rowsN_asc (G : Nat → List S) (m : Nat) (s : S) : (rowsN G m s).Pairwise (· < ·) := by
  unfold rowsN
  rw [List.pairwise_map]
  exact (List.Pairwise.filter _ List.pairwise_lt_range).imp fun h => by omega
theorem bndG_mem {G : Nat → List S} {m : Nat} {f : F} : f ∈ bndG G m ↔ ∃ k : Nat, k < m ∧ f.1 ∈ G k ∧ f.2 = bit k := by
  unfold bndG
  rw [List.mem_flatMap]
  constructor
  · rintro ⟨s, hs, hf⟩
    rw [List.mem_map] at hf
    obtain ⟨b, hb, rfl⟩ := hf
    obtain ⟨k, h1, h2, rfl⟩ := mem_rowsN.1 hb
    exact ⟨k, h1, h2, by simp⟩
  · rintro ⟨k, h1, h2, h3⟩
    refine ⟨f.1, ((ordS_ord _).2 _).2 (List.mem_flatMap.2 ⟨k, List.mem_range.2 h1, h2⟩), List.mem_map.2 ⟨(k : Int), mem_rowsN.2 ⟨k, h1, h2, rfl⟩, ?_⟩⟩
    exact Prod.ext rfl (by simp [h3])
theorem bndG_ord {G : Nat → List S} {m : Nat} (hm : m ≤ 32) : (bndG G m).Pairwise befF := by
  unfold bndG
  generalize hL : (List.range m).flatMap G = L
  have hp := (ordS_ord L).1
  generalize ordS L = us at hp
  clear hL L
  induction us with
  | nil => exact List.Pairwise.nil
  | cons s us ih =>
    rw [List.pairwise_cons] at hp
    rw [List.flatMap_cons, List.pairwise_append]
    refine ⟨?_, ih hp.2, ?_⟩
    · rw [List.pairwise_map]
      refine (List.Pairwise.and_mem.1 (rowsN_asc G m s)).imp ?_
      rintro a b ⟨ha, hb, hlt⟩
      obtain ⟨i, hi, -, rfl⟩ := mem_rowsN.1 ha
      obtain ⟨j, hj, -, rfl⟩ := mem_rowsN.1 hb
      refine .inr ⟨rfl, ?_⟩
      rw [Int.toNat_natCast, Int.toNat_natCast, iv_bitN (by omega), iv_bitN (by omega)]
      have : 2 ^ i < 2 ^ j := Nat.pow_lt_pow_right (by decide) (by omega)
      omega
    · intro x hx y hy
      rw [List.mem_map] at hx
      obtain ⟨b, -, rfl⟩ := hx
      rw [List.mem_flatMap] at hy
      obtain ⟨t, ht, hy⟩ := hy
      rw [List.mem_map] at hy
      obtain ⟨c, -, rfl⟩ := hy
      exact .inl (hp.1 t ht)
/-- The dependencies one attribute after the other. -/
noncomputable def rawL (m : Nat) (rs : List Row3) (k : Nat) : List F := (List.range k).flatMap fun a => (forL m rs a).map fun s => (s, bit a)
theorem rawL_next (m : Nat) (rs : List Row3) (k : Nat) : rawL m rs (k + 1) = rawL m rs k ++ (forL m rs k).map fun s => (s, bit k) := by
  unfold rawL; rw [List.range_succ, List.flatMap_append]; simp
theorem forL_nodup (m : Nat) (rs : List Row3) (a : Nat) : (forL m rs a).Nodup := ord_nodup (forL_ord m rs a)
theorem rawL_mem {m k : Nat} {rs : List Row3} {f : F} : f ∈ rawL m rs k ↔ ∃ a : Nat, a < k ∧ f.1 ∈ forL m rs a ∧ f.2 = bit a := by
  unfold rawL
  rw [List.mem_flatMap]
  constructor
  · rintro ⟨a, ha, hf⟩
    rw [List.mem_map] at hf
    obtain ⟨s, hs, rfl⟩ := hf
    exact ⟨a, List.mem_range.1 ha, hs, rfl⟩
  · rintro ⟨a, h1, h2, h3⟩
    exact ⟨a, List.mem_range.2 h1, List.mem_map.2 ⟨f.1, h2, Prod.ext rfl h3.symm⟩⟩
theorem rawL_nodup (m : Nat) (rs : List Row3) : ∀ k, k ≤ 32 → (rawL m rs k).Nodup := by
  intro k
  induction k with
  | zero => intro _; unfold rawL; simp
  | succ k ih =>
    intro hk
    rw [rawL_next, List.nodup_append]
    refine ⟨ih (by omega), ?_, ?_⟩
    · exact List.pairwise_map.2 ((forL_nodup m rs k).imp fun h e => h (Prod.mk.inj e).1)
    · intro x hx y hy e
      subst e
      obtain ⟨a, ha, -, h3⟩ := rawL_mem.1 hx
      rw [List.mem_map] at hy
      obtain ⟨s, -, rfl⟩ := hy
      have := bit_inj (a := k) (b := a) (by omega) h3
      omega
theorem raw_sorted {m : Nat} {rs : List Row3} (hm : m ≤ 16) {ys : List F} (hp : ys.Perm (rawL m rs m)) (hs : SrtF ys) : ys = bndL m rs 16 := by
  have hn := hp.symm.nodup (rawL_nodup m rs m (by omega))
  refine ordF_uniq (srt_strict hs hn) (bndG_ord (by omega)) fun f => ?_
  rw [hp.mem_iff, rawL_mem]
  unfold bndL
  rw [bndG_mem]
  refine exists_congr fun a => and_congr_right fun ha => and_congr_left fun _ => ?_
  rw [forK_all hm (by omega) (by omega)]
theorem bnd_filter {m : Nat} {rs : List Row3} (hm : m ≤ 16) (K : Nat) : (bndL m rs 16).filter (fun f => decide (pop f.1 ≤ K)) = bndL m rs K := by
  refine ordF_uniq ((bndG_ord (by omega)).filter _) (bndG_ord (by omega)) fun f => ?_
  unfold bndL
  rw [List.mem_filter, bndG_mem, bndG_mem, decide_eq_true_iff]
  constructor
  · rintro ⟨⟨k, h1, h2, h3⟩, h4⟩
    rw [forK_all hm (by omega) (by omega)] at h2
    exact ⟨k, h1, by unfold forK; rw [List.mem_filter, decide_eq_true_iff]; exact ⟨h2, h4⟩, h3⟩
  · rintro ⟨k, h1, h2, h3⟩
    unfold forK at h2
    rw [List.mem_filter, decide_eq_true_iff] at h2
    exact ⟨⟨k, h1, by rw [forK_all hm (by omega) (by omega)]; exact h2.1, h3⟩, h2.2⟩

end Go.Proofs.YthoidncbbcpnnaaGreatDoor


/- Plain laws of mined dependencies: left sides are transversals, evidence, certificates, what follows. No program of its own. -/
namespace Go.Proofs.YthoidncbbcpnnaaGreatDoor
open Go.RowKit
set_option linter.unusedVariables false

def othS (m a : Nat) : S := fullN m &&& ~~~ bit a
theorem sub_oth {m a : Nat} (ha : a < 32) {s : S} : sub s (othS m a) ↔ sub s (fullN m) ∧ s.getLsbD a = false := andNot_zero_iff.symm.trans (sub_others ha)
def edgS (o : S) (qs : List S) : List S := qs.map fun p => o &&& ~~~ p
theorem hits_o {o s : S} {qs : List S} (hs : sub s o) : hitsS (edgS o qs) s = true ↔ ∀ p ∈ qs, ¬ sub s p := by
  rw [hits_iff]
  unfold edgS
  have key : ∀ p : S, (o &&& ~~~ p) &&& s = 0#32 ↔ sub s p := by
    intro p
    rw [and_zero_iff]
    constructor
    · intro h i hi hb
      cases hp : p.getLsbD i with
      | true => rfl
      | false =>
        have := h i hi (by rw [BitVec.getLsbD_and, BitVec.getLsbD_not, hp, hs i hi hb]; simp [hi])
        rw [hb] at this; cases this
    · intro h i hi hb
      cases hx : s.getLsbD i with
      | false => rfl
      | true =>
        have := h i hi hx
        rw [BitVec.getLsbD_and, BitVec.getLsbD_not, this] at hb; simp at hb
  constructor
  · intro h p hp hsp
    exact h _ (List.mem_map.2 ⟨p, hp, rfl⟩) ((key p).2 hsp)
  · intro h x hx hz
    obtain ⟨p, hp, rfl⟩ := List.mem_map.1 hx
    exact h p hp ((key p).1 hz)
theorem min_o_sub {o s : S} {qs : List S} (h : minS (edgS o qs) s = true) : sub s o := by
  obtain ⟨h1, h2⟩ := minS_iff.1 h
  have hs : sub (s &&& o) s := fun i hi hb => by rw [BitVec.getLsbD_and, Bool.and_eq_true] at hb; exact hb.1
  have hh : hitsS (edgS o qs) (s &&& o) = true := by
    rw [hits_iff] at h1 ⊢
    intro x hx e
    refine h1 x hx ?_
    obtain ⟨p, _, rfl⟩ := List.mem_map.1 hx
    rw [and_zero_iff] at e ⊢
    intro i hi hb
    have h3 := e i hi hb
    rw [BitVec.getLsbD_and] at h3 hb
    rw [Bool.and_eq_true] at hb
    rw [hb.1, Bool.and_true] at h3
    exact h3
  have e := h2 _ hs hh
  intro i hi hb
  rw [← e, BitVec.getLsbD_and, Bool.and_eq_true] at hb
  exact hb.2
def avoid (qs : List S) (s : S) : Prop := ∀ p ∈ qs, ¬ sub s p
theorem min_o {o s : S} {qs : List S} : minS (edgS o qs) s = true ↔ sub s o ∧ avoid qs s ∧ ∀ t, sub t s → avoid qs t → t = s := by
  constructor
  · intro h
    have hf := min_o_sub h
    obtain ⟨h1, h2⟩ := minS_iff.1 h
    exact ⟨hf, (hits_o hf).1 h1, fun t ht hp => h2 t ht ((hits_o (sub_trans ht hf)).2 hp)⟩
  · rintro ⟨h1, h2, h3⟩
    exact minS_iff.2 ⟨(hits_o h1).2 h2, fun t ht hh => h3 t ht ((hits_o (sub_trans ht h1)).1 hh)⟩
/-- The minimal sets within o that none of qs contains. -/
def keyO (o : S) (qs : List S) : List S := allS (edgS o qs)
theorem keyO_ord (o : S) (qs : List S) : IsOrd (keyO o qs) (fun s => sub s o ∧ avoid qs s ∧ ∀ t, sub t s → avoid qs t → t = s) := (allS_ord _).congr fun s => min_o
theorem keyO_congr {o : S} {ps qs : List S} (h : ∀ s, avoid ps s ↔ avoid qs s) : keyO o ps = keyO o qs := by
  refine (keyO_ord o ps).uniq (keyO_ord o qs) fun s => ?_
  rw [h]
  simp only [h]
theorem keyO_below {o s : S} {qs : List S} (hs : sub s o) (h : avoid qs s) : ∃ k ∈ keyO o qs, sub k s := by
  obtain ⟨k, hk, h2⟩ := min_in (edgS o qs) _ s (Nat.le_refl _) ((hits_o hs).2 h)
  exact ⟨k, ((keyO_ord o qs).2 k).2 (min_o.1 hk), h2⟩
theorem allS_keep (xs : List S) : allS (keepS downR xs) = allS xs := by
  refine (allS_ord _).uniq (allS_ord xs) fun s => ?_
  rw [← redS_keep, min_red]
/-- Whoever tries all the sets within o and keeps the minimal ones that avoid qs. -/
theorem keyO_try {o : S} {qs ys : List S} (h : ∀ s, s ∈ ys ↔ sub s o ∧ avoid qs s) : keepS downR ys = keyO o qs := by
  refine (min_ord ys).uniq (keyO_ord o qs) fun s => ?_
  unfold isMin
  constructor
  · rintro ⟨h1, h2⟩
    obtain ⟨a, b⟩ := (h s).1 h1
    exact ⟨a, b, fun t ht hp => h2 t ((h t).2 ⟨sub_trans ht a, hp⟩) ht⟩
  · rintro ⟨a, b, c⟩
    exact ⟨(h s).2 ⟨a, b⟩, fun f hf hs => c f hs ((h f).1 hf).2⟩
theorem det_wo {m a : Nat} {rs : List Row3} (hw : Wide m rs) (h32 : m ≤ 32) (ha : a < m) {s : S} (hs : sub s (fullN m)) : detB rs a s = true ↔ avoid (withoutS (pairsS rs) a) s := by
  unfold detB avoid
  rw [satB_iff hw h32 hs (bit_full ha h32)]
  constructor
  · intro h p hp hsp
    rw [mem_withoutS] at hp
    have := (bit_le (by omega)).1 (h p hp.1 hsp)
    rw [hp.2] at this; cases this
  · intro h p hp hsp
    refine (bit_le (by omega)).2 ?_
    cases hb : p.getLsbD a with
    | true => rfl
    | false => exact absurd hsp (h p (mem_withoutS.2 ⟨hp, hb⟩))
theorem for_key {m a : Nat} {rs : List Row3} (hw : Wide m rs) (h32 : m ≤ 32) (ha : a < m) : forL m rs a = keyO (othS m a) (withoutS (pairsS rs) a) := by
  unfold forL
  refine keyO_try fun s => ?_
  rw [mem_lstB, forB_iff (by omega), sub_oth (by omega)]
  constructor
  · rintro ⟨h1, h2, h3⟩
    exact ⟨⟨h1, h2⟩, (det_wo hw h32 ha h1).1 h3⟩
  · rintro ⟨⟨h1, h2⟩, h3⟩
    exact ⟨h1, h2, (det_wo hw h32 ha h1).2 h3⟩
theorem without_full {m a : Nat} {rs : List Row3} (hw : Wide m rs) {p : S} (hp : p ∈ withoutS (pairsS rs) a) : sub p (fullN m) ∧ p.getLsbD a = false := by
  rw [mem_withoutS] at hp
  obtain ⟨i, k, r, q, -, -, -, rfl⟩ := (mem_pairsW hw).1 hp.1
  exact ⟨rowsS_full _ _ _, hp.2⟩
/-- The maximal sets that do not determine an attribute. -/
theorem bad_max {m a : Nat} {rs : List Row3} (hw : Wide m rs) (h32 : m ≤ 32) (ha : a < m) {ys : List S} (h : ∀ s, s ∈ ys ↔ sub s (othS m a) ∧ detB rs a s = false) : keepS upR ys = keepS upR (withoutS (pairsS rs) a) := by
  have hb : ∀ s, s ∈ ys ↔ sub s (othS m a) ∧ ∃ p ∈ withoutS (pairsS rs) a, sub s p := by
    intro s
    rw [h]
    refine and_congr_right fun hs => ?_
    have hs2 := ((sub_oth (by omega)).1 hs).1
    rw [Bool.eq_false_iff, ne_eq, det_wo hw h32 ha hs2]
    unfold avoid
    constructor
    · intro hn
      apply Classical.byContradiction
      intro hc
      exact hn fun p hp hsp => hc ⟨p, hp, hsp⟩
    · rintro ⟨p, hp, hsp⟩ hc
      exact hc p hp hsp
  have hin : ∀ p ∈ withoutS (pairsS rs) a, p ∈ ys := fun p hp => (hb p).2 ⟨(sub_oth (by omega)).2 (without_full hw hp), p, hp, sub_refl p⟩
  refine (max_ord ys).uniq (max_ord _) fun s => ?_
  unfold isMax
  constructor
  · rintro ⟨h1, h2⟩
    obtain ⟨-, p, hp, hsp⟩ := (hb s).1 h1
    have e := h2 p (hin p hp) hsp
    subst e
    exact ⟨hp, fun f hf hs => h2 f (hin f hf) hs⟩
  · rintro ⟨h1, h2⟩
    refine ⟨hin s h1, fun f hf hs => ?_⟩
    obtain ⟨-, p, hp, hfp⟩ := (hb f).1 hf
    have e := h2 p hp (sub_trans hs hfp)
    subst e
    exact sub_antisymm hfp hs
theorem agB_bit {m a : Nat} {xs ys : List V3} (hx : xs.length = m) (hy : ys.length = m) (h32 : m ≤ 32) (ha : a < m) : agB xs ys (bit a) = eqV (xs.getD a noV) (ys.getD a noV) := by
  rw [Bool.eq_iff_iff, agB_sub hx hy h32 (bit_full ha h32), bit_le (by omega), rowsS_get _ _ _ _ (by omega)]
  simp [ha]
theorem wP_ag {m a : Nat} {r q : Row3} {s : S} (hr : r.2.2.length = m) (hq : q.2.2.length = m) (h32 : m ≤ 32) (ha : a < m) (hs : sub s (fullN m)) : wP a s (r, q) = (agB r.2.2 q.2.2 s && !agB r.2.2 q.2.2 (bit a)) := by
  unfold wP
  simp only
  rw [agrB_agB hr hq h32 hs, agB_bit hr hq h32 ha, Bool.and_comm]
theorem wP_iff {m a : Nat} {r q : Row3} {s : S} (hr : r.2.2.length = m) (hq : q.2.2.length = m) (h32 : m ≤ 32) (ha : a < m) (hs : sub s (fullN m)) : wP a s (r, q) = true ↔ sub s (rowsS r.2.2 q.2.2 m) ∧ (rowsS r.2.2 q.2.2 m).getLsbD a = false := by
  rw [wP_ag hr hq h32 ha hs, Bool.and_eq_true, Bool.not_eq_true', agB_sub hr hq h32 hs]
  refine and_congr_right fun _ => ?_
  rw [← Bool.not_eq_true, agB_sub hr hq h32 (bit_full ha h32), bit_le (by omega), Bool.not_eq_true]
theorem mem_prs : ∀ {rs : List Row3} {p : Row3 × Row3}, p ∈ prs rs ↔ ∃ (i k : Nat), i < k ∧ rs[i]? = some p.1 ∧ rs[k]? = some p.2 := by
  intro rs
  induction rs with
  | nil => intro p; constructor
           · intro h; cases h
           · rintro ⟨i, k, -, h, -⟩; simp at h
  | cons r rs ih =>
    intro p
    show p ∈ rs.map (fun q => (r, q)) ++ prs rs ↔ _
    rw [List.mem_append, List.mem_map, ih]
    constructor
    · rintro (⟨q, hq, rfl⟩ | ⟨i, k, h, h1, h2⟩)
      · obtain ⟨k, hk⟩ := List.mem_iff_getElem?.1 hq
        exact ⟨0, k + 1, by omega, rfl, by simpa using hk⟩
      · exact ⟨i + 1, k + 1, by omega, by simpa using h1, by simpa using h2⟩
    · rintro ⟨i, k, h, h1, h2⟩
      cases k with
      | zero => omega
      | succ k =>
        rw [List.getElem?_cons_succ] at h2
        cases i with
        | zero =>
          left
          have e : r = p.1 := by simpa using h1
          exact ⟨p.2, List.mem_of_getElem? h2, by rw [e]⟩
        | succ i =>
          right
          rw [List.getElem?_cons_succ] at h1
          exact ⟨i, k, by omega, h1, h2⟩
/-- The first pair of rows is a right witness. -/
theorem fst_right {t : T3} (hk : tabE2 t = 0) {a : Nat} (ha : a < t.2.1.length) {s : S} (hs : s ∈ withoutS (pairsS t.2.2) a) : witB t.2.2 t.2.1.length a (s, fstW t.2.2 a s) = true := by
  obtain ⟨h16, -, hrows⟩ := tabE2_ok hk
  have hw : Wide t.2.1.length t.2.2 := fun r hr => (hrows r hr).1
  have hp := ids_inc hk
  obtain ⟨hs1, hs2⟩ := without_full hw hs
  rw [mem_withoutS] at hs
  obtain ⟨i, k, r, q, hlt, hr, hq, e⟩ := (mem_pairsW hw).1 hs.1
  have hfound : ∃ p, (prs t.2.2).find? (wP a s) = some p := by
    cases hf : (prs t.2.2).find? (wP a s) with
    | some p => exact ⟨p, rfl⟩
    | none =>
      have h1 := List.find?_eq_none.1 hf (r, q) (mem_prs.2 ⟨i, k, hlt, hr, hq⟩)
      refine absurd ((wP_iff (hw r (List.mem_of_getElem? hr)) (hw q (List.mem_of_getElem? hq)) (by omega) ha hs1).2 ⟨?_, ?_⟩) h1
      · rw [← e]; exact sub_refl s
      · rw [← e]; exact hs2
  obtain ⟨⟨r2, q2⟩, hf⟩ := hfound
  have hP := List.find?_some hf
  obtain ⟨i2, k2, hlt2, hr2, hq2⟩ := mem_prs.1 (List.mem_of_find?_eq_some hf)
  simp only at hr2 hq2
  have e1 : fstW t.2.2 a s = (r2.1, q2.1) := by unfold fstW; rw [hf]; rfl
  unfold witB
  rw [e1]
  simp only
  rw [fnd_inc hp hr2, fnd_inc hp hq2]
  unfold witO
  simp only
  rw [hr2, hq2]
  simp only
  unfold witD
  rw [hP, hs2, (shrOk_sub (by omega)).2 hs1]
  have hlt3 : r2.1 < q2.1 := by
    obtain ⟨hi, hri⟩ := List.getElem?_eq_some_iff.1 hr2
    obtain ⟨hk', hqk⟩ := List.getElem?_eq_some_iff.1 hq2
    have := List.pairwise_iff_getElem.1 hp i2 k2 hi hk' hlt2
    rwa [hri, hqk] at this
  simp [hlt3]
/-- A right witness lies in an agree set without the attribute. -/
theorem wit_sub {t : T3} (hk : tabE2 t = 0) {a : Nat} (ha : a < t.2.1.length) {x : W3} (h : witB t.2.2 t.2.1.length a x = true) : ∃ p ∈ withoutS (pairsS t.2.2) a, sub x.1 p := by
  obtain ⟨h16, -, hrows⟩ := tabE2_ok hk
  have hw : Wide t.2.1.length t.2.2 := fun r hr => (hrows r hr).1
  have hp := ids_inc hk
  unfold witB at h
  cases hA : fnd t.2.2 x.2.1 with
  | none => rw [hA] at h; cases h
  | some i =>
    cases hB : fnd t.2.2 x.2.2 with
    | none => rw [hA, hB] at h; cases h
    | some k =>
      rw [hA, hB] at h
      obtain ⟨r, hr, h1⟩ := fnd_get hA
      obtain ⟨q, hq, h2⟩ := fnd_get hB
      unfold witO at h
      simp only [hr, hq] at h
      unfold witD at h
      simp only [Bool.and_eq_true, decide_eq_true_iff] at h
      obtain ⟨⟨⟨hlt, hs1⟩, hs2⟩, hP⟩ := h
      rw [shrOk_sub (by omega)] at hs1
      obtain ⟨e1, e2⟩ := (wP_iff (hw r (List.mem_of_getElem? hr)) (hw q (List.mem_of_getElem? hq)) (by omega) ha hs1).1 hP
      have hik : i < k := by
        obtain ⟨hi, hri⟩ := List.getElem?_eq_some_iff.1 hr
        obtain ⟨hk', hqk⟩ := List.getElem?_eq_some_iff.1 hq
        rcases Nat.lt_trichotomy i k with h | h | h
        · exact h
        · subst h
          have : r = q := by rw [← hri, ← hqk]
          rw [this] at h1; omega
        · have := List.pairwise_iff_getElem.1 hp k i hk' hi h
          rw [hri, hqk] at this; omega
      exact ⟨_, mem_withoutS.2 ⟨(mem_pairsW hw).2 ⟨i, k, r, q, hik, hr, hq, rfl⟩, e2⟩, e1⟩
theorem edg_shr {m a : Nat} (hm : m ≤ 16) (ws : List W3) : ∀ x ∈ edgO (othS m a) ws, (x >>> ((m : Int)).toNat != 0#32) = false := by
  intro x hx
  obtain ⟨y, -, rfl⟩ := List.mem_map.1 hx
  have h1 : sub (othS m a &&& ~~~ y.1) (fullN m) := fun i hi hb => by
    rw [BitVec.getLsbD_and, Bool.and_eq_true] at hb
    have := hb.1
    unfold othS at this
    rw [BitVec.getLsbD_and, Bool.and_eq_true] at this
    exact this.1
  have h2 := (shrOk_sub (n := m) (by omega)).2 h1
  unfold shrOk at h2
  rw [Int.toNat_natCast, bne, h2]; rfl
theorem edg_valid {m a : Nat} (hm : m ≤ 16) {ws : List W3} (hw : ws.length ≤ 200) : validS (m : Int) (keepS downR (edgO (othS m a) ws)) = 0 := by
  unfold validS
  have h1 := keepS_length downR (edgO (othS m a) ws)
  have h2 : (edgO (othS m a) ws).length = ws.length := by unfold edgO; simp
  rw [if_neg (by omega), if_neg (by omega), if_neg]
  rw [Bool.not_eq_true, List.any_eq_false]
  intro x hx
  rw [Bool.not_eq_true]
  exact edg_shr hm ws x (((min_ord _).2 x).1 hx).1
theorem edgO_eq (o : S) (ws : List W3) : edgO o ws = edgS o (ws.map (·.1)) := by unfold edgO edgS; rw [List.map_map]; rfl
/-- The certificate, plainly. -/
theorem chk_eq {m a : Nat} (hm : m ≤ 16) {rs : List Row3} {lhs : List S} {ws : List W3} (hw : ws.length ≤ 200) :
    fchkC rs m a lhs ws = (lhs.all (lhsB rs (othS m a) a) && ws.all (witB rs m a) && decide (keyO (othS m a) (ws.map (·.1)) = lhs)) := by
  unfold fchkC
  have h1 := edg_valid (a := a) hm hw
  have h2 : resS (m : Int) (keepS downR (edgO (othS m a) ws)) = keyO (othS m a) (ws.map (·.1)) := by
    unfold resS keyO
    rw [if_pos h1, allS_keep, edgO_eq]
  unfold othS at h1 h2 ⊢
  rw [h1, h2]; rfl
theorem avoid_map {qs : List S} {f : S → W3} (hf : ∀ s, (f s).1 = s) : (qs.map f).map (·.1) = qs := by
  rw [List.map_map]
  conv => rhs; rw [← List.map_id qs]
  refine List.map_congr_left fun s _ => ?_
  exact hf s
/-- What For and Evidence return certify one another. -/
theorem chk_for {t : T3} {a : Int} (h : faE t a = 0) (hr : t.2.2.length ≤ 14) : fchkB t a (forR t a) (evdR t a) = true := by
  obtain ⟨hE, n, rfl, hn⟩ := faE_ok h
  have hk := fE_tab hE
  have h10 := (fE_ok hE).2.1
  obtain ⟨h16, -, hrows⟩ := tabE2_ok hk
  have hw : Wide t.2.1.length t.2.2 := fun r hr => (hrows r hr).1
  have hM : maxL t (n : Int) = keepS upR (withoutS (pairsS t.2.2) n) := by
    unfold maxL
    rw [if_pos (faE_ar h), Int.toNat_natCast]
  unfold fchkB forR evdR
  rw [h]
  simp only [if_true, decide_true, Bool.true_and, Int.toNat_natCast]
  rw [hM]
  have hlen : ((keepS upR (withoutS (pairsS t.2.2) n)).map fun s => (s, fstW t.2.2 n s)).length ≤ 200 := by
    rw [List.length_map]
    have h1 := keepS_length upR (withoutS (pairsS t.2.2) n)
    have h2 : (withoutS (pairsS t.2.2) n).length ≤ (pairsS t.2.2).length := List.length_filter_le _ _
    have h3 := pairsS_length t.2.2
    have h4 := Nat.mul_le_mul hr hr
    omega
  rw [chk_eq (by omega) hlen, avoid_map (fun _ => rfl)]
  have hkey : keyO (othS t.2.1.length n) (keepS upR (withoutS (pairsS t.2.2) n)) = forL t.2.1.length t.2.2 n := by
    rw [for_key hw (by omega) hn]
    exact keyO_congr fun s => maxs_all
  rw [hkey]
  simp only [decide_true, Bool.and_true, Bool.and_eq_true]
  constructor
  · rw [List.all_eq_true]
    intro s hs
    obtain ⟨⟨h1, h2, h3⟩, -⟩ := (mem_forL (by omega)).1 hs
    unfold lhsB
    rw [Bool.and_eq_true, beq_iff_eq, andNot_zero_iff]
    exact ⟨(sub_oth (by omega)).2 ⟨h1, h2⟩, h3⟩
  · rw [List.all_eq_true]
    intro x hx
    obtain ⟨s, hs, rfl⟩ := List.mem_map.1 hx
    exact fst_right hk hn (((max_ord _).2 s).1 hs).1
/-- Left sides that are accepted are those of the minimal dependencies. -/
theorem chk_sound {t : T3} {a : Int} {lhs : List S} {ws : List W3} (hl : ws.length ≤ 200) (h : fchkB t a lhs ws = true) : faE t a = 0 ∧ lhs = forR t a := by
  unfold fchkB at h
  rw [Bool.and_eq_true, decide_eq_true_iff] at h
  obtain ⟨h0, h⟩ := h
  refine ⟨h0, ?_⟩
  obtain ⟨hE, n, rfl, hn⟩ := faE_ok h0
  have hk := fE_tab hE
  have h10 := (fE_ok hE).2.1
  obtain ⟨h16, -, hrows⟩ := tabE2_ok hk
  have hw : Wide t.2.1.length t.2.2 := fun r hr => (hrows r hr).1
  rw [Int.toNat_natCast, chk_eq (by omega) hl, Bool.and_eq_true, Bool.and_eq_true, decide_eq_true_iff, List.all_eq_true, List.all_eq_true] at h
  obtain ⟨⟨h1, h2⟩, h3⟩ := h
  unfold forR
  rw [h0, if_pos rfl, Int.toNat_natCast, for_key hw (by omega) hn, ← h3]
  have g1 : ∀ p ∈ ws.map (·.1), ∃ q ∈ withoutS (pairsS t.2.2) n, sub p q := by
    intro p hp
    obtain ⟨x, hx, rfl⟩ := List.mem_map.1 hp
    exact wit_sub hk hn (h2 x hx)
  have g2 : ∀ k ∈ keyO (othS t.2.1.length n) (ws.map (·.1)), avoid (withoutS (pairsS t.2.2) n) k := by
    intro k hkm
    rw [h3] at hkm
    have := h1 k hkm
    unfold lhsB at this
    rw [Bool.and_eq_true, beq_iff_eq, andNot_zero_iff, sub_oth (by omega)] at this
    exact (det_wo hw (by omega) hn this.1.1).1 this.2
  have g3 : ∀ s, avoid (withoutS (pairsS t.2.2) n) s → avoid (ws.map (·.1)) s := by
    intro s hs p hp hsp
    obtain ⟨q, hq, hpq⟩ := g1 p hp
    exact hs q hq (sub_trans hsp hpq)
  refine (keyO_ord _ _).uniq (keyO_ord _ _) fun s => ?_
  constructor
  · rintro ⟨e1, e2, e3⟩
    exact ⟨e1, g2 s (((keyO_ord _ _).2 s).2 ⟨e1, e2, e3⟩), fun t ht hv => e3 t ht (g3 t hv)⟩
  · rintro ⟨e1, e2, e3⟩
    refine ⟨e1, g3 s e2, fun t ht hv => ?_⟩
    obtain ⟨k, hk1, hk2⟩ := keyO_below (sub_trans ht e1) hv
    have e := e3 k (sub_trans hk2 ht) (g2 k hk1)
    rw [e] at hk2
    exact sub_antisymm ht hk2
theorem mem_allR {t : T3} (h : fE t = 0) {f : F} : f ∈ allR t ↔ ∃ a : Nat, a < t.2.1.length ∧ f.1 ∈ forL t.2.1.length t.2.2 a ∧ f.2 = bit a := by
  have h10 := (fE_ok h).2.1
  unfold allR bndL
  rw [if_pos h, bndG_mem]
  refine exists_congr fun a => and_congr_right fun ha => and_congr_left fun _ => ?_
  rw [forK_all (by omega) (by omega) (by omega)]
/-- A dependency follows from all the minimal ones exactly if the table satisfies it. -/
theorem all_follows {t : T3} (h : fE t = 0) {f : F} (h1 : sub f.1 (fullN t.2.1.length)) (h2 : sub f.2 (fullN t.2.1.length)) : impS (allR t) f = satB t.2.2 f := by
  have hk := fE_tab h
  obtain ⟨h16, -, hrows⟩ := tabE2_ok hk
  have hw : Wide t.2.1.length t.2.2 := fun r hr => (hrows r hr).1
  rw [Bool.eq_iff_iff, imp_iff, satB_iff hw (by omega) h1 h2]
  constructor
  · intro hd p hp
    refine hd p fun g hg hs => ?_
    obtain ⟨a, ha, hf, e⟩ := (mem_allR h).1 hg
    obtain ⟨⟨g1, g2, g3⟩, -⟩ := (mem_forL (by omega)).1 hf
    unfold detB at g3
    rw [e]
    exact (satB_iff (f := (g.1, bit a)) hw (by omega) g1 (bit_full ha (by omega))).1 g3 p hp hs
  · intro hs d hd hfd i hi hb
    have him : i < t.2.1.length := full_le h2 hi hb
    cases hl : f.1.getLsbD i with
    | true => exact hfd i hi hl
    | false =>
      have hdet : detB t.2.2 i f.1 = true := by
        unfold detB
        refine (satB_iff (f := (f.1, bit i)) hw (by omega) h1 (bit_full him (by omega))).2 fun p hp hx => ?_
        exact (bit_le (by omega)).2 (hs p hp hx i hi hb)
      obtain ⟨k, hk1, hk2⟩ := keyO_below ((sub_oth (by omega)).2 ⟨h1, hl⟩) ((det_wo hw (by omega) him h1).1 hdet)
      rw [← for_key hw (by omega) him] at hk1
      exact (bit_le (by omega)).1 (hd (k, bit i) ((mem_allR h).2 ⟨i, him, hk1, rfl⟩) (sub_trans hk2 hfd))

end Go.Proofs.YthoidncbbcpnnaaGreatDoor


/- The walks of the reference: drossref28.Error, Few, drossref08.Satisfies, drossref28.determines. -/
namespace Go.Proofs.YthoidncbbcpnnaaGreatDoor
open Go.RowKit
set_option linter.unusedVariables false

set_option maxHeartbeats 1600000 in
set_option maxRecDepth 100000 in
theorem rerr28_any (t : T3) (av rv : Value) (w : World) (ht : RdT w av rv t) :
    Calls Tryz.prog 33 #[.agg #[.string t.1, av, rv]] w fun e w' => e = .returned (.int .i64 (fE t)) ∧ Below w.heap.size w w' := by
  have hb0 := below_alloc w (.cells #[.string t.1, av, rv] 25)
  have C3 := hid (fun W h => cells3 (w := w) (a := .string t.1) (b := av) (c := rv) (t := 25) W h)
  have T0 := hid (ht.below hb0)
  obtain ⟨w0, hw0⟩ : ∃ w0 : World, w.alloc (.cells #[.string t.1, av, rv] 25) = w0 := ⟨_, rfl⟩
  rw [hw0] at hb0 C3 T0
  have B0 := hid hb0
  have W0 := hid hw0
  have hsz0 := hb0.size
  clear hb0 hw0
  have TV := hid (fun (W : World) (h : Below w0.heap.size w0 W) => refValidT_any t av rv W (T0.out.below h))
  obtain ⟨t00, t01, t02⟩ := C3.out _ (Below.refl _ _)
  have KE := hid (show fE t = if tabE t ≠ 0 then tabE t else if 10 < t.2.1.length ∨ 200 < t.2.2.length then 3 else 0 from rfl)
  have D0 := hid (Below.refl w0.heap.size w0)
  obtain ⟨nm, ats, rs⟩ := t
  obtain ⟨ao, acap, hva, -⟩ := T0.out.1.split
  obtain ⟨ro, rcap, hvr, -⟩ := RdR.split T0.out.2
  simp only at hva hvr KE TV
  subst hva hvr
  generalize fE (nm, ats, rs) = ke at *
  generalize tabE (nm, ats, rs) = te at *
  have a0 : (0 : Int) ≤ (ats.length : Int) := by omega
  clear ht T0
  by_cases h0 : te = 0
  · subst h0
    rw [if_neg (by simp)] at KE
    by_cases h1 : 10 < ats.length
    · rw [if_pos (.inl h1)] at KE
      have i1 : decide ((10 : Int) < (ats.length : Int)) = true := by rw [decide_eq_true_iff]; omega
      have H1 := hid h1
      clear h1
      go_enter Tryz.func33, Tryz.ntmps33
      go_wp2_with fail
      rw [W0.out]
      go_wp2_with fail
      refine (TV.out _ D0.out).mono ?_
      rintro e w1 ⟨rfl, hb1⟩
      have D1 := hid (D0.out.trans (hb1.mono D0.out.size))
      obtain ⟨t10, t11, t12⟩ := C3.out _ D1.out
      clear hb1 t00 t01 t02
      go_wp2_with fail
      go_ret
      exact ⟨ret_int KE.out.symm, B0.out.trans (D1.out.mono hsz0)⟩
    · have i1 : decide ((10 : Int) < (ats.length : Int)) = false := by rw [decide_eq_false_iff_not]; omega
      by_cases h2 : 200 < rs.length
      · rw [if_pos (.inr h2)] at KE
        have i2 : decide ((200 : Int) < (rs.length : Int)) = true := by rw [decide_eq_true_iff]; omega
        have H1 := hid h1
        have H2 := hid h2
        clear h1 h2
        go_enter Tryz.func33, Tryz.ntmps33
        go_wp2_with fail
        rw [W0.out]
        go_wp2_with fail
        refine (TV.out _ D0.out).mono ?_
        rintro e w1 ⟨rfl, hb1⟩
        have D1 := hid (D0.out.trans (hb1.mono D0.out.size))
        obtain ⟨t10, t11, t12⟩ := C3.out _ D1.out
        clear hb1 t00 t01 t02
        go_wp2_with fail
        go_ret
        exact ⟨ret_int KE.out.symm, B0.out.trans (D1.out.mono hsz0)⟩
      · rw [if_neg (by intro h; rcases h with h | h; exact h1 h; exact h2 h)] at KE
        have i2 : decide ((200 : Int) < (rs.length : Int)) = false := by rw [decide_eq_false_iff_not]; omega
        have H1 := hid h1
        have H2 := hid h2
        clear h1 h2
        go_enter Tryz.func33, Tryz.ntmps33
        go_wp2_with fail
        rw [W0.out]
        go_wp2_with fail
        refine (TV.out _ D0.out).mono ?_
        rintro e w1 ⟨rfl, hb1⟩
        have D1 := hid (D0.out.trans (hb1.mono D0.out.size))
        obtain ⟨t10, t11, t12⟩ := C3.out _ D1.out
        clear hb1 t00 t01 t02
        go_wp2_with fail
        go_ret
        exact ⟨ret_int KE.out.symm, B0.out.trans (D1.out.mono hsz0)⟩
  · rw [if_pos h0] at KE
    have H0 := hid h0
    have i0 : (te == 0) = false := beq_eq_false_iff_ne.2 h0
    clear h0
    go_enter Tryz.func33, Tryz.ntmps33
    go_wp2_with fail
    rw [W0.out]
    go_wp2_with fail
    refine (TV.out _ D0.out).mono ?_
    rintro e w1 ⟨rfl, hb1⟩
    have D1 := hid (D0.out.trans (hb1.mono D0.out.size))
    obtain ⟨t10, t11, t12⟩ := C3.out _ D1.out
    clear hb1 t00 t01 t02
    go_wp2_with fail
    go_ret
    exact ⟨ret_int KE.out.symm, B0.out.trans (D1.out.mono hsz0)⟩
/-- Few rows and attributes, or an error. -/
def few28 (t : T3) : Bool := !(fE t == 0) || (decide (t.2.2.length ≤ 8) && decide (t.2.1.length ≤ 5))

end Go.Proofs.YthoidncbbcpnnaaGreatDoor


/- The walks of drossref08.Satisfies, drossref28.determines. -/
namespace Go.Proofs.YthoidncbbcpnnaaGreatDoor
open Go.RowKit
set_option linter.unusedVariables false

theorem satR_comm {m : Nat} {r q : Row3} {f : F} (hr : r.2.2.length = m) (hq : q.2.2.length = m) (h32 : m ≤ 32) (h1 : sub f.1 (fullN m)) (h2 : sub f.2 (fullN m)) : satR f r q = satR f q r := by
  unfold satR
  have e1 : agB r.2.2 q.2.2 f.1 = agB q.2.2 r.2.2 f.1 := by rw [Bool.eq_iff_iff, agB_sub hr hq h32 h1, agB_sub hq hr h32 h1, rowsS_comm]
  have e2 : agB r.2.2 q.2.2 f.2 = agB q.2.2 r.2.2 f.2 := by rw [Bool.eq_iff_iff, agB_sub hr hq h32 h2, agB_sub hq hr h32 h2, rowsS_comm]
  rw [e1, e2]
theorem satR_self {m : Nat} {r : Row3} {f : F} (hr : r.2.2.length = m) (h32 : m ≤ 32) (h2 : sub f.2 (fullN m)) : satR f r r = true := by
  unfold satR
  rw [(agB_sub hr hr h32 h2).2 (by rw [rowsS_self]; exact h2), Bool.or_true]
theorem sat8_all {m : Nat} {rs : List Row3} {f : F} (hw : ∀ r ∈ rs, r.2.2.length = m) (h32 : m ≤ 32) (h1 : sub f.1 (fullN m)) (h2 : sub f.2 (fullN m))
    (h : ∀ i r, rs[i]? = some r → (rs.take i).all (satR f r) = true) : (rs.all fun r => rs.all (satR f r)) = true := by
  rw [List.all_eq_true]
  intro r hr
  rw [List.all_eq_true]
  intro q hq
  obtain ⟨i, hi⟩ := List.mem_iff_getElem?.1 hr
  obtain ⟨k, hk⟩ := List.mem_iff_getElem?.1 hq
  have key : ∀ {i k : Nat} {r q : Row3}, rs[i]? = some r → rs[k]? = some q → k < i → satR f r q = true := by
    intro i k r q hi hk hlt
    have := h i r hi
    rw [List.all_eq_true] at this
    exact this q (List.mem_of_getElem? (i := k) (by rw [List.getElem?_take_of_lt hlt]; exact hk))
  rcases Nat.lt_trichotomy k i with hlt | rfl | hlt
  · exact key hi hk hlt
  · rw [hi] at hk; cases hk
    exact satR_self (hw r hr) h32 h2
  · rw [satR_comm (hw r hr) (hw q hq) h32 h1 h2]
    exact key hk hi hlt

attribute [local irreducible] Go.wpQuiet
set_option maxHeartbeats 3200000 in
set_option maxRecDepth 100000 in
theorem rsat8_any (t : T3) (f : F) (av rv : Value) (w : World) (ht : RdT w av rv t) (hk : tabE2 t = 0) (hs1 : sub f.1 (fullN t.2.1.length)) (hs2 : sub f.2 (fullN t.2.1.length)) :
    Calls Tryz.prog 28 #[.agg #[.string t.1, av, rv], .agg #[.int .u32 (iv f.1), .int .u32 (iv f.2)]] w fun e w' => e = .returned (.bool (satB t.2.2 f)) ∧ Below w.heap.size w w' := by
  have hb00 := below_alloc w (.cells #[.string t.1, av, rv] 25)
  have hb01 := below_alloc (w.alloc (.cells #[.string t.1, av, rv] 25)) (.cells #[.int .u32 (iv f.1), .int .u32 (iv f.2)] 56)
  have hb0 := hb00.trans (hb01.mono hb00.size)
  have C3 := hid (fun W (h : Below ((w.alloc (.cells #[.string t.1, av, rv] 25)).alloc (.cells #[.int .u32 (iv f.1), .int .u32 (iv f.2)] 56)).heap.size ((w.alloc (.cells #[.string t.1, av, rv] 25)).alloc (.cells #[.int .u32 (iv f.1), .int .u32 (iv f.2)] 56)) W) => cells3 (w := w) (a := .string t.1) (b := av) (c := rv) (t := 25) W (hb01.trans (h.mono hb01.size)))
  have F2 := hid (fun W h => cells2 (w := w.alloc (.cells #[.string t.1, av, rv] 25)) (a := .int .u32 (iv f.1)) (b := .int .u32 (iv f.2)) (t := 56) W h)
  rw [show (w.alloc (.cells #[.string t.1, av, rv] 25)).heap.size = w.heap.size + 1 by simp] at F2
  have T0 := hid (ht.below hb0)
  obtain ⟨w0, hw0⟩ : ∃ w0 : World, (w.alloc (.cells #[.string t.1, av, rv] 25)).alloc (.cells #[.int .u32 (iv f.1), .int .u32 (iv f.2)] 56) = w0 := ⟨_, rfl⟩
  rw [hw0] at hb0 C3 T0 F2
  have B0 := hid hb0
  have W0 := hid hw0
  have hsz0 := hb0.size
  clear hb0 hw0 hb00 hb01
  obtain ⟨h16, h200, hrows⟩ := tabE2_ok hk
  have SY := hid (fun h => sat8_all (rs := t.2.2) (f := f) (fun r hr => (hrows r hr).1) (by omega) hs1 hs2 h)
  clear hs1 hs2
  obtain ⟨nm, ats, rs⟩ := t
  replace h16 : ats.length ≤ 16 := h16
  replace h200 : rs.length ≤ 200 := h200
  have HR := hid (show ∀ r ∈ rs, r.2.2.length = ats.length ∧ ∀ x ∈ r.2.2, x.2.2.size ≤ 200 from hrows)
  obtain ⟨ro, rcap, rfl, hrl, hrc⟩ := RdR.split T0.out.2
  have RC := hid hrc
  have SA := hid (show satB rs f = rs.all fun r => rs.all (satR f r) from rfl)
  show Calls _ _ _ _ fun e w' => e = .returned (.bool (satB rs f)) ∧ Below w.heap.size w w'
  obtain ⟨SB, hSB⟩ : ∃ SB, satB rs f = SB := ⟨_, rfl⟩
  rw [hSB] at SA ⊢
  clear hk ht hrc hrows hSB
  have RAG := hid (fun (i j : Int) (xs ys : List V3) (u v : Value) (s : S) (W : World) (hu : RdV W u xs) (hv : RdV W v ys) (hl : ys.length = xs.length) (h32 : xs.length ≤ 32) (hs : ∀ x ∈ xs, x.2.2.size ≤ 200) => ragree_any i j xs ys u v s W hu hv hl h32 hs)
  go_enter Tryz.func28, Tryz.ntmps28
  go_wp2_with fail
  rw [W0.out]
  go_wp2_with fail
  go_loopw [5] (fun i wr => ∃ k : Nat, k ≤ rs.length ∧ i = .int .i64 k ∧ Hid (∀ i', i' < k → ∀ r, rs[i']? = some r → (rs.take i').all (satR f r) = true) ∧ Below w0.heap.size w0 wr) (fun i _ => rs.length - (intOf i).toNat)
  case atStart => exact ⟨0, Nat.zero_le _, rfl, hid (fun i' h => absurd h (by omega)), Below.refl _ _⟩
  case round =>
    obtain ⟨i, hk, rfl, HP, hnx⟩ := hrel
    have hsz := hnx.size
    obtain ⟨e0, e1, e2⟩ := C3.out _ hnx
    have i0 : (0 : Int) ≤ (i : Int) := by omega
    by_cases hlt : i < rs.length
    · obtain ⟨⟨rid, ru, rvs⟩, hr⟩ := get_some hlt
      obtain ⟨⟨b, off, rfl, hd⟩, hvs⟩ := RC.out i _ hr
      have HR1 := hid (HR.out _ (List.mem_of_getElem? hr))
      have VS := hid (fun (W : World) (h : Below w0.heap.size w0 W) => show RdV W ru rvs from hvs W h)
      have DD := hid (fun W h => hd W h)
      have XR := hid hr
      obtain ⟨wo, rfl⟩ : ∃ wo : World, wo = wr := ⟨_, rfl⟩
      have HLT := hid hlt
      have NXO := hid hnx
      clear hd hvs hr hnx
      go_wp2_with fail
      go_loopw [6] (fun j wr => ∃ k : Nat, k ≤ i ∧ j = .int .i64 k ∧ Hid ((rs.take k).all (satR f (rid, ru, rvs)) = true) ∧ Below w0.heap.size w0 wr) (fun j _ => i - (intOf j).toNat)
      case atStart => exact ⟨0, Nat.zero_le _, rfl, hid rfl, NXO.out⟩
      case round =>
        obtain ⟨k, hk2, rfl, HQ, hnx⟩ := hrel
        have hsz2 := hnx.size
        obtain ⟨f0, f1, f2⟩ := C3.out _ hnx
        obtain ⟨p0, p1⟩ := F2.out _ hnx
        have j0 : (0 : Int) ≤ (k : Int) := by omega
        by_cases hlt2 : k < i
        · have hkr : k < rs.length := by omega
          obtain ⟨⟨qid, qu, qvs⟩, hq⟩ := get_some hkr
          have HR2 := hid (HR.out _ (List.mem_of_getElem? hq))
          obtain ⟨⟨b', off', hbb, hd'⟩, hvs'⟩ := RC.out k _ hq
          cases hbb
          have VS2 := hid (fun (W : World) (h : Below w0.heap.size w0 W) => show RdV W qu qvs from hvs' W h)
          have NX := hid hnx
          have XQ := hid hq
          have CA := hid (fun (s : S) (x : After wr) => Calls.after x (RAG.out rid qid rvs qvs ru qu s x.world (VS.out _ (NX.out.trans (x.below.mono hsz2))) (VS2.out _ (NX.out.trans (x.below.mono hsz2))) (by rw [HR1.out.1, HR2.out.1]) (by rw [HR1.out.1]; exact Nat.le_trans h16 (by decide)) HR1.out.2))
          have C1 := hid (CA.out f.1)
          have C2 := hid (CA.out f.2)
          obtain ⟨g0, g1⟩ := DD.out wr hnx
          obtain ⟨x0, x1⟩ := hd' wr hnx
          have m2 : ∀ x : After wr, x.world.cell? ⟨w.heap.size, 2, none⟩ = some (.slice (some ⟨b, off, none⟩) rs.length rcap) := fun x => After.cell f2 x
          have y0 : ∀ x : After wr, x.world.cell? ⟨w.heap.size + 1, 0, none⟩ = some (.int .u32 (iv f.1)) := fun x => After.cell p0 x
          have y1 : ∀ x : After wr, x.world.cell? ⟨w.heap.size + 1, 1, none⟩ = some (.int .u32 (iv f.2)) := fun x => After.cell p1 x
          have n0 : ∀ x : After wr, x.world.cell? ⟨b, off + i * 2, none⟩ = some (.int .i64 rid) := fun x => After.cell g0 x
          have n1 : ∀ x : After wr, x.world.cell? ⟨b, off + i * 2 + 1, none⟩ = some ru := fun x => After.cell g1 x
          have o0 : ∀ x : After wr, x.world.cell? ⟨b, off + k * 2, none⟩ = some (.int .i64 qid) := fun x => After.cell x0 x
          have o1 : ∀ x : After wr, x.world.cell? ⟨b, off + k * 2 + 1, none⟩ = some qu := fun x => After.cell x1 x
          have SR := hid (show satR f (rid, ru, rvs) (qid, qu, qvs) = (!(agB rvs qvs f.1) || agB rvs qvs f.2) from rfl)
          have HK2 := hid hlt2
          have HLT2 := hid HLT.out
          clear hd' hvs' hq hnx CA
          cases h1 : agB rvs qvs f.1 with
          | false =>
            rw [h1] at C1 SR
            have P := hid (show satR f (rid, ru, rvs) (qid, qu, qvs) = true by rw [SR.out]; rfl)
            clear h1 C2
            go_wp2_with fail
            refine wp_region_after (by kernel_rfl) (by kernel_rfl) ?_
            repeat (any_goals (quiet_step (first | exact C1.out _)))
            refine wpQuiet_nil ?_
            intro wq hbq
            have BQ := hid (NX.out.trans (hbq.mono hsz2))
            clear hbq m2 y0 y1 n0 n1 o0 o1 C1
            go_wp2_with fail
            go_roundw
            case rel => exact ⟨k + 1, by have := HK2.out; omega, by go_num, hid (all_next XQ.out P.out HQ.out), BQ.out⟩
            case measure => have := HK2.out; simp [intOf]; omega
          | true =>
            cases h2 : agB rvs qvs f.2 with
            | true =>
              rw [h1, h2] at SR
              rw [h1] at C1
              rw [h2] at C2
              have P := hid (show satR f (rid, ru, rvs) (qid, qu, qvs) = true by rw [SR.out]; rfl)
              clear h1 h2
              go_wp2_with fail
              refine wp_region_after (by kernel_rfl) (by kernel_rfl) ?_
              repeat (any_goals (quiet_step (first | (with_reducible exact C1.out _) | exact C2.out _)))
              refine wpQuiet_nil ?_
              intro wq hbq
              have BQ := hid (NX.out.trans (hbq.mono hsz2))
              clear hbq m2 y0 y1 n0 n1 o0 o1 C1 C2
              go_wp2_with fail
              go_roundw
              case rel => exact ⟨k + 1, by have := HK2.out; omega, by go_num, hid (all_next XQ.out P.out HQ.out), BQ.out⟩
              case measure => have := HK2.out; simp [intOf]; omega
            | false =>
              rw [h1, h2] at SR
              rw [h1] at C1
              rw [h2] at C2
              have P := hid (show SB = false by rw [SA.out]; exact all_hit XR.out (all_hit XQ.out (by rw [SR.out]; rfl)))
              clear h1 h2
              go_wp2_with fail
              refine wp_region_after (by kernel_rfl) (by kernel_rfl) ?_
              repeat (any_goals (quiet_step (first | (with_reducible exact C1.out _) | exact C2.out _)))
              refine wpQuiet_nil ?_
              intro wq hbq
              have BQ := hid (B0.out.trans ((NX.out.trans (hbq.mono hsz2)).mono hsz0))
              clear hbq m2 y0 y1 n0 n1 o0 o1 C1 C2
              go_wp2_with fail
              go_ret
              exact ⟨ret_bool P.out.symm, BQ.out⟩
        · have hki : k = i := by omega
          have HQ2 := hid (show (rs.take i).all (satR f (rid, ru, rvs)) = true by have h := HQ.out; rwa [hki] at h)
          have NX := hid hnx
          clear hnx HQ hki
          go_wp2_with fail
          go_roundw
          case rel => exact ⟨i + 1, by have := HLT.out; omega, by go_num, hid (fun i' hi r hr => by
            by_cases e : i' = i
            · subst e
              rw [XR.out] at hr
              cases hr
              exact HQ2.out
            · exact HP.out i' (by omega) r hr), NX.out⟩
          case measure => have := HLT.out; simp [intOf]; omega
    · have HP2 := hid (show SB = true by rw [SA.out]; exact SY.out (fun i' r hr => HP.out i' (by have := (List.getElem?_eq_some_iff.1 hr).1; omega) r hr))
      have BF := hid (B0.out.trans (hnx.mono hsz0))
      clear hnx HP
      go_wp2_with fail
      go_ret
      exact ⟨ret_bool HP2.out.symm, BF.out⟩

set_option maxHeartbeats 1600000 in
set_option maxRecDepth 100000 in
theorem rdet_any (t : T3) (av rv : Value) (s : S) (a : Nat) (w : World) (ht : RdT w av rv t) (hk : tabE2 t = 0) (ha : a < t.2.1.length) (hs : sub s (fullN t.2.1.length)) :
    Calls Tryz.prog 42 #[.agg #[.string t.1, av, rv], .int .u32 (iv s), .int .i64 (a : Int)] w fun e w' => e = .returned (.bool (detB t.2.2 a s)) ∧ Below w.heap.size w w' := by
  have h16 := (tabE2_ok hk).1
  have hb0 := below_alloc w (.cells #[.string t.1, av, rv] 25)
  have C3 := hid (fun W h => cells3 (w := w) (a := .string t.1) (b := av) (c := rv) (t := 25) W h)
  have T0 := hid (ht.below hb0)
  obtain ⟨w0, hw0⟩ : ∃ w0 : World, w.alloc (.cells #[.string t.1, av, rv] 25) = w0 := ⟨_, rfl⟩
  rw [hw0] at hb0 C3 T0
  have B0 := hid hb0
  have W0 := hid hw0
  have hsz0 := hb0.size
  clear hb0 hw0
  have RS := hid (fun (W : World) (h : Below w0.heap.size w0 W) => rsat8_any t (s, bit a) av rv W (T0.out.below h) hk hs (bit_full ha (by omega)))
  have a0 : (0 : Int) ≤ (a : Int) := by omega
  have a1 : (a : Int) < 32 := by omega
  obtain ⟨c0, c1, c2⟩ := C3.out _ (Below.refl _ _)
  obtain ⟨nm, ats, rs⟩ := t
  simp only at RS
  show Calls _ _ _ _ fun e w' => e = .returned (.bool (satB rs (s, bit a))) ∧ Below w.heap.size w w'
  obtain ⟨SB, hSB⟩ : ∃ SB, satB rs (s, bit a) = SB := ⟨_, rfl⟩
  rw [hSB] at RS ⊢
  have CX := hid (fun (z : After w0) => Calls.after z (RS.out z.world z.below))
  have m0 := fun z : After w0 => After.cell c0 z
  have m1 := fun z : After w0 => After.cell c1 z
  have m2 := fun z : After w0 => After.cell c2 z
  unfold bit at CX
  clear ht hk ha hs hSB RS
  go_enter Tryz.func42, Tryz.ntmps42
  go_upto_region 1 with fail
  rw [W0.out]
  refine wp_region_after (by kernel_rfl) (by kernel_rfl) ?_
  repeat (any_goals (quiet_step (exact CX.out _)))
  refine wpQuiet_nil ?_
  intro wz hbz
  have BF := hid (B0.out.trans (hbz.mono hsz0))
  clear hbz
  go_wp2_with fail
  go_ret
  exact ⟨by first | rfl | exact ret_bool rfl, BF.out⟩

end Go.Proofs.YthoidncbbcpnnaaGreatDoor


/- The walk of drossref28.For. -/
namespace Go.Proofs.YthoidncbbcpnnaaGreatDoor
open Go.RowKit
set_option linter.unusedVariables false

theorem forL_of {m n : Nat} {rs : List Row3} (hn : n < 32) {ys : List S} (h : IsOrd ys (fun x => sub x (fullN m &&& ~~~ bit n))) : keepS downR (ys.filter (detB rs n)) = forL m rs n := by
  unfold forL
  refine keepS_congr downR fun s => ?_
  rw [List.mem_filter, h.2, mem_lstB]
  unfold forB
  rw [Bool.and_eq_true, decide_eq_true_iff, andNot_zero_iff]
theorem others_pop {m n : Nat} (hm : m ≤ 10) : pop (fullN m &&& ~~~ bit n) ≤ 12 := by
  have h1 := sub_pop (sub_less (fullN m) n)
  have h2 := pop_fullK ⟨m, by omega⟩
  simp only at h2
  omega

attribute [local irreducible] Go.wpQuiet
set_option maxHeartbeats 3200000 in
set_option maxRecDepth 100000 in
theorem rFor_any (t : T3) (av rv : Value) (a : Int) (w : World) (ht : RdT w av rv t) :
    Calls Tryz.prog 18 #[.agg #[.string t.1, av, rv], .int .i64 a] w fun e w' => ∃ v', e = .returned (.tuple #[v', .int .i64 (faE t a)]) ∧ w'.ownsRow w.heap.size 53 1 v' (forR t a).length ((forR t a).map enc) ∧ Below w.heap.size w w' := by
  have hb0 := below_alloc w (.cells #[.string t.1, av, rv] 25)
  have C3 := hid (fun W h => cells3 (w := w) (a := .string t.1) (b := av) (c := rv) (t := 25) W h)
  have T0 := hid (ht.below hb0)
  obtain ⟨w0, hw0⟩ : ∃ w0 : World, w.alloc (.cells #[.string t.1, av, rv] 25) = w0 := ⟨_, rfl⟩
  rw [hw0] at hb0 C3 T0
  have B0 := hid hb0
  have W0 := hid hw0
  have hsz0 := hb0.size
  clear hb0 hw0
  have ER := hid (fun (W : World) (h : Below w0.heap.size w0 W) => rerr28_any t av rv W (T0.out.below h))
  obtain ⟨c0, c1, c2⟩ := C3.out _ (Below.refl _ _)
  have AE : faE t a = if fE t ≠ 0 then fE t else if a < 0 ∨ (t.2.1.length : Int) ≤ a then 6 else 0 := rfl
  by_cases h0 : faE t a = 0
  · obtain ⟨hE, n, rfl, hn⟩ := faE_ok h0
    have hE2 := fE_tab hE
    have hm10 := (fE_ok hE).2.1
    have DE := hid (fun (s : S) (hs : sub s (fullN t.2.1.length)) (W : World) (h : Below w0.heap.size w0 W) => rdet_any t av rv s n W (T0.out.below h) hE2 hn hs)
    have FR : forR t (n : Int) = forL t.2.1.length t.2.2 n := by unfold forR; rw [if_pos h0]; rfl
    rw [h0, FR]
    rw [hE] at ER
    obtain ⟨nm, ats, rs⟩ := t
    obtain ⟨ao, acap, hva, -⟩ := T0.out.1.split
    simp only at hva ER DE hn hm10
    subst hva
    show Calls _ _ _ _ fun e w' => ∃ v', e = .returned (.tuple #[v', .int .i64 0]) ∧ w'.ownsRow w.heap.size 53 1 v' (forL ats.length rs n).length ((forL ats.length rs n).map enc) ∧ Below w.heap.size w w'
    have OP := hid (others_pop (m := ats.length) (n := n) hm10)
    have FL := hid (fun ys (h : IsOrd ys (fun x => sub x (fullN ats.length &&& ~~~ bit n))) => forL_of (rs := rs) (by omega) h)
    have SO := hid (fun (s : S) (h : sub s (fullN ats.length &&& ~~~ bit n)) => show sub s (fullN ats.length) from sub_trans h (sub_less _ _))
    have FU := hid (fun (W : World) => full_any (ats.length : Int) W)
    rw [show min ((ats.length : Int)).toNat 32 = ats.length by omega] at FU
    have SB := hid (fun (s : S) (W : World) => refSubsets_any s W)
    have RM := hid (fun (xs : List S) (v : Value) (W : World) (hv : RdE enc W v xs) (h : xs.length < 17592186044416) => ref2Minimal_any xs v W hv h)
    simp only [enc_eq] at FU SB
    obtain ⟨FLN, hFLN⟩ : ∃ FLN, forL ats.length rs n = FLN := ⟨_, rfl⟩
    rw [hFLN] at FL ⊢
    obtain ⟨DT, hDT⟩ : ∃ DT : S → Bool, detB rs n = DT := ⟨_, rfl⟩
    rw [hDT] at DE FL
    have n0 : (0 : Int) ≤ (n : Int) := by omega
    have n1 : (n : Int) < 32 := by omega
    have i1 : decide ((n : Int) < 0) = false := by rw [decide_eq_false_iff_not]; omega
    have i2 : decide ((ats.length : Int) ≤ (n : Int)) = false := by rw [decide_eq_false_iff_not]; omega
    have i3 : decide (ats.length ≤ n) = false := by rw [decide_eq_false_iff_not]; omega
    have i4 : ¬ ats.length ≤ n := by omega
    have HS := hid (fun (W : World) (h : Below w0.heap.size w0 W) => show Below w0.heap.size w0 W ∧ W.cell? ⟨w.heap.size, 0, none⟩ = some (.string nm) ∧ W.cell? ⟨w.heap.size, 1, none⟩ = some (.slice ao ats.length acap) ∧ W.cell? ⟨w.heap.size, 2, none⟩ = some rv from ⟨h, C3.out W h⟩)
    clear ht h0 hE hE2 hFLN hDT FR AE hn
    unfold bit at *
    go_enter Tryz.func18, Tryz.ntmps18
    go_wp2_with fail
    rw [W0.out]
    go_wp2_with fail
    refine (ER.out _ (Below.refl _ _)).mono ?_
    rintro e w1 ⟨rfl, hb1⟩
    have D1 := hid hb1
    clear hb1 c0 c1 c2
    obtain ⟨c0, c1, c2⟩ := C3.out _ D1.out
    go_wp2_with fail
    go_region_held3 (fun W => Below w0.heap.size w0 W ∧ W.cell? ⟨w.heap.size, 0, none⟩ = some (.string nm) ∧ W.cell? ⟨w.heap.size, 1, none⟩ = some (.slice ao ats.length acap) ∧ W.cell? ⟨w.heap.size, 2, none⟩ = some rv)
      (first | exact HS.out _ (below_drewN' D1.out _) | exact HS.out _ D1.out.drew | exact HS.out _ D1.out | exact HS.out _ (by assumption))
      (first
        | (go_at_call 26; have hS := And.left ‹Below w0.heap.size w0 _ ∧ _ ∧ _›; refine (FU.out _).mono ?_; rintro e wa ⟨rfl, rfl⟩; have hLa := hS; clear hS)
        | (go_at_call 41; have hS := And.left ‹Below w0.heap.size w0 _ ∧ _ ∧ _›; refine (SB.out _ _).mono ?_; rintro e wb ⟨vb, ys, rfl, hob, hsp, hyl, hbb⟩; have hLb := hS.trans (hbb.mono hS.size); have hrb := RdE.of_owns hob (by omega); clear hbb hS hob))
    all_goals
      have D2 := hid hLb
      have YO := hid (hsp.2 OP.out)
      have YL := hid hyl
      obtain ⟨yo, ycap, rfl, -, hyc⟩ := hrb.split
      have YC := hid hyc
      have KF := hid (FL.out ys YO.out)
      clear hLb hrb hsp hyl hyc
      try clear hLa
      go_wp2_with fail
      go_loopw [8, 9] (fun u i wr => ∃ k : Nat, k ≤ ys.length ∧ i = .int .i64 k ∧ wr.ownsRow wb.heap.size 53 1 u ((ys.take k).filter DT).length (((ys.take k).filter DT).map enc) ∧ Below wb.heap.size wb wr) (fun _ i _ => ys.length - (intOf i).toNat)
      case atStart => exact ⟨0, Nat.zero_le _, rfl, World.ownsRow_nil _ _ _ _, Below.refl _ _⟩
      case round =>
        obtain ⟨k, hk, rfl, hown, hnx⟩ := hrel
        have hsz := hnx.size
        have k0 : (0 : Int) ≤ (k : Int) := by omega
        have kn : (k : Int) ≤ 4294967297 := by have := YL.out; omega
        have NXW := hid (show Below w0.heap.size w0 wr from D2.out.trans (hnx.mono D2.out.size))
        by_cases hlt : k < ys.length
        · obtain ⟨x, hx⟩ := get_some hlt
          obtain ⟨b, off, rfl, hd⟩ := YC.out k x hx
          have e0 := hd wr hnx
          unfold enc at e0
          have hszw := NXW.out.size
          have XS := hid (SO.out x ((YO.out.2 x).1 (List.mem_of_getElem? hx)))
          obtain ⟨t0, t1, t2⟩ := C3.out _ NXW.out
          have CX := hid (fun (z : After wr) => Calls.after z (DE.out x XS.out z.world (NXW.out.trans (z.below.mono hszw))))
          have m0 := fun z : After wr => After.cell t0 z
          have m1 := fun z : After wr => After.cell t1 z
          have m2 := fun z : After wr => After.cell t2 z
          have m3 := fun z : After wr => After.cell e0 z
          have OLE := hid (show ((ys.take k).filter DT).length ≤ 4294967297 by have h1 := List.length_filter_le DT (ys.take k); have h2 := List.length_take_le k ys; have := YL.out; omega)
          have SN := hid (show (ys.take (k + 1)).filter DT = (ys.take k).filter DT ++ if DT x = true then [x] else [] by
            rw [take_next hx, List.filter_append, List.filter_cons, List.filter_nil])
          obtain ⟨out, hout⟩ : ∃ out, (ys.take k).filter DT = out := ⟨_, rfl⟩
          rw [hout] at hown OLE SN
          have HO := hid hown
          have HNX := hid hnx
          have HLT := hid hlt
          have HD := hid (fun (W : World) (h : Below wb.heap.size wb W) => hd W h)
          clear hown hnx hx hd hout
          cases hq : DT x with
          | true =>
            rw [hq] at CX SN
            rw [if_pos rfl] at SN
            go_wp2_with fail
            refine wp_region_after (by kernel_rfl) (by kernel_rfl) ?_
            repeat (any_goals (quiet_step (exact CX.out _)))
            refine wpQuiet_nil ?_
            intro wz hbz
            have O3 := hid (own_below HO.out hbz)
            have N3 := hid (HNX.out.trans (hbz.mono hsz))
            have e3 := HD.out wz N3.out
            have S3 := hid N3.out.size
            unfold enc at e3
            clear hbz m0 m1 m2 m3 CX t0 t1 t2 e0
            go_wp2_with (at_builtin; refine wpList_push rfl _ _ 35 rfl wb.heap.size 53 (.int .u32 0) 4 undSets infoSet rfl (by decide) enc (fun _ => rfl) _ out rfl (O3.out.alloc _) ⟨wz.heap.size, 0, none⟩ x rfl (by simp [enc]) (by have := OLE.out; omega) (by have := S3.out; simp; omega) ?_)
            intro v' w5 hown' hgrow
            have N5 := hid (below_push N3.out S3.out O3.out hgrow)
            have O5 := hid (show w5.ownsRow wb.heap.size 53 1 v' ((ys.take (k + 1)).filter DT).length (((ys.take (k + 1)).filter DT).map enc) by rw [SN.out]; simpa using hown')
            clear hown' hgrow e3
            go_wp2_with fail
            go_roundw
            case rel => exact ⟨k + 1, by have := HLT.out; omega, by go_num, O5.out, N5.out⟩
            case measure => have := HLT.out; simp [intOf]; omega
          | false =>
            rw [hq] at CX SN
            rw [if_neg (by simp), List.append_nil] at SN
            go_wp2_with fail
            refine wp_region_after (by kernel_rfl) (by kernel_rfl) ?_
            repeat (any_goals (quiet_step (exact CX.out _)))
            refine wpQuiet_nil ?_
            intro wz hbz
            have O3 := hid (own_below HO.out hbz)
            have N3 := hid (HNX.out.trans (hbz.mono hsz))
            clear hbz m0 m1 m2 m3 CX t0 t1 t2 e0
            go_wp2_with fail
            go_roundw
            case rel => exact ⟨k + 1, by have := HLT.out; omega, by go_num, by rw [SN.out]; exact O3.out, N3.out⟩
            case measure => have := HLT.out; simp [intOf]; omega
        · have hke : ys.length ≤ k := by omega
          rw [List.take_of_length_le hke] at hown
          have FLE := hid (show (ys.filter DT).length ≤ 4294967297 by have h1 := List.length_filter_le DT ys; have := YL.out; omega)
          have M1 := hid (RM.out _ _ wr (RdE.of_owns hown (by have := FLE.out; omega)) (by have := FLE.out; omega))
          rw [KF.out] at M1
          have KB := hid (B0.out.trans (NXW.out.mono hsz0))
          clear hown hnx hke
          go_wp2_with fail
          refine M1.out.mono ?_
          rintro e w6 ⟨v6, rfl, ho6, hb6⟩
          have O6 := hid (own_mono ho6 (show w.heap.size ≤ wr.heap.size from KB.out.size))
          have B6 := hid (KB.out.trans (hb6.mono KB.out.size))
          clear ho6 hb6
          go_wp2_with fail
          go_ret2
          exact ⟨_, rfl, O6.out, B6.out⟩
  · have FR : forR t a = [] := by unfold forR; rw [if_neg h0]
    rw [FR]
    obtain ⟨nm, ats, rs⟩ := t
    obtain ⟨ao, acap, hva, -⟩ := T0.out.1.split
    simp only at hva ER AE
    subst hva
    generalize faE (nm, ats, rs) a = ke at *
    generalize fE (nm, ats, rs) = fe at *
    have al0 : (0 : Int) ≤ (ats.length : Int) := by omega
    clear ht FR
    by_cases hf : fe = 0
    · subst hf
      rw [if_neg (by simp)] at AE
      have hc : a < 0 ∨ (ats.length : Int) ≤ a := by
        apply Classical.byContradiction
        intro h
        rw [if_neg h] at AE
        exact h0 AE
      rw [if_pos hc] at AE
      subst AE
      clear h0
      by_cases h1 : a < 0
      · have i1 : decide (a < 0) = true := decide_eq_true h1
        clear hc
        go_enter Tryz.func18, Tryz.ntmps18
        go_wp2_with fail
        rw [W0.out]
        go_wp2_with fail
        refine (ER.out _ (Below.refl _ _)).mono ?_
        rintro e w1 ⟨rfl, hb1⟩
        have H1 := hid (B0.out.trans (hb1.mono hsz0))
        clear hb1 c0 c1 c2
        go_wp2_with fail
        go_ret2
        exact ⟨_, rfl, World.ownsRow_nil _ _ _ _, H1.out⟩
      · have h2 : (ats.length : Int) ≤ a := hc.resolve_left h1
        have i1 : decide (a < 0) = false := decide_eq_false h1
        have i2 : decide ((ats.length : Int) ≤ a) = true := decide_eq_true h2
        clear hc
        go_enter Tryz.func18, Tryz.ntmps18
        go_wp2_with fail
        rw [W0.out]
        go_wp2_with fail
        refine (ER.out _ (Below.refl _ _)).mono ?_
        rintro e w1 ⟨rfl, hb1⟩
        have H1 := hid (B0.out.trans (hb1.mono hsz0))
        have D1 := hid hb1
        clear hb1 c0 c1 c2
        obtain ⟨c0, c1, c2⟩ := C3.out _ D1.out
        go_wp2_with fail
        go_ret2
        exact ⟨_, rfl, World.ownsRow_nil _ _ _ _, H1.out⟩
    · rw [if_pos hf] at AE
      subst AE
      have hne : (ke == 0) = false := beq_eq_false_iff_ne.2 hf
      have H0 := hid hf
      clear hf h0
      go_enter Tryz.func18, Tryz.ntmps18
      go_wp2_with fail
      rw [W0.out]
      go_wp2_with fail
      refine (ER.out _ (Below.refl _ _)).mono ?_
      rintro e w1 ⟨rfl, hb1⟩
      have H1 := hid (B0.out.trans (hb1.mono hsz0))
      clear hb1 c0 c1 c2
      go_wp2_with fail
      go_ret2
      exact ⟨_, rfl, World.ownsRow_nil _ _ _ _, H1.out⟩

end Go.Proofs.YthoidncbbcpnnaaGreatDoor


/- The walks of drossref28.before and Sorted. -/
namespace Go.Proofs.YthoidncbbcpnnaaGreatDoor
open Go.RowKit
set_option linter.unusedVariables false

set_option maxHeartbeats 1600000 in
set_option maxRecDepth 100000 in
theorem rbefore_any (x y : F) (w : World) :
    Calls Tryz.prog 65 #[.agg #[.int .u32 (iv x.1), .int .u32 (iv x.2)], .agg #[.int .u32 (iv y.1), .int .u32 (iv y.2)]] w fun e w' => e = .returned (.bool (decide (befF x y))) ∧ Below w.heap.size w w' := by
  obtain ⟨a, b⟩ := x
  obtain ⟨c, d⟩ := y
  have hb00 := below_alloc w (.cells #[.int .u32 (iv a), .int .u32 (iv b)] 56)
  have hb01 := below_alloc (w.alloc (.cells #[.int .u32 (iv a), .int .u32 (iv b)] 56)) (.cells #[.int .u32 (iv c), .int .u32 (iv d)] 56)
  have hb0 := hb00.trans (hb01.mono hb00.size)
  have F1 := hid (fun W (h : Below ((w.alloc (.cells #[.int .u32 (iv a), .int .u32 (iv b)] 56)).alloc (.cells #[.int .u32 (iv c), .int .u32 (iv d)] 56)).heap.size ((w.alloc (.cells #[.int .u32 (iv a), .int .u32 (iv b)] 56)).alloc (.cells #[.int .u32 (iv c), .int .u32 (iv d)] 56)) W) => cells2 (w := w) (a := .int .u32 (iv a)) (b := .int .u32 (iv b)) (t := 56) W (hb01.trans (h.mono hb01.size)))
  have F2 := hid (fun W h => cells2 (w := w.alloc (.cells #[.int .u32 (iv a), .int .u32 (iv b)] 56)) (a := .int .u32 (iv c)) (b := .int .u32 (iv d)) (t := 56) W h)
  rw [show (w.alloc (.cells #[.int .u32 (iv a), .int .u32 (iv b)] 56)).heap.size = w.heap.size + 1 by simp] at F2
  obtain ⟨w0, hw0⟩ : ∃ w0 : World, (w.alloc (.cells #[.int .u32 (iv a), .int .u32 (iv b)] 56)).alloc (.cells #[.int .u32 (iv c), .int .u32 (iv d)] 56) = w0 := ⟨_, rfl⟩
  rw [hw0] at hb0 F1 F2
  have B0 := hid hb0
  have W0 := hid hw0
  have hsz0 := hb0.size
  obtain ⟨p0, p1⟩ := F1.out _ (Below.refl _ _)
  obtain ⟨q0, q1⟩ := F2.out _ (Below.refl _ _)
  have RB := hid (fun (W : World) => before_any a c W)
  clear hb0 hw0 hb00 hb01
  by_cases h : a = c
  · subst h
    have BQ := hid (show decide (iv b < iv d) = decide (befF (a, b) (a, d)) by
      unfold befF
      simp only [true_and, Bool.decide_or]
      rw [decide_eq_false (bef_irrefl a), Bool.false_or])
    generalize decide (befF (a, b) (a, d)) = R at *
    generalize iv a = ia at *
    generalize iv b = ib at *
    generalize iv d = id' at *
    go_enter Tryz.func65, Tryz.ntmps65
    go_wp2_with fail
    rw [W0.out]
    go_wp2_with fail
    go_ret
    exact ⟨ret_bool BQ.out, B0.out⟩
  · have BQ := hid (show decide (bef a c) = decide (befF (a, b) (c, d)) by
      unfold befF
      simp only [h, false_and, or_false])
    have hne : (iv a == iv c) = false := beq_eq_false_iff_ne.2 fun e => h (iv_inj e)
    unfold enc at RB
    rw [BQ.out] at RB
    generalize decide (befF (a, b) (c, d)) = R at *
    generalize iv a = ia at *
    generalize iv c = ic at *
    clear BQ h
    go_enter Tryz.func65, Tryz.ntmps65
    go_wp2_with fail
    rw [W0.out]
    go_wp2_with fail
    refine (RB.out _).mono ?_
    rintro e w1 ⟨rfl, hb1⟩
    have B1 := hid (B0.out.trans (hb1.mono hsz0))
    clear hb1 p0 p1 q0 q1
    go_wp2_with fail
    go_ret
    exact ⟨by first | rfl | exact ret_bool rfl, B1.out⟩

theorem swapF (a b : List F) (x y : F) : ((a ++ y :: x :: b).set (a.length + 1) y).set a.length x = a ++ x :: y :: b := by simp
theorem snoc_casesF (a : List F) : a = [] ∨ ∃ a' y, a = a' ++ [y] := by
  rcases List.eq_nil_or_concat a with h | ⟨a', y, h⟩
  · exact .inl h
  · exact .inr ⟨a', y, by rw [h]; simp⟩

set_option maxHeartbeats 3200000 in
set_option maxRecDepth 100000 in
theorem rsorted_any (fs : List F) (v : Value) (w : World) (hv : RdF w v fs) (hl : fs.length ≤ 1000000) :
    Calls Tryz.prog 34 #[v] w fun e w' => ∃ v' ys, e = .returned v' ∧ w'.ownsRow w.heap.size 56 2 v' ys.length (ys.flatMap cF) ∧ ys.Perm fs ∧ SrtF ys ∧ Below w.heap.size w w' := by
  obtain ⟨i0, hi, hz0, hz1, hz2⟩ := info_parts infoFD
  have hown := World.ownsRow_lit (size := 2) (e := 56) w #[] 0 (Nat.le_refl _) (Nat.zero_le _) rfl
  have HB := hid (below_alloc w (.cells #[] 56))
  by_cases hn : fs = []
  · subst hn
    obtain ⟨ao, cap, rfl, h1, h2, h3⟩ := hv
    clear h3
    have K : Calls Tryz.prog 34 #[.slice ao ([] : List F).length cap] w fun e w' => ∃ v', e = .returned v' ∧ w'.ownsRow w.heap.size 56 2 v' 0 [] ∧ Below w.heap.size w w' := by
      go_enter Tryz.func34, Tryz.ntmps34
      cases ao with
      | none =>
        go_wp2_with (at_builtin; refine wpList_append_own_none rfl _ _ 28 rfl w.heap.size 56 i0 2 undFDs hi hz1 _ _ _ rfl hown rfl ?_)
        go_wp2_with fail
        go_loopw [4] (fun i wr => i = .int .i64 1 ∧ wr.ownsRow w.heap.size 56 2 (.slice (some ⟨w.heap.size, 0, none⟩) 0 0) 0 [] ∧ Below w.heap.size w wr) (fun _ _ => 0)
        case atStart => exact ⟨rfl, hown, HB.out⟩
        case round =>
          obtain ⟨rfl, ho, hb⟩ := hrel
          go_wp2_with fail
          go_ret
          exact ⟨_, rfl, ho, hb⟩
      | some a =>
        go_wp2_with (at_builtin; refine wpList_append_own _ rfl _ _ 28 rfl w.heap.size 56 i0 (.agg #[.int .u32 0, .int .u32 0]) 2 8 undFDs hi hz0 hz1 hz2 rfl (by decide) _ _ _ rfl hown a 0 cap [] rfl rfl (by intro j u hu; simp at hu) (by intro u hu; cases hu) (by unfold maxLen; omega) (by omega) (by simp) ?_)
        intro v' w1 h1' hg _
        have B : Below w.heap.size w w1 := ((Below.refl _ w).alloc (Nat.le_refl _) _).grown hg (by simp) (fun k hk => by simp [Value.ownBlock] at hk; omega)
        have BB := hid B
        have H := hid (show w1.ownsRow w.heap.size 56 2 v' 0 [] by simpa using h1')
        obtain ⟨ao', cp', rfl⟩ : ∃ ao' cp', v' = .slice ao' 0 cp' := by
          rcases H.out.2 with ⟨h, _⟩ | ⟨g, cp, cur, h, _⟩
          · exact ⟨none, 0, h⟩
          · exact ⟨some ⟨g, 0, none⟩, cp, h⟩
        clear h1' B hg
        go_wp2_with fail
        go_loopw [4] (fun i wr => i = .int .i64 1 ∧ wr.ownsRow w.heap.size 56 2 (.slice ao' 0 cp') 0 [] ∧ Below w.heap.size w wr) (fun _ _ => 0)
        case atStart => exact ⟨rfl, H.out, BB.out⟩
        case round =>
          obtain ⟨rfl, ho, hb⟩ := hrel
          go_wp2_with fail
          go_ret
          exact ⟨_, rfl, ho, hb⟩
    refine K.mono ?_
    rintro e w' ⟨v', rfl, ho, hb⟩
    exact ⟨v', [], rfl, by simpa using ho, List.Perm.refl _, List.Pairwise.nil, hb⟩
  · obtain ⟨ao, cap, rfl, h1, h2, h3⟩ := hv
    have hn0 : 0 < fs.length := List.length_pos_iff.2 hn
    have hlen := flat_length cF_length fs
    obtain ⟨b, off, rfl, hbl, hc⟩ := h3 (by omega)
    have hcells : ∀ (j : Nat) (u : Value), (fs.flatMap cF)[j]? = some u → w.cell? ((⟨b, off, none⟩ : Addr).add j) = some u := by
      intro j u hu
      rw [Addr.add_lit]
      exact hc j u hu
    have hcells2 : ∀ (j : Nat) (u : Value), (fs.flatMap cF)[j]? = some u → (w.alloc (.cells #[] 56)).cell? ((⟨b, off, none⟩ : Addr).add j) = some u := fun j u hu => World.cell?_alloc_lt _ _ _ (World.block_lt_of_cell? _ _ (hcells j u hu)) |>.trans (hcells j u hu)
    have HC := hid hcells2
    have s1 : ∀ u ∈ fs.flatMap cF, u.oneCell' = true := by
      intro u hu
      obtain ⟨x, _, hx⟩ := List.mem_flatMap.1 hu
      exact cF_one x u hx
    have S1 := hid s1
    have HL := hid hlen
    have N0 := hid hn0
    clear s1 hlen hcells hcells2 h3 hc hn
    go_enter Tryz.func34, Tryz.ntmps34
    go_wp2_with (at_builtin; refine wpList_append_own _ rfl _ _ 28 rfl w.heap.size 56 i0 (.agg #[.int .u32 0, .int .u32 0]) 2 8 undFDs hi hz0 hz1 hz2 rfl (by decide) _ _ _ rfl hown ⟨b, off, none⟩ fs.length cap (fs.flatMap cF) rfl HL.out HC.out S1.out (by unfold maxLen; omega) (by omega) (by simp) ?_)
    intro v' w1 h1' hg _
    have B : Below w.heap.size w w1 := ((Below.refl _ w).alloc (Nat.le_refl _) _).grown hg (by simp) (fun k hk => by simp [Value.ownBlock] at hk; omega)
    have BB := hid B
    have ho : w1.ownsRow w.heap.size 56 2 v' fs.length (fs.flatMap cF) := by simpa using h1'
    obtain ⟨g, cp, rfl⟩ : ∃ g cp, v' = .slice (some ⟨g, 0, none⟩) fs.length cp := by
      rcases ho.2 with ⟨h, h0⟩ | ⟨g, cp, cur, h, _⟩
      · omega
      · exact ⟨g, cp, h⟩
    have H := hid ho
    obtain ⟨nn, hnn⟩ : ∃ nn, fs.length = nn := ⟨_, rfl⟩
    have NN := hid hnn
    rw [hnn] at H hl N0 ⊢
    clear h1' B hg ho hnn
    have BF := hid (fun (x y : F) (w : World) => rbefore_any x y w)
    go_wp2_with fail
    go_loopw [4] (fun i wr => ∃ (k : Nat) (ys : List F), 1 ≤ k ∧ k ≤ nn ∧ i = .int .i64 k ∧ Hid (ys.Perm (fs.take k)) ∧ Hid (SrtF ys) ∧ wr.ownsRow w.heap.size 56 2 (.slice (some ⟨g, 0, none⟩) nn cp) nn ((ys ++ fs.drop k).flatMap cF) ∧ Below w.heap.size w wr) (fun i _ => nn - (intOf i).toNat)
    case atStart =>
      refine ⟨1, fs.take 1, Nat.le_refl _, N0.out, rfl, hid (List.Perm.refl _), hid ?_, ?_, BB.out⟩
      · have := NN.out
        have := N0.out
        obtain ⟨x, l, rfl⟩ : ∃ x l, fs = x :: l := by
          cases fs with
          | nil => simp at *
          | cons x l => exact ⟨x, l, rfl⟩
        exact List.pairwise_singleton _ _
      · rw [List.take_append_drop]; exact H.out
    case round =>
      obtain ⟨k, ys, hk1, hk, rfl, HP, HS, hown, hnx⟩ := hrel
      have hsz := hnx.size
      have k0 : (0 : Int) ≤ (k : Int) := by omega
      have k9 : (k : Int) ≤ 1000000 := by omega
      by_cases hlt : k < nn
      · have hlf : k < fs.length := by have := NN.out; omega
        obtain ⟨x, hx⟩ := get_some hlf
        have X := hid hx
        have DR := hid (drop_at hx)
        rw [DR.out] at hown
        obtain ⟨tl, htl⟩ : ∃ tl, fs.drop (k + 1) = tl := ⟨_, rfl⟩
        rw [htl] at hown
        have TL := hid htl
        have YL := hid (show ys.length = k by rw [HP.out.length_eq, List.length_take]; omega)
        have HO := hid hown
        have HNX := hid hnx
        have HLT := hid hlt
        have K1 := hid hk1
        clear hown hnx hx htl hlf hk1
        obtain ⟨wo, rfl⟩ : ∃ wo : World, wo = wr := ⟨_, rfl⟩
        go_wp2_with fail
        go_loopw [5] (fun j w5 => ∃ (a b : List F), Hid (a ++ b = ys) ∧ j = .int .i64 (a.length : Nat) ∧ w5.ownsRow w.heap.size 56 2 (.slice (some ⟨g, 0, none⟩) nn cp) nn ((a ++ x :: (b ++ tl)).flatMap cF) ∧ Hid (∀ y ∈ b, befF x y) ∧ Below w.heap.size w w5) (fun j _ => (intOf j).toNat)
        case atStart => exact ⟨ys, [], hid (by simp), by rw [YL.out], by simpa using HO.out, hid (by simp), HNX.out⟩
        case round =>
          obtain ⟨a, b2, AB, rfl, hown5, HB2, hnx5⟩ := hrel
          rcases snoc_casesF a with rfl | ⟨a', y, rfl⟩
          · have O5 := hid hown5
            have N5 := hid hnx5
            clear hown5 hnx5
            simp only [List.length_nil]
            go_wp2_with fail
            go_quiet (fail)
            go_wp2_with fail
            go_roundw
            case rel =>
              have ab : b2 = ys := by simpa using AB.out
              subst ab
              refine ⟨k + 1, x :: b2, by omega, by have := HLT.out; omega, by go_num, hid ?_, hid ?_, ?_, N5.out.trans (below_drewN _ _ _)⟩
              · rw [take_next X.out]
                exact (HP.out.cons x).trans (List.perm_append_comm (l₁ := [x]))
              · exact srt_ins (a := []) HS.out HB2.out (by simp)
              · rw [TL.out]
                have := O5.out
                simpa using own_below this (below_drewN _ _ _)
            case measure => have := HLT.out; simp [intOf]; omega
          · have hlen : (a' ++ [y]).length = a'.length + 1 := by simp
            rw [hlen]
            have hak : a'.length + 1 ≤ k := by
              have h1 := congrArg List.length AB.out
              have h2 := YL.out
              simp at h1; omega
            have hlt2 : a'.length + 1 < nn := by have := HLT.out; omega
            have R5 : (a' ++ [y]) ++ x :: (b2 ++ tl) = a' ++ y :: x :: (b2 ++ tl) := by simp
            rw [R5] at hown5
            have gy : (a' ++ y :: x :: (b2 ++ tl))[a'.length]? = some y := by simp
            have gx : (a' ++ y :: x :: (b2 ++ tl))[a'.length + 1]? = some x := by
              rw [List.getElem?_append_right (by omega)]; simp
            have hy0 : wr.cell? ⟨g, a'.length * 2, none⟩ = some (.int .u32 (iv y.1)) := by
              rw [hown5.cellAt _ (by omega)]
              exact flat_at cF_length _ a'.length y 0 _ gy rfl
            have hy1 : wr.cell? ⟨g, a'.length * 2 + 1, none⟩ = some (.int .u32 (iv y.2)) := by
              rw [hown5.cellAt _ (by omega)]
              exact flat_at cF_length _ a'.length y 1 _ gy rfl
            have hx0 : wr.cell? ⟨g, (a'.length + 1) * 2, none⟩ = some (.int .u32 (iv x.1)) := by
              rw [hown5.cellAt _ (by omega)]
              exact flat_at cF_length _ (a'.length + 1) x 0 _ gx rfl
            have hx1 : wr.cell? ⟨g, (a'.length + 1) * 2 + 1, none⟩ = some (.int .u32 (iv x.2)) := by
              rw [hown5.cellAt _ (by omega)]
              exact flat_at cF_length _ (a'.length + 1) x 1 _ gx rfl
            have n2 : (a'.length : Int) < (nn : Int) := by omega
            have n3 : (0 : Int) ≤ (a'.length : Int) + 1 := by omega
            have n4 : (a'.length : Int) + 1 < (nn : Int) := by omega
            have n6 : ((a'.length : Int) + 1).toNat = a'.length + 1 := by omega
            have n7 : IntKind.i64.wrap ((a'.length : Int) + 1 - 1) = (a'.length : Int) := by rw [Int.add_sub_cancel]; exact IntWalk.i64_in _ (by omega)
            have n8 : IntKind.i64.wrap (a'.length : Int) = (a'.length : Int) := IntWalk.i64_in _ (by omega)
            have n9 : (0 : Int) < (a'.length : Int) + 1 := by omega
            have HAK := hid hak
            have HL2 := hid hlt2
            clear gy gx R5 hak hlt2
            cases hq : decide (befF x y) with
            | false =>
              have HQ := hid hq
              clear hq
              go_wp2_with fail
              go_still_tail 12, (by kernel_rfl)
              go_wp2_with fail
              refine (BF.out x y _).mono ?_
              rw [HQ.out]
              rintro e w6 ⟨rfl, hb6⟩
              have hb6' : Below wr.heap.size wr w6 := (Below.refl _ wr).drew.trans hb6
              have hown6 := own_below hown5 hb6'
              have B6 := hid (hnx5.trans (hb6'.mono hnx5.size))
              have O6 := hid hown6
              clear hb6 hb6' hown6 hown5 hnx5 hx0 hx1 hy0 hy1
              go_wp2_with fail
              go_roundw
              case rel =>
                refine ⟨k + 1, (a' ++ [y]) ++ x :: b2, by omega, by have := HLT.out; omega, by go_num, hid ?_, hid ?_, ?_, B6.out⟩
                · rw [take_next X.out]
                  have h1 : ((a' ++ [y]) ++ x :: b2).Perm (x :: ((a' ++ [y]) ++ b2)) := List.perm_middle
                  rw [AB.out] at h1
                  exact h1.trans ((HP.out.cons x).trans (List.perm_append_comm (l₁ := [x])))
                · have h1 := HS.out
                  rw [← AB.out] at h1
                  refine srt_ins h1 HB2.out (srt_last (List.Pairwise.sublist (List.sublist_append_left _ _) h1) ?_)
                  simpa using HQ.out
                · rw [TL.out]
                  have := O6.out
                  simpa using this
              case measure => have := HLT.out; simp [intOf]; omega
            | true =>
              have HQ := hid hq
              clear hq
              go_wp2_with fail
              go_still_tail 12, (by kernel_rfl)
              go_wp2_with fail
              refine (BF.out x y _).mono ?_
              rw [HQ.out]
              rintro e w6 ⟨rfl, hb6⟩
              have hb6' : Below wr.heap.size wr w6 := (Below.refl _ wr).drew.trans hb6
              have hown6 := own_below hown5 hb6'
              have B6 := hid (hnx5.trans (hb6'.mono hnx5.size))
              have hx0 := (hb6'.cell (p := ⟨g, (a'.length + 1) * 2, none⟩) (World.block_lt_of_cell? _ _ hx0)).trans hx0
              have hx1 := (hb6'.cell (p := ⟨g, (a'.length + 1) * 2 + 1, none⟩) (World.block_lt_of_cell? _ _ hx1)).trans hx1
              have hy0 := (hb6'.cell (p := ⟨g, a'.length * 2, none⟩) (World.block_lt_of_cell? _ _ hy0)).trans hy0
              have hy1 := (hb6'.cell (p := ⟨g, a'.length * 2 + 1, none⟩) (World.block_lt_of_cell? _ _ hy1)).trans hy1
              clear hb6 hb6' hown5 hnx5
              have z0 : w6.frozen? ⟨g, a'.length * 2, none⟩ = false := hown6.frozenAt _
              have z1 : w6.frozen? ⟨g, a'.length * 2 + 1, none⟩ = false := hown6.frozenAt _
              have z2 : w6.frozen? ⟨g, (a'.length + 1) * 2, none⟩ = false := hown6.frozenAt _
              have z3 : w6.frozen? ⟨g, (a'.length + 1) * 2 + 1, none⟩ = false := hown6.frozenAt _
              have HGL := hid (show w.heap.size ≤ g from (hown6.lt g rfl).1)
              have O6 := hid hown6
              clear hown6
              go_wp2_with fail
              go_region
              obtain ⟨wf, hwf⟩ : ∃ wf : World, (((w6.setCell ⟨g, (a'.length + 1) * 2, none⟩ (.int .u32 (iv y.1))).setCell ⟨g, (a'.length + 1) * 2 + 1, none⟩ (.int .u32 (iv y.2))).setCell ⟨g, a'.length * 2, none⟩ (.int .u32 (iv x.1))).setCell ⟨g, a'.length * 2 + 1, none⟩ (.int .u32 (iv x.2)) = wf := ⟨_, rfl⟩
              have ST := (((O6.out.stored ((a'.length + 1) * 2) (.int .u32 (iv y.1))).1.stored ((a'.length + 1) * 2 + 1) (.int .u32 (iv y.2))).1.stored (a'.length * 2) (.int .u32 (iv x.1))).1.stored (a'.length * 2 + 1) (.int .u32 (iv x.2))
              have OW : wf.ownsRow w.heap.size 56 2 (.slice (some ⟨g, 0, none⟩) nn cp) nn ((a' ++ x :: y :: (b2 ++ tl)).flatMap cF) := by
                have h1 := ST.1
                rw [hwf] at h1
                rw [flat_set2 cF_length (a' ++ y :: x :: (b2 ++ tl)) (a'.length + 1) y (.int .u32 (iv y.1)) (.int .u32 (iv y.2)) (by simp) rfl, flat_set2 cF_length ((a' ++ y :: x :: (b2 ++ tl)).set (a'.length + 1) y) a'.length x (.int .u32 (iv x.1)) (.int .u32 (iv x.2)) (by simp) rfl, swapF] at h1
                exact h1
              have BW : Below w.heap.size w wf := by
                rw [← hwf]
                exact (((B6.out.setCell (p := ⟨g, (a'.length + 1) * 2, none⟩) HGL.out _).setCell (p := ⟨g, (a'.length + 1) * 2 + 1, none⟩) HGL.out _).setCell (p := ⟨g, a'.length * 2, none⟩) HGL.out _).setCell (p := ⟨g, a'.length * 2 + 1, none⟩) HGL.out _
              have OW1 := hid OW
              have BW1 := hid BW
              rw [hwf]
              clear ST OW BW hx0 hx1 hy0 hy1 z0 z1 z2 z3 hwf
              go_wp2_with fail
              go_roundw
              case rel =>
                refine ⟨a', y :: b2, hid (by have := AB.out; simpa using this), by go_num, OW1.out.drew, hid ?_, BW1.out.drew⟩
                intro z hz
                rw [List.mem_cons] at hz
                rcases hz with rfl | hz
                · simpa using HQ.out
                · exact HB2.out z hz
              case measure => simp [intOf]; try omega
      · have hke : nn ≤ k := by omega
        have KF : fs.length ≤ k := by have := NN.out; omega
        have HPE := hid (show ys.Perm fs by have h := HP.out; rwa [List.take_of_length_le KF] at h)
        have HOE := hid (show wr.ownsRow w.heap.size 56 2 (.slice (some ⟨g, 0, none⟩) nn cp) ys.length (ys.flatMap cF) by
          have h := hown
          rw [List.drop_eq_nil_of_le KF, List.append_nil] at h
          rw [HPE.out.length_eq, NN.out]; exact h)
        have HNX := hid hnx
        clear hown hnx KF hke
        go_wp2_with fail
        go_ret
        exact ⟨_, ys, rfl, HOE.out, HPE.out, HS.out, HNX.out⟩

end Go.Proofs.YthoidncbbcpnnaaGreatDoor


/- The walks of drossref28.All and Bounded. -/
namespace Go.Proofs.YthoidncbbcpnnaaGreatDoor
open Go.RowKit
set_option linter.unusedVariables false

theorem forL_len {m a : Nat} {rs : List Row3} (hm : m ≤ 16) (ha : a < 32) : (forL m rs a).length ≤ 65536 := by
  have h := forK_bound (K := m) (rs := rs) hm ha
  rwa [forK_all hm ha (Nat.le_refl _)] at h
theorem rawL_len {m : Nat} {rs : List Row3} (hm : m ≤ 16) : ∀ k, k ≤ 16 → (rawL m rs k).length ≤ k * 65536 := by
  intro k
  induction k with
  | zero => intro _; unfold rawL; simp
  | succ k ih =>
    intro hk
    rw [rawL_next, List.length_append, List.length_map]
    have h1 := ih (by omega)
    have h2 := forL_len (rs := rs) hm (show k < 32 by omega)
    omega

set_option maxHeartbeats 3200000 in
set_option maxRecDepth 100000 in
theorem rall_any (t : T3) (av rv : Value) (w : World) (ht : RdT w av rv t) :
    Calls Tryz.prog 13 #[.agg #[.string t.1, av, rv]] w fun e w' => ∃ v', e = .returned (.tuple #[v', .int .i64 (fE t)]) ∧ RdF w' v' (allR t) ∧ Below w.heap.size w w' := by
  have hb0 := below_alloc w (.cells #[.string t.1, av, rv] 25)
  have C3 := hid (fun W h => cells3 (w := w) (a := .string t.1) (b := av) (c := rv) (t := 25) W h)
  have T0 := hid (ht.below hb0)
  obtain ⟨w0, hw0⟩ : ∃ w0 : World, w.alloc (.cells #[.string t.1, av, rv] 25) = w0 := ⟨_, rfl⟩
  rw [hw0] at hb0 C3 T0
  have B0 := hid hb0
  have W0 := hid hw0
  have hsz0 := hb0.size
  clear hb0 hw0
  have ER := hid (fun (W : World) (h : Below w0.heap.size w0 W) => rerr28_any t av rv W (T0.out.below h))
  obtain ⟨c0, c1, c2⟩ := C3.out _ (Below.refl _ _)
  by_cases h0 : fE t = 0
  · have hk := fE_tab h0
    have h10 := (fE_ok h0).2.1
    have FA : ∀ a : Nat, a < t.2.1.length → faE t (a : Int) = 0 ∧ forR t (a : Int) = forL t.2.1.length t.2.2 a := by
      intro a ha
      have h1 : faE t (a : Int) = 0 := by unfold faE; rw [if_neg (by simpa using h0), if_neg (by omega)]
      refine ⟨h1, ?_⟩
      unfold forR
      rw [if_pos h1, Int.toNat_natCast]
    have RF := hid (fun (a : Nat) (ha : a < t.2.1.length) (W : World) (h : Below w0.heap.size w0 W) => by
      have h1 := rFor_any t av rv (a : Int) W (T0.out.below h)
      rw [(FA a ha).1, (FA a ha).2] at h1
      exact h1)
    have SO := hid (fun (u : Value) (W : World) (hu : RdF W u (rawL t.2.1.length t.2.2 t.2.1.length)) => rsorted_any _ u W hu (by have := rawL_len (rs := t.2.2) (m := t.2.1.length) (by omega) t.2.1.length (by omega); omega))
    have RS := hid (fun (ys : List F) (hp : ys.Perm (rawL t.2.1.length t.2.2 t.2.1.length)) (hs : SrtF ys) => raw_sorted (by omega) hp hs)
    have AR : allR t = bndL t.2.1.length t.2.2 16 := by unfold allR; rw [if_pos h0]
    rw [AR, h0]
    rw [h0] at ER
    have RZ := hid (show rawL t.2.1.length t.2.2 0 = [] by unfold rawL; rfl)
    have RN := hid (fun k => rawL_next t.2.1.length t.2.2 k)
    have RL := hid (fun k (hk : k ≤ 16) => rawL_len (rs := t.2.2) (m := t.2.1.length) (by omega) k hk)
    have FL := hid (fun a (ha : a < 32) => forL_len (rs := t.2.2) (m := t.2.1.length) (by omega) ha)
    clear FA AR hk h0
    obtain ⟨nm, ats, rs⟩ := t
    obtain ⟨ao, acap, hva, -⟩ := T0.out.1.split
    simp only at hva ER RF SO RS RZ RN RL FL h10
    subst hva
    show Calls _ _ _ _ fun e w' => ∃ v', e = .returned (.tuple #[v', .int .i64 0]) ∧ RdF w' v' (bndL ats.length rs 16) ∧ Below w.heap.size w w'
    obtain ⟨BN, hBN⟩ : ∃ BN, bndL ats.length rs 16 = BN := ⟨_, rfl⟩
    rw [hBN] at RS ⊢
    obtain ⟨FO, hFO⟩ : ∃ FO : Nat → List S, forL ats.length rs = FO := ⟨_, rfl⟩
    rw [hFO] at RF RN FL
    obtain ⟨RA, hRA⟩ : ∃ RA : Nat → List F, rawL ats.length rs = RA := ⟨_, rfl⟩
    rw [hRA] at SO RS RZ RN RL
    have M10 := hid h10
    clear ht hBN hFO hRA
    go_enter Tryz.func13, Tryz.ntmps13
    go_wp2_with fail
    rw [W0.out]
    go_wp2_with fail
    refine (ER.out _ (Below.refl _ _)).mono ?_
    rintro e w1 ⟨rfl, hb1⟩
    have D1 := hid hb1
    clear hb1 c0 c1 c2
    go_wp2_with fail
    go_loopw [5, 6] (fun o i wr => ∃ k : Nat, k ≤ ats.length ∧ i = .int .i64 k ∧ wr.ownsRow w0.heap.size 56 2 o (RA k).length ((RA k).flatMap cF) ∧ Below w0.heap.size w0 wr) (fun _ i _ => ats.length - (intOf i).toNat)
    case atStart => exact ⟨0, Nat.zero_le _, rfl, by rw [RZ.out]; exact World.ownsRow_nil _ _ _ _, D1.out⟩
    case round =>
      obtain ⟨k, hk, rfl, hown, hnx⟩ := hrel
      have hsz := hnx.size
      have k0 : (0 : Int) ≤ (k : Int) := by omega
      have k9 : (k : Int) ≤ 10 := by omega
      obtain ⟨c0, c1, c2⟩ := C3.out _ hnx
      by_cases hlt : k < ats.length
      · have CF := hid (RF.out k hlt wr hnx)
        have FLK := hid (FL.out k (by omega))
        have RNK := hid (RN.out k)
        have RLK := hid (RL.out k (by omega))
        generalize FO k = ss at *
        generalize RA k = out at *
        have HO := hid hown
        have HX := hid hnx
        have HLT := hid hlt
        have K10 := hid (show k < 10 by omega)
        clear hown hnx
        obtain ⟨wo, rfl⟩ : ∃ wo : World, wo = wr := ⟨_, rfl⟩
        go_wp2_with fail
        refine CF.out.mono ?_
        rintro e w2 ⟨v2, rfl, ho2, hb2⟩
        have hb2' := HX.out.trans (hb2.mono hsz)
        have hmo := own_below HO.out hb2
        have hne : ∀ g, u5.ownBlock = some g → g < wo.heap.size := fun g hg => (HO.out.lt g hg).2
        have hrl := RdE.of_owns ho2 (by have := FLK.out; omega)
        obtain ⟨mo, mcap, rfl, -, hmc⟩ := hrl.split
        have HMO := hid (fun (j : Nat) (s : S) (hs : ss[j]? = some s) => show ∃ b off, mo = some ⟨b, off, none⟩ by
          obtain ⟨b, off, e, -⟩ := hmc j s hs
          exact ⟨b, off, e⟩)
        have HMC := hid (fun (W : World) (x : Value) (j : Nat) (s : S) (hs : ss[j]? = some s) (b off : Nat) (e : mo = some ⟨b, off, none⟩) (h : Grow1 w2 u5 W x) => show W.cell? ⟨b, off + j, none⟩ = some (.int .u32 (iv s)) by
          obtain ⟨b', off', e', hd⟩ := hmc j s hs
          rw [e] at e'
          cases e'
          subst e
          have h1 := ho2.lt b rfl
          have h2 := hd w2 (Below.refl _ _)
          rw [h.cell ⟨b, off + j, none⟩ h1.2 (fun e => by have := hne b e.symm; omega)]
          exact h2)
        have OM := hid hmo
        have HB2 := hid hb2'
        clear hmo hb2 hb2' ho2 hrl hmc hne c0 c1 c2
        have hs2 := HB2.out.size
        go_wp2_with fail
        go_loopw [5, 9] (fun o i wr => ∃ j : Nat, j ≤ ss.length ∧ i = .int .i64 j ∧ wr.ownsRow w0.heap.size 56 2 o (out ++ (ss.take j).map fun s => (s, bit k)).length ((out ++ (ss.take j).map fun s => (s, bit k)).flatMap cF) ∧ Grow1 w2 u5 wr o) (fun _ i _ => ss.length - (intOf i).toNat)
        case atStart => exact ⟨0, Nat.zero_le _, rfl, by simpa using OM.out, Grow1.refl _ _⟩
        case round =>
          obtain ⟨j, hj, rfl, hown, hG⟩ := hrel
          have hsr := hG.size
          have j0 : (0 : Int) ≤ (j : Int) := by omega
          have j9 : (j : Int) ≤ 65536 := by have := FLK.out; omega
          have hll : (out ++ (ss.take j).map fun s => (s, bit k)).length ≤ 2000000 := by
            have h1 := RLK.out
            have h2 := K10.out
            simp; omega
          by_cases hjl : j < ss.length
          · obtain ⟨s, hs⟩ := get_some hjl
            obtain ⟨g, goff, rfl⟩ := HMO.out j s hs
            have HCS := hid (fun (W : World) (x : Value) => HMC.out W x j s hs g goff rfl)
            have hcs := HCS.out _ _ hG
            have T := hid (show out ++ ((ss.take (j + 1)).map fun s => (s, bit k)) = (out ++ (ss.take j).map fun s => (s, bit k)) ++ [(s, bit k)] by rw [take_next hs, List.map_append, List.append_assoc]; rfl)
            have HLL := hid hll
            have k10 : (k : Int) < 32 := by omega
            have HJL := hid hjl
            clear hs hll
            generalize out ++ (ss.take j).map (fun s => (s, bit k)) = ys at *
            go_wp2_with fail
            go_region_held3 (fun W => W.cell? ⟨g, goff + j, none⟩ = some (.int .u32 (iv s)))
              (first | exact HCS.out _ _ hG.drew | exact HCS.out _ _ (hG.alloc _).drew | exact HCS.out _ _ (by assumption))
              ((refine step_pushCo (by rfl) _ _ 28 (by rfl) w0.heap.size 56 (.agg #[.int .u32 0, .int .u32 0]) 2 8 undFDs infoFD rfl (by decide) (by decide) cF cF_length cF_one _ ys (by rfl) ((hown.alloc _).drew) ⟨wr.heap.size, 0, none⟩ (s, bit k) (by rfl) (cells_newFd _ (s, bit k)) (by have := HLL.out; omega) (by simp; omega) ?_; intro v' w3 hown' hgrow hob; have hG3 := (hG.alloc _).drew.push hgrow hob))
            have O3 := hid hown'
            have G3 := hid hG3
            clear hgrow hown hG hob hown' hG3 hcs
            go_wp2_with fail
            go_roundw
            case rel => exact ⟨j + 1, by have := HJL.out; omega, by go_num, by rw [T.out]; simpa using O3.out, G3.out⟩
            case measure => have := HJL.out; simp [intOf]; omega
          · rw [take_all hjl, ← RNK.out] at hown
            have hbw := hG.of_below HB2.out OM.out hs2
            have OW := hid hown
            have BW := hid hbw
            clear hG hown hbw
            go_wp2_with fail
            go_roundw
            case rel => exact ⟨k + 1, by have := HLT.out; omega, by go_num, OW.out, BW.out⟩
            case measure => have := HLT.out; simp [intOf]; omega
      · obtain rfl : k = ats.length := by omega
        have R := hid (RdC.of_owns cF_length hown (by have h1 := RL.out ats.length (by omega); omega))
        have NX := hid (B0.out.trans (hnx.mono hsz0))
        clear hown hnx
        go_wp2_with fail
        refine (SO.out _ _ R.out).mono ?_
        rintro e w2 ⟨v2, ys, rfl, ho2, hp, hs, hb2⟩
        have YE := hid (RS.out ys hp hs)
        have hyl : ys.length ≤ 2000000 := by rw [hp.length_eq]; have h1 := RL.out ats.length (by have := M10.out; omega); have := M10.out; omega
        have R2 := hid (RdC.of_owns cF_length ho2 (by omega))
        rw [YE.out] at R2
        have B2 := hid (NX.out.trans (hb2.mono NX.out.size))
        clear ho2 hb2 hp hs hyl YE
        go_wp2_with fail
        go_ret2
        exact ⟨_, rfl, R2.out, B2.out⟩
  · have AR : allR t = [] := by unfold allR; rw [if_neg h0]
    rw [AR]
    obtain ⟨nm, ats, rs⟩ := t
    generalize fE (nm, ats, rs) = fe at *
    have hne : (fe == 0) = false := beq_eq_false_iff_ne.2 h0
    have H0 := hid h0
    clear ht AR h0
    go_enter Tryz.func13, Tryz.ntmps13
    go_wp2_with fail
    rw [W0.out]
    go_wp2_with fail
    refine (ER.out _ (Below.refl _ _)).mono ?_
    rintro e w1 ⟨rfl, hb1⟩
    have H1 := hid (B0.out.trans (hb1.mono hsz0))
    clear hb1 c0 c1 c2
    go_wp2_with fail
    go_ret2
    exact ⟨_, rfl, RdF.nil _, H1.out⟩

theorem allR_len (t : T3) : (allR t).length ≤ 2000000 := by
  by_cases h0 : fE t = 0
  · have h10 := (fE_ok h0).2.1
    have h1 : allR t = bndL t.2.1.length t.2.2 16 := by unfold allR; rw [if_pos h0]
    have h2 : (rawL t.2.1.length t.2.2 t.2.1.length).Nodup := rawL_nodup _ _ _ (by omega)
    have h3 : (bndL t.2.1.length t.2.2 16).Nodup := (bndG_ord (by omega)).imp fun h e => by subst e; exact befF_asymm h h
    have h4 : (allR t).Perm (rawL t.2.1.length t.2.2 t.2.1.length) := by
      rw [h1]
      refine (List.perm_ext_iff_of_nodup h3 h2).2 fun f => ?_
      rw [← h1, mem_allR h0, rawL_mem]
    rw [h4.length_eq]
    have := rawL_len (rs := t.2.2) (m := t.2.1.length) (by omega) t.2.1.length (by omega)
    omega
  · unfold allR; rw [if_neg h0]; simp
theorem bndR_filter {t : T3} {n : Nat} (h : fE t = 0) : bE t (n : Int) = 0 ∧ bndR t (n : Int) = (allR t).filter fun f => decide (pop f.1 ≤ n) := by
  have h1 : bE t (n : Int) = 0 := by unfold bE; rw [if_neg (by simpa using h), if_neg (by omega)]
  refine ⟨h1, ?_⟩
  unfold bndR allR
  rw [if_pos h1, if_pos h, Int.toNat_natCast, bnd_filter (by have := (fE_ok h).2.1; omega)]

set_option maxHeartbeats 3200000 in
set_option maxRecDepth 100000 in
theorem rbnd_any (t : T3) (av rv : Value) (most : Int) (w : World) (ht : RdT w av rv t) :
    Calls Tryz.prog 16 #[.agg #[.string t.1, av, rv], .int .i64 most] w fun e w' => ∃ v', e = .returned (.tuple #[v', .int .i64 (bE t most)]) ∧ RdF w' v' (bndR t most) ∧ Below w.heap.size w w' := by
  have hb0 := below_alloc w (.cells #[.string t.1, av, rv] 25)
  have C3 := hid (fun W h => cells3 (w := w) (a := .string t.1) (b := av) (c := rv) (t := 25) W h)
  have T0 := hid (ht.below hb0)
  obtain ⟨w0, hw0⟩ : ∃ w0 : World, w.alloc (.cells #[.string t.1, av, rv] 25) = w0 := ⟨_, rfl⟩
  rw [hw0] at hb0 C3 T0
  have B0 := hid hb0
  have W0 := hid hw0
  have hsz0 := hb0.size
  clear hb0 hw0
  have AL := hid (fun (W : World) (h : Below w0.heap.size w0 W) => rall_any t av rv W (T0.out.below h))
  obtain ⟨c0, c1, c2⟩ := C3.out _ (Below.refl _ _)
  have LEN := hid (allR_len t)
  by_cases h0 : fE t = 0
  · rw [h0] at AL
    by_cases hm : most < 0
    · have e1 : bE t most = 7 := by unfold bE; rw [if_neg (by simpa using h0), if_pos hm]
      have e2 : bndR t most = [] := by unfold bndR; rw [e1]; rfl
      rw [e1, e2]
      have i1 : decide (most < 0) = true := decide_eq_true hm
      obtain ⟨nm, ats, rs⟩ := t
      generalize allR (nm, ats, rs) = ar at *
      clear ht h0 e1 e2
      go_enter Tryz.func16, Tryz.ntmps16
      go_wp2_with fail
      rw [W0.out]
      go_wp2_with fail
      refine (AL.out _ (Below.refl _ _)).mono ?_
      rintro e w1 ⟨v1, rfl, -, hb1⟩
      have H1 := hid (B0.out.trans (hb1.mono hsz0))
      clear hb1 c0 c1 c2
      go_wp2_with fail
      go_ret2
      exact ⟨_, rfl, RdF.nil _, H1.out⟩
    · obtain ⟨n, rfl⟩ : ∃ n : Nat, most = (n : Int) := ⟨most.toNat, by omega⟩
      obtain ⟨e1, e2⟩ := bndR_filter (n := n) h0
      rw [e1, e2]
      have n0 : (0 : Int) ≤ (n : Int) := by omega
      have i1 : decide ((n : Int) < 0) = false := decide_eq_false hm
      have SZ := hid (fun (s : S) (W : World) => size_any s W)
      simp only [enc_eq] at SZ
      obtain ⟨nm, ats, rs⟩ := t
      obtain ⟨ar, har⟩ : ∃ ar, allR (nm, ats, rs) = ar := ⟨_, rfl⟩
      rw [har] at AL LEN ⊢
      obtain ⟨Q, hQ⟩ : ∃ Q : F → Bool, (fun f : F => decide (pop f.1 ≤ n)) = Q := ⟨_, rfl⟩
      have QE := hid (fun (f : F) => show decide ((pop f.1 : Int) ≤ (n : Int)) = Q f by rw [← hQ]; simp)
      rw [hQ]
      clear ht h0 e1 e2 har hm hQ
      go_enter Tryz.func16, Tryz.ntmps16
      go_wp2_with fail
      rw [W0.out]
      go_wp2_with fail
      refine (AL.out _ (Below.refl _ _)).mono ?_
      rintro e w1 ⟨v1, rfl, hr1, hb1⟩
      have D1 := hid hb1
      obtain ⟨ao, acap, rfl, -, hac⟩ := hr1.split
      have AC := hid hac
      clear hb1 c0 c1 c2 hr1 hac
      go_wp2_with fail
      go_loopw [8, 9] (fun o i wr => ∃ k : Nat, k ≤ ar.length ∧ i = .int .i64 k ∧ wr.ownsRow w1.heap.size 56 2 o ((ar.take k).filter Q).length (((ar.take k).filter Q).flatMap cF) ∧ Below w1.heap.size w1 wr) (fun _ i _ => ar.length - (intOf i).toNat)
      case atStart => exact ⟨0, Nat.zero_le _, rfl, World.ownsRow_nil _ _ _ _, Below.refl _ _⟩
      case round =>
        obtain ⟨k, hk, rfl, hown, hnx⟩ := hrel
        have hsz := hnx.size
        have k0 : (0 : Int) ≤ (k : Int) := by omega
        have k9 : (k : Int) ≤ 2000000 := by have := LEN.out; omega
        by_cases hlt : k < ar.length
        · obtain ⟨f, hf⟩ := get_some hlt
          obtain ⟨b, off, rfl, hfc⟩ := AC.out k f hf
          obtain ⟨e0, e1⟩ := hfc wr hnx
          have FC := hid (fun (W : World) (h : Below w1.heap.size w1 W) => hfc W h)
          have TF := hid (show (ar.take (k + 1)).filter Q = (ar.take k).filter Q ++ if Q f = true then [f] else [] by
            rw [take_next hf, List.filter_append, List.filter_cons, List.filter_nil])
          have OL := hid (show ((ar.take k).filter Q).length ≤ 2000000 by have h1 := List.length_filter_le Q (ar.take k); have h2 := List.length_take_le k ar; omega)
          obtain ⟨out, hout⟩ : ∃ out, (ar.take k).filter Q = out := ⟨_, rfl⟩
          rw [hout] at hown OL TF
          have S1 := hid (SZ.out f.1 wr)
          have QF := hid (QE.out f)
          have HLT := hid hlt
          have HO := hid hown
          have HNX := hid hnx
          clear hf hfc hout hown hnx hlt
          cases hq : Q f with
          | true =>
            rw [hq] at TF QF
            rw [if_pos rfl] at TF
            have hpq : decide ((pop f.1 : Int) ≤ (n : Int)) = true := QF.out
            generalize (pop f.1 : Int) = pp at *
            clear hq
            go_wp2_with fail
            refine S1.out.mono ?_
            rintro e w2 ⟨rfl, hb2⟩
            have N2 := hid (HNX.out.trans (hb2.mono hsz))
            have O2 := hid (own_below HO.out hb2)
            obtain ⟨e0, e1⟩ := FC.out _ N2.out
            have S2 := hid N2.out.size
            clear hb2
            go_wp2_with (at_builtin; refine wpList_pushC rfl _ _ 28 rfl w1.heap.size 56 (.agg #[.int .u32 0, .int .u32 0]) 2 8 undFDs infoFD rfl (by decide) (by decide) cF cF_length cF_one _ out rfl (O2.out.alloc _) ⟨w2.heap.size, 0, none⟩ f rfl (cells_newF _ f) (by have := OL.out; omega) (by have := S2.out; simp; omega) ?_)
            intro v' w5 hown' hgrow
            have N5 := hid (below_push N2.out S2.out O2.out hgrow)
            have O5 := hid (show w5.ownsRow w1.heap.size 56 2 v' ((ar.take (k + 1)).filter Q).length (((ar.take (k + 1)).filter Q).flatMap cF) by rw [TF.out]; simpa using hown')
            clear hown' hgrow e0 e1
            go_wp2_with fail
            go_roundw
            case rel => exact ⟨k + 1, by have := HLT.out; omega, by go_num, O5.out, N5.out⟩
            case measure => have := HLT.out; simp [intOf]; omega
          | false =>
            rw [hq] at TF QF
            rw [if_neg (by simp), List.append_nil] at TF
            have hpq : decide ((pop f.1 : Int) ≤ (n : Int)) = false := QF.out
            generalize (pop f.1 : Int) = pp at *
            clear hq
            go_wp2_with fail
            refine S1.out.mono ?_
            rintro e w2 ⟨rfl, hb2⟩
            have N2 := hid (HNX.out.trans (hb2.mono hsz))
            have O2 := hid (own_below HO.out hb2)
            clear hb2
            go_wp2_with fail
            go_roundw
            case rel => exact ⟨k + 1, by have := HLT.out; omega, by go_num, by rw [TF.out]; exact O2.out, N2.out⟩
            case measure => have := HLT.out; simp [intOf]; omega
        · rw [take_all hlt] at hown
          have R := hid (RdC.of_owns cF_length hown (by have h1 := List.length_filter_le Q ar; have := LEN.out; omega))
          have NX := hid (B0.out.trans ((D1.out.trans (hnx.mono D1.out.size)).mono hsz0))
          clear hown hnx
          go_wp2_with fail
          go_ret2
          exact ⟨_, rfl, R.out, NX.out⟩
  · have e1 : bE t most = fE t := by unfold bE; rw [if_pos h0]
    have e2 : bndR t most = [] := by unfold bndR; rw [e1, if_neg h0]
    rw [e1, e2]
    obtain ⟨nm, ats, rs⟩ := t
    generalize allR (nm, ats, rs) = ar at *
    generalize fE (nm, ats, rs) = fe at *
    have hne : (fe == 0) = false := beq_eq_false_iff_ne.2 h0
    have H0 := hid h0
    clear ht h0 e1 e2
    go_enter Tryz.func16, Tryz.ntmps16
    go_wp2_with fail
    rw [W0.out]
    go_wp2_with fail
    refine (AL.out _ (Below.refl _ _)).mono ?_
    rintro e w1 ⟨v1, rfl, -, hb1⟩
    have H1 := hid (B0.out.trans (hb1.mono hsz0))
    clear hb1 c0 c1 c2
    go_wp2_with fail
    go_ret2
    exact ⟨_, rfl, RdF.nil _, H1.out⟩

end Go.Proofs.YthoidncbbcpnnaaGreatDoor


/- The walks of drossref28.witness and first. -/
namespace Go.Proofs.YthoidncbbcpnnaaGreatDoor
open Go.RowKit
set_option linter.unusedVariables false

attribute [local irreducible] Go.wpQuiet
set_option maxHeartbeats 3200000 in
set_option maxRecDepth 100000 in
theorem rwitn_any (i j : Int) (xs ys : List V3) (u v : Value) (s : S) (a : Nat) (w : World) (ha : a < 32) (hu : RdV w u xs) (hv : RdV w v ys) (hl : ys.length = xs.length) (h32 : xs.length ≤ 32) (hs : ∀ x ∈ xs, x.2.2.size ≤ 200) :
    Calls Tryz.prog 56 #[.agg #[.int .i64 i, u], .agg #[.int .i64 j, v], .int .u32 (iv s), .int .i64 (a : Int)] w fun e w' => e = .returned (.bool (agB xs ys s && !agB xs ys (bit a))) ∧ Below w.heap.size w w' := by
  have hb1 := below_alloc w (.cells #[.int .i64 i, u] 90)
  have C1 := hid (fun W h => cells2 (w := w) (a := .int .i64 i) (b := u) (t := 90) W h)
  obtain ⟨w1, hw1⟩ : ∃ w1 : World, w.alloc (.cells #[.int .i64 i, u] 90) = w1 := ⟨_, rfl⟩
  rw [hw1] at hb1 C1
  have hs1 : w1.heap.size = w.heap.size + 1 := by rw [← hw1]; simp
  have hb2 := below_alloc w1 (.cells #[.int .i64 j, v] 90)
  have C2 := hid (fun W h => cells2 (w := w1) (a := .int .i64 j) (b := v) (t := 90) W h)
  obtain ⟨w2, hw2⟩ : ∃ w2 : World, w1.alloc (.cells #[.int .i64 j, v] 90) = w2 := ⟨_, rfl⟩
  rw [hw2] at hb2 C2
  have B2 := hid (hb1.trans (hb2.mono hb1.size))
  have CC := hid (fun (W : World) (h : Below w2.heap.size w2 W) => (⟨⟨(C1.out W (hb2.trans (h.mono hb2.size))).1, (C1.out W (hb2.trans (h.mono hb2.size))).2⟩, by have := C2.out W h; rwa [hs1] at this⟩ : (W.cell? ⟨w.heap.size, 0, none⟩ = some (.int .i64 i) ∧ W.cell? ⟨w.heap.size, 1, none⟩ = some u) ∧ (W.cell? ⟨w.heap.size + 1, 0, none⟩ = some (.int .i64 j) ∧ W.cell? ⟨w.heap.size + 1, 1, none⟩ = some v)))
  have U2 := hid (fun (W : World) (h : Below w2.heap.size w2 W) => hu.below (B2.out.trans (h.mono B2.out.size)))
  have V2 := hid (fun (W : World) (h : Below w2.heap.size w2 W) => hv.below (B2.out.trans (h.mono B2.out.size)))
  have W1 := hid hw1
  have W2 := hid hw2
  have CA := hid (fun (s : S) (x : After w2) => Calls.after x (ragree_any i j xs ys u v s x.world (U2.out _ x.below) (V2.out _ x.below) hl h32 hs))
  have K1 := hid (CA.out s)
  have K2 := hid (CA.out (bit a))
  obtain ⟨⟨c0, c1⟩, d0, d1⟩ := CC.out w2 (Below.refl _ _)
  have m0 := fun x : After w2 => After.cell c0 x
  have m1 := fun x : After w2 => After.cell c1 x
  have n0 := fun x : After w2 => After.cell d0 x
  have n1 := fun x : After w2 => After.cell d1 x
  have a0 : (0 : Int) ≤ (a : Int) := by omega
  have a1 : (a : Int) < 32 := by omega
  clear hu hv hb1 hb2 C1 C2 hw1 hw2 hs1 CA hs hl h32 ha
  cases h1 : agB xs ys s with
  | false =>
    rw [h1] at K1
    clear h1 K2
    go_enter Tryz.func56, Tryz.ntmps56
    go_upto_region 1 with fail
    rw [W1.out, W2.out]
    refine wp_region_after (by kernel_rfl) (by kernel_rfl) ?_
    repeat (any_goals (quiet_step (exact K1.out _)))
    refine wpQuiet_nil ?_
    intro wz hbz
    have BF := hid (B2.out.trans (hbz.mono B2.out.size))
    clear hbz m0 m1 n0 n1 c0 c1 d0 d1 K1
    go_wp2_with fail
    go_ret
    exact ⟨by first | rfl | exact ret_bool rfl, BF.out⟩
  | true =>
    rw [h1] at K1
    unfold bit at K2 ⊢
    cases h2 : agB xs ys (1#32 <<< a) with
    | true =>
      rw [h2] at K2
      clear h1 h2
      go_enter Tryz.func56, Tryz.ntmps56
      go_upto_region 1 with fail
      rw [W1.out, W2.out]
      refine wp_region_after (by kernel_rfl) (by kernel_rfl) ?_
      repeat (any_goals (quiet_step (first | (with_reducible exact K1.out _) | (with_reducible exact K2.out _))))
      refine wpQuiet_nil ?_
      intro wz hbz
      have BF := hid (B2.out.trans (hbz.mono B2.out.size))
      clear hbz m0 m1 n0 n1 c0 c1 d0 d1 K1 K2
      go_wp2_with fail
      go_ret
      exact ⟨by first | rfl | exact ret_bool rfl, BF.out⟩
    | false =>
      rw [h2] at K2
      clear h1 h2
      go_enter Tryz.func56, Tryz.ntmps56
      go_upto_region 1 with fail
      rw [W1.out, W2.out]
      refine wp_region_after (by kernel_rfl) (by kernel_rfl) ?_
      repeat (any_goals (quiet_step (first | (with_reducible exact K1.out _) | (with_reducible exact K2.out _))))
      refine wpQuiet_nil ?_
      intro wz hbz
      have BF := hid (B2.out.trans (hbz.mono B2.out.size))
      clear hbz m0 m1 n0 n1 c0 c1 d0 d1 K1 K2
      go_wp2_with fail
      go_ret
      exact ⟨by first | rfl | exact ret_bool rfl, BF.out⟩

set_option maxHeartbeats 3200000 in
set_option maxRecDepth 100000 in
theorem rfirst_any (t : T3) (av rv : Value) (s : S) (a : Nat) (w : World) (ht : RdT w av rv t) (hk : tabE2 t = 0) (ha : a < t.2.1.length) (hs : sub s (fullN t.2.1.length)) :
    Calls Tryz.prog 47 #[.agg #[.string t.1, av, rv], .int .u32 (iv s), .int .i64 (a : Int)] w fun e w' => e = .returned (.agg #[.int .u32 (iv s), .int .i64 (fstW t.2.2 a s).1, .int .i64 (fstW t.2.2 a s).2]) ∧ Below w.heap.size w w' := by
  have hb00 := below_alloc w (.cells #[.string t.1, av, rv] 25)
  have hb01 := below_alloc (w.alloc (.cells #[.string t.1, av, rv] 25)) (.cells #[.int .u32 0, .int .i64 0, .int .i64 0] 62)
  have hb0 := hb00.trans (hb01.mono hb00.size)
  have C3 := hid (fun W (h : Below ((w.alloc (.cells #[.string t.1, av, rv] 25)).alloc (.cells #[.int .u32 0, .int .i64 0, .int .i64 0] 62)).heap.size ((w.alloc (.cells #[.string t.1, av, rv] 25)).alloc (.cells #[.int .u32 0, .int .i64 0, .int .i64 0] 62)) W) => cells3 (w := w) (a := .string t.1) (b := av) (c := rv) (t := 25) W (hb01.trans (h.mono hb01.size)))
  have P3 := hid (fun W h => cells3 (w := w.alloc (.cells #[.string t.1, av, rv] 25)) (a := .int .u32 0) (b := .int .i64 0) (c := .int .i64 0) (t := 62) W h)
  have T0 := hid (ht.below hb0)
  have hfz : ∀ i, ((w.alloc (.cells #[.string t.1, av, rv] 25)).alloc (.cells #[.int .u32 0, .int .i64 0, .int .i64 0] 62)).frozen? ⟨(w.alloc (.cells #[.string t.1, av, rv] 25)).heap.size, i, none⟩ = false := fun i => by simp
  obtain ⟨w0, hw0⟩ : ∃ w0 : World, (w.alloc (.cells #[.string t.1, av, rv] 25)).alloc (.cells #[.int .u32 0, .int .i64 0, .int .i64 0] 62) = w0 := ⟨_, rfl⟩
  rw [hw0] at hb0 C3 T0 P3 hfz
  have B0 := hid hb0
  have W0 := hid hw0
  have hsz0 := hb0.size
  clear hb0 hw0 hb00 hb01
  obtain ⟨p0, p1, p2⟩ := P3.out _ (Below.refl _ _)
  have PB := hid (show ∀ W, Below w0.heap.size w0 W → ∀ i, W.frozen? ⟨(w.alloc (.cells #[.string t.1, av, rv] 25)).heap.size, i, none⟩ = false from fun W h i => (h.frozen (p := ⟨(w.alloc (.cells #[.string t.1, av, rv] 25)).heap.size, i, none⟩) (by have := World.block_lt_of_cell? _ _ p0; exact this)).trans (hfz i))
  have HS1 := hid (show (w.alloc (.cells #[.string t.1, av, rv] 25)).heap.size = w.heap.size + 1 by simp)
  rw [HS1.out] at P3 PB p0 p1 p2 hfz
  obtain ⟨h16, h200, hrows⟩ := tabE2_ok hk
  obtain ⟨nm, ats, rs⟩ := t
  replace h16 : ats.length ≤ 16 := h16
  replace h200 : rs.length ≤ 200 := h200
  replace ha : a < ats.length := ha
  replace hs : sub s (fullN ats.length) := hs
  have HR := hid (show ∀ r ∈ rs, r.2.2.length = ats.length ∧ ∀ x ∈ r.2.2, x.2.2.size ≤ 200 from hrows)
  obtain ⟨ro, rcap, rfl, hrl, hrc⟩ := RdR.split T0.out.2
  have RC := hid hrc
  have SQ := hid (fun (i : Nat) (r : Row3) (h : rs[i]? = some r) => prs_at h)
  have WN := hid (fun (i j : Int) (xs ys : List V3) (u v : Value) (W : World) (hu : RdV W u xs) (hv : RdV W v ys) (hl : ys.length = xs.length) (h32 : xs.length ≤ 32) (hx : ∀ x ∈ xs, x.2.2.size ≤ 200) => rwitn_any i j xs ys u v s a W (by omega) hu hv hl h32 hx)
  have WP := hid (fun (r q : Row3) (hr : r.2.2.length = ats.length) (hq : q.2.2.length = ats.length) => wP_ag (s := s) hr hq (by omega) ha hs)
  show Calls _ _ _ _ fun e w' => e = .returned (.agg #[.int .u32 (iv s), .int .i64 (fstW rs a s).1, .int .i64 (fstW rs a s).2]) ∧ Below w.heap.size w w'
  obtain ⟨P, hP⟩ : ∃ P, wP a s = P := ⟨_, rfl⟩
  rw [hP] at WP
  have FW := hid (show fstW rs a s = fstP ((prs rs).find? P) by unfold fstW; rw [hP])
  rw [FW.out]
  obtain ⟨Q, hQ⟩ : ∃ Q, (prs rs).find? P = Q := ⟨_, rfl⟩
  have HQ0 := hid hQ
  rw [hQ]
  have PN := hid (show prs [] = [] from rfl)
  clear hk ht hrows hrc hQ hP hs hfz FW p0 p1 p2 ha
  go_enter Tryz.func47, Tryz.ntmps47
  go_wp2_with fail
  rw [W0.out]
  go_wp2_with fail
  go_loopw [7] (fun i wr => ∃ k : Nat, k ≤ rs.length ∧ i = .int .i64 k ∧ Hid ((prs (rs.drop k)).find? P = Q) ∧ Below w0.heap.size w0 wr) (fun i _ => rs.length - (intOf i).toNat)
  case atStart => exact ⟨0, Nat.zero_le _, rfl, HQ0, Below.refl _ _⟩
  case round =>
    obtain ⟨i, hk, rfl, HP, hnx⟩ := hrel
    have hsz := hnx.size
    obtain ⟨e0, e1, e2⟩ := C3.out _ hnx
    have i0 : (0 : Int) ≤ (i : Int) := by omega
    by_cases hlt : i < rs.length
    · obtain ⟨⟨rid, ru, rvs⟩, hr⟩ := get_some hlt
      obtain ⟨⟨b, off, rfl, hd⟩, hvs⟩ := RC.out i _ hr
      have HR1 := hid (HR.out _ (List.mem_of_getElem? hr))
      have HP2 := hid (show ((rs.drop (i + 1)).map (fun q => ((rid, ru, rvs), q)) ++ prs (rs.drop (i + 1))).find? P = Q by rw [← SQ.out i _ hr]; exact HP.out)
      have VS := hid (fun (W : World) (h : Below w0.heap.size w0 W) => show RdV W ru rvs from hvs W h)
      have DD := hid (fun W h => hd W h)
      obtain ⟨wo, rfl⟩ : ∃ wo : World, wo = wr := ⟨_, rfl⟩
      have HLT := hid hlt
      have NXO := hid hnx
      clear hd hvs hr hnx HP
      go_wp2_with fail
      go_loopw [8] (fun j wr => ∃ k : Nat, i + 1 ≤ k ∧ k ≤ rs.length ∧ j = .int .i64 k ∧ Hid (((rs.drop k).map (fun q => ((rid, ru, rvs), q)) ++ prs (rs.drop (i + 1))).find? P = Q) ∧ Below w0.heap.size w0 wr) (fun j _ => rs.length - (intOf j).toNat)
      case atStart => exact ⟨i + 1, Nat.le_refl _, by omega, by go_num, HP2, NXO.out⟩
      case round =>
        obtain ⟨k, hk1, hk2, rfl, HQ, hnx⟩ := hrel
        have hsz2 := hnx.size
        obtain ⟨f0, f1, f2⟩ := C3.out _ hnx
        have j0 : (0 : Int) ≤ (k : Int) := by omega
        by_cases hlt2 : k < rs.length
        · obtain ⟨⟨qid, qu, qvs⟩, hq⟩ := get_some hlt2
          have HR2 := hid (HR.out _ (List.mem_of_getElem? hq))
          obtain ⟨⟨b', off', hbb, hd'⟩, hvs'⟩ := RC.out k _ hq
          cases hbb
          have HQ2 := hid (show (((qid, qu, qvs) :: rs.drop (k + 1)).map (fun q => ((rid, ru, rvs), q)) ++ prs (rs.drop (i + 1))).find? P = Q by rw [← drop_at hq]; exact HQ.out)
          have VS2 := hid (fun (W : World) (h : Below w0.heap.size w0 W) => show RdV W qu qvs from hvs' W h)
          have NX := hid hnx
          obtain ⟨sq, hsq⟩ : ∃ sq, (agB rvs qvs s && !agB rvs qvs (bit a)) = sq := ⟨_, rfl⟩
          have WPX := hid (show P ((rid, ru, rvs), (qid, qu, qvs)) = sq by rw [← hsq]; exact WP.out (rid, ru, rvs) (qid, qu, qvs) HR1.out.1 HR2.out.1)
          have C := hid (fun x : After wr => Calls.after x (by
            have := WN.out rid qid rvs qvs ru qu x.world (VS.out _ (NX.out.trans (x.below.mono hsz2))) (VS2.out _ (NX.out.trans (x.below.mono hsz2))) (by rw [HR1.out.1, HR2.out.1]) (by rw [HR1.out.1]; exact Nat.le_trans h16 (by decide)) HR1.out.2
            rw [hsq] at this; exact this))
          obtain ⟨g0, g1⟩ := DD.out wr hnx
          obtain ⟨x0, x1⟩ := hd' wr hnx
          have m2 : ∀ x : After wr, x.world.cell? ⟨w.heap.size, 2, none⟩ = some (.slice (some ⟨b, off, none⟩) rs.length rcap) := fun x => After.cell f2 x
          have n0 : ∀ x : After wr, x.world.cell? ⟨b, off + i * 2, none⟩ = some (.int .i64 rid) := fun x => After.cell g0 x
          have n1 : ∀ x : After wr, x.world.cell? ⟨b, off + i * 2 + 1, none⟩ = some ru := fun x => After.cell g1 x
          have o0 : ∀ x : After wr, x.world.cell? ⟨b, off + k * 2, none⟩ = some (.int .i64 qid) := fun x => After.cell x0 x
          have o1 : ∀ x : After wr, x.world.cell? ⟨b, off + k * 2 + 1, none⟩ = some qu := fun x => After.cell x1 x
          have HK2 := hid hlt2
          have DQ := hid (fun W h => hd' W h)
          clear hd' hvs' hq hnx HQ hsq
          cases sq with
          | true =>
            have QV := hid (show fstP Q = (rid, qid) by
              have h := HQ2.out
              rw [List.map_cons, List.cons_append, List.find?_cons, WPX.out] at h
              rw [← h]; rfl)
            go_wp2_with fail
            refine wp_region_after (by kernel_rfl) (by kernel_rfl) ?_
            repeat (any_goals (quiet_step (exact C.out _)))
            refine wpQuiet_nil ?_
            intro wq hbq
            have BQ := hid (NX.out.trans (hbq.mono hsz2))
            obtain ⟨q0, q1, q2⟩ := P3.out _ BQ.out
            have qf0 := PB.out _ BQ.out 0
            have qf1 := PB.out _ BQ.out 1
            have qf2 := PB.out _ BQ.out 2
            obtain ⟨s0, s1, s2⟩ := C3.out _ BQ.out
            obtain ⟨u0, u1⟩ := DD.out _ BQ.out
            obtain ⟨v0, v1⟩ := DQ.out _ BQ.out
            clear hbq m2 n0 n1 o0 o1 C g0 g1 x0 x1
            go_wp2_with fail
            go_still_tail 14, (by kernel_rfl)
            go_wp2_with fail
            obtain ⟨wf, hwf⟩ : ∃ wf : World, ((wq.setCell ⟨w.heap.size + 1, 0, none⟩ (.int .u32 (iv s))).setCell ⟨w.heap.size + 1, 1, none⟩ (.int .i64 rid)).setCell ⟨w.heap.size + 1, 2, none⟩ (.int .i64 qid) = wf := ⟨_, rfl⟩
            obtain ⟨r0, r1, r2⟩ := set3 q0 q1 q2 hwf
            have BN := hid (B0.out.trans (BQ.out.mono hsz0))
            have BF : Below w.heap.size w wf := by rw [← hwf]; exact ((BN.out.setCell (p := ⟨w.heap.size + 1, 0, none⟩) (by simp) _).setCell (p := ⟨w.heap.size + 1, 1, none⟩) (by simp) _).setCell (p := ⟨w.heap.size + 1, 2, none⟩) (by simp) _
            rw [hwf]
            exact bodyPost_ret (v := .agg #[.int .u32 (iv s), .int .i64 rid, .int .i64 qid]) (by simp [results, Tryz.results47, go_sem, r0, r1, r2]) rfl ⟨by rw [QV.out], BF.drew⟩
          | false =>
            have HPN := hid (show ((rs.drop (k + 1)).map (fun q => ((rid, ru, rvs), q)) ++ prs (rs.drop (i + 1))).find? P = Q by
              have h := HQ2.out
              rw [List.map_cons, List.cons_append, List.find?_cons, WPX.out] at h
              exact h)
            go_wp2_with fail
            refine wp_region_after (by kernel_rfl) (by kernel_rfl) ?_
            repeat (any_goals (quiet_step (exact C.out _)))
            refine wpQuiet_nil ?_
            intro wq hbq
            have BQ := hid (NX.out.trans (hbq.mono hsz2))
            clear hbq m2 n0 n1 o0 o1 C
            go_wp2_with fail
            go_roundw
            case rel => exact ⟨k + 1, by omega, by have := HK2.out; omega, by go_num, HPN, BQ.out⟩
            case measure => have := HK2.out; simp [intOf]; omega
        · have HP3 := hid (show (prs (rs.drop (i + 1))).find? P = Q by
            have h := HQ.out
            rw [List.drop_eq_nil_of_le (show rs.length ≤ k by omega)] at h
            simpa using h)
          have NX := hid hnx
          clear hnx HQ
          go_wp2_with fail
          go_roundw
          case rel => exact ⟨i + 1, by have := HLT.out; omega, by go_num, HP3, NX.out⟩
          case measure => have := HLT.out; simp [intOf]; omega
    · have QV := hid (show fstP Q = (0, 0) by
        have h := HP.out
        rw [List.drop_eq_nil_of_le (show rs.length ≤ i by omega), PN.out] at h
        rw [← h]; rfl)
      have BN := hid (B0.out.trans (hnx.mono hsz0))
      obtain ⟨q0, q1, q2⟩ := P3.out _ hnx
      have qf0 := PB.out _ hnx 0
      have qf1 := PB.out _ hnx 1
      have qf2 := PB.out _ hnx 2
      clear hnx HP
      go_wp2_with fail
      obtain ⟨wf, hwf⟩ : ∃ wf : World, ((wr.setCell ⟨w.heap.size + 1, 0, none⟩ (.int .u32 (iv s))).setCell ⟨w.heap.size + 1, 1, none⟩ (.int .i64 0)).setCell ⟨w.heap.size + 1, 2, none⟩ (.int .i64 0) = wf := ⟨_, rfl⟩
      obtain ⟨r0, r1, r2⟩ := set3 q0 q1 q2 hwf
      have BF : Below w.heap.size w wf := by rw [← hwf]; exact ((BN.out.setCell (p := ⟨w.heap.size + 1, 0, none⟩) (by simp) _).setCell (p := ⟨w.heap.size + 1, 1, none⟩) (by simp) _).setCell (p := ⟨w.heap.size + 1, 2, none⟩) (by simp) _
      rw [hwf]
      exact bodyPost_ret (v := .agg #[.int .u32 (iv s), .int .i64 0, .int .i64 0]) (by simp [results, Tryz.results47, go_sem, r0, r1, r2]) rfl ⟨by rw [QV.out], BF⟩

end Go.Proofs.YthoidncbbcpnnaaGreatDoor


/- The walk of drossref28.Evidence. -/
namespace Go.Proofs.YthoidncbbcpnnaaGreatDoor
open Go.RowKit
set_option linter.unusedVariables false

theorem evd_bad {t : T3} {n : Nat} (h : faE t (n : Int) = 0) {ys : List S} (hy : IsOrd ys (fun x => sub x (fullN t.2.1.length &&& ~~~ bit n))) : keepS upR (ys.filter fun s => !detB t.2.2 n s) = maxL t (n : Int) := by
  obtain ⟨hE, k, e, hn⟩ := faE_ok h
  obtain rfl : n = k := by omega
  have hk := fE_tab hE
  obtain ⟨h16, -, hrows⟩ := tabE2_ok hk
  have hM : maxL t (n : Int) = keepS upR (withoutS (pairsS t.2.2) n) := by
    unfold maxL
    rw [if_pos (faE_ar h), Int.toNat_natCast]
  rw [hM]
  refine bad_max (m := t.2.1.length) (fun r hr => (hrows r hr).1) (by omega) hn fun s => ?_
  rw [List.mem_filter, hy.2, Bool.not_eq_true']
  rfl

set_option maxHeartbeats 3200000 in
set_option maxRecDepth 100000 in
theorem revd_any (t : T3) (av rv : Value) (a : Int) (w : World) (ht : RdT w av rv t) :
    Calls Tryz.prog 20 #[.agg #[.string t.1, av, rv], .int .i64 a] w fun e w' => ∃ v', e = .returned (.tuple #[v', .int .i64 (faE t a)]) ∧ RdW w' v' (evdR t a) ∧ Below w.heap.size w w' := by
  have hb0 := below_alloc w (.cells #[.string t.1, av, rv] 25)
  have C3 := hid (fun W h => cells3 (w := w) (a := .string t.1) (b := av) (c := rv) (t := 25) W h)
  have T0 := hid (ht.below hb0)
  obtain ⟨w0, hw0⟩ : ∃ w0 : World, w.alloc (.cells #[.string t.1, av, rv] 25) = w0 := ⟨_, rfl⟩
  rw [hw0] at hb0 C3 T0
  have B0 := hid hb0
  have W0 := hid hw0
  have hsz0 := hb0.size
  clear hb0 hw0
  have RF := hid (fun (W : World) (h : Below w0.heap.size w0 W) => rFor_any t av rv a W (T0.out.below h))
  obtain ⟨c0, c1, c2⟩ := C3.out _ (Below.refl _ _)
  by_cases h0 : faE t a = 0
  · obtain ⟨hE, n, rfl, hn⟩ := faE_ok h0
    have hE2 := fE_tab hE
    have hm10 := (fE_ok hE).2.1
    have EV : evdR t (n : Int) = (maxL t (n : Int)).map fun s => (s, fstW t.2.2 n s) := by unfold evdR; rw [if_pos h0]; rfl
    have DE := hid (fun (s : S) (hs : sub s (fullN t.2.1.length)) (W : World) (h : Below w0.heap.size w0 W) => rdet_any t av rv s n W (T0.out.below h) hE2 hn hs)
    have FI := hid (fun (s : S) (hs : s ∈ maxL t (n : Int)) (W : World) (h : Below w0.heap.size w0 W) => rfirst_any t av rv s n W (T0.out.below h) hE2 hn (maxL_sub hE hs))
    have ML := hid (maxL_len2 t (n : Int) (tabE2_ok hE2).2.1)
    have EB := hid (fun (ys : List S) (hy : IsOrd ys (fun x => sub x (fullN t.2.1.length &&& ~~~ bit n))) => evd_bad h0 hy)
    rw [h0] at RF
    rw [h0, EV]
    have OP := hid (others_pop (m := t.2.1.length) (n := n) hm10)
    obtain ⟨nm, ats, rs⟩ := t
    obtain ⟨ao, acap, hva, -⟩ := T0.out.1.split
    simp only at hva RF DE FI EB OP hn hm10
    subst hva
    have SO := hid (fun (s : S) (h : sub s (fullN ats.length &&& ~~~ bit n)) => show sub s (fullN ats.length) from sub_trans h (sub_less _ _))
    have FU := hid (fun (W : World) => full_any (ats.length : Int) W)
    rw [show min ((ats.length : Int)).toNat 32 = ats.length by omega] at FU
    have SB := hid (fun (s : S) (W : World) => refSubsets_any s W)
    have RM := hid (fun (xs : List S) (v : Value) (W : World) (hv : RdE enc W v xs) (h : xs.length < 17592186044416) => ref2Maximal_any xs v W hv h)
    simp only [enc_eq] at FU SB
    obtain ⟨FS, hFS⟩ : ∃ FS : S → Int × Int, (fun s => fstW rs n s) = FS := ⟨_, rfl⟩
    have HFS := hid (fun s => show fstW rs n s = FS s by rw [← hFS])
    simp only [HFS.out] at FI ⊢
    obtain ⟨DT, hDT⟩ : ∃ DT : S → Bool, detB rs n = DT := ⟨_, rfl⟩
    rw [hDT] at DE EB
    generalize maxL (nm, ats, rs) (n : Int) = ML0 at *
    have n0 : (0 : Int) ≤ (n : Int) := by omega
    have n1 : (n : Int) < 32 := by omega
    have HS := hid (fun (W : World) (h : Below w0.heap.size w0 W) => show Below w0.heap.size w0 W ∧ W.cell? ⟨w.heap.size, 0, none⟩ = some (.string nm) ∧ W.cell? ⟨w.heap.size, 1, none⟩ = some (.slice ao ats.length acap) ∧ W.cell? ⟨w.heap.size, 2, none⟩ = some rv from ⟨h, C3.out W h⟩)
    clear ht h0 hE hE2 hFS hDT EV hn
    unfold bit at *
    go_enter Tryz.func20, Tryz.ntmps20
    go_wp2_with fail
    rw [W0.out]
    go_wp2_with fail
    refine (RF.out _ (Below.refl _ _)).mono ?_
    rintro e w1 ⟨v1, rfl, -, hb1⟩
    have D1 := hid hb1
    clear hb1 c0 c1 c2
    obtain ⟨c0, c1, c2⟩ := C3.out _ D1.out
    go_wp2_with fail
    go_region_held3 (fun W => Below w0.heap.size w0 W ∧ W.cell? ⟨w.heap.size, 0, none⟩ = some (.string nm) ∧ W.cell? ⟨w.heap.size, 1, none⟩ = some (.slice ao ats.length acap) ∧ W.cell? ⟨w.heap.size, 2, none⟩ = some rv)
      (first | exact HS.out _ (below_drewN' D1.out _) | exact HS.out _ D1.out.drew | exact HS.out _ D1.out | exact HS.out _ (by assumption))
      (first
        | (go_at_call 26; have hS := And.left ‹Below w0.heap.size w0 _ ∧ _ ∧ _›; refine (FU.out _).mono ?_; rintro e wa ⟨rfl, rfl⟩; have hLa := hS; clear hS)
        | (go_at_call 41; have hS := And.left ‹Below w0.heap.size w0 _ ∧ _ ∧ _›; refine (SB.out _ _).mono ?_; rintro e wb ⟨vb, ys, rfl, hob, hsp, hyl, hbb⟩; have hLb := hS.trans (hbb.mono hS.size); have hrb := RdE.of_owns hob (by omega); clear hbb hS hob))
    all_goals
      have D2 := hid hLb
      have YO := hid (hsp.2 OP.out)
      have YL := hid hyl
      obtain ⟨yo, ycap, rfl, -, hyc⟩ := hrb.split
      have YC := hid hyc
      have KF := hid (EB.out ys YO.out)
      clear hLb hrb hsp hyl hyc
      try clear hLa
      go_wp2_with fail
      go_loopw [9, 10] (fun u i wr => ∃ k : Nat, k ≤ ys.length ∧ i = .int .i64 k ∧ wr.ownsRow wb.heap.size 53 1 u ((ys.take k).filter fun s => !DT s).length (((ys.take k).filter fun s => !DT s).map enc) ∧ Below wb.heap.size wb wr) (fun _ i _ => ys.length - (intOf i).toNat)
      case atStart => exact ⟨0, Nat.zero_le _, rfl, World.ownsRow_nil _ _ _ _, Below.refl _ _⟩
      case round =>
        obtain ⟨k, hk, rfl, hown, hnx⟩ := hrel
        have hsz := hnx.size
        have k0 : (0 : Int) ≤ (k : Int) := by omega
        have kn : (k : Int) ≤ 4294967297 := by have := YL.out; omega
        have NXW := hid (show Below w0.heap.size w0 wr from D2.out.trans (hnx.mono D2.out.size))
        by_cases hlt : k < ys.length
        · obtain ⟨x, hx⟩ := get_some hlt
          obtain ⟨b, off, rfl, hd⟩ := YC.out k x hx
          have e0 := hd wr hnx
          unfold enc at e0
          have hszw := NXW.out.size
          have XS := hid (SO.out x ((YO.out.2 x).1 (List.mem_of_getElem? hx)))
          obtain ⟨t0, t1, t2⟩ := C3.out _ NXW.out
          have CX := hid (fun (z : After wr) => Calls.after z (DE.out x XS.out z.world (NXW.out.trans (z.below.mono hszw))))
          have m0 := fun z : After wr => After.cell t0 z
          have m1 := fun z : After wr => After.cell t1 z
          have m2 := fun z : After wr => After.cell t2 z
          have m3 := fun z : After wr => After.cell e0 z
          have OLE := hid (show ((ys.take k).filter fun s => !DT s).length ≤ 4294967297 by have h1 := List.length_filter_le (fun s => !DT s) (ys.take k); have h2 := List.length_take_le k ys; have := YL.out; omega)
          have SN := hid (show ((ys.take (k + 1)).filter fun s => !DT s) = ((ys.take k).filter fun s => !DT s) ++ if (!DT x) = true then [x] else [] by
            rw [take_next hx, List.filter_append, List.filter_cons, List.filter_nil])
          obtain ⟨out, hout⟩ : ∃ out, ((ys.take k).filter fun s => !DT s) = out := ⟨_, rfl⟩
          rw [hout] at hown OLE SN
          have HO := hid hown
          have HNX := hid hnx
          have HLT := hid hlt
          have HD := hid (fun (W : World) (h : Below wb.heap.size wb W) => hd W h)
          clear hown hnx hx hd hout
          cases hq : DT x with
          | false =>
            rw [hq] at CX SN
            rw [Bool.not_false, if_pos rfl] at SN
            go_wp2_with fail
            refine wp_region_after (by kernel_rfl) (by kernel_rfl) ?_
            repeat (any_goals (quiet_step (exact CX.out _)))
            refine wpQuiet_nil ?_
            intro wz hbz
            have O3 := hid (own_below HO.out hbz)
            have N3 := hid (HNX.out.trans (hbz.mono hsz))
            have e3 := HD.out wz N3.out
            have S3 := hid N3.out.size
            unfold enc at e3
            clear hbz m0 m1 m2 m3 CX t0 t1 t2 e0
            go_wp2_with (at_builtin; refine wpList_push rfl _ _ 35 rfl wb.heap.size 53 (.int .u32 0) 4 undSets infoSet rfl (by decide) enc (fun _ => rfl) _ out rfl (O3.out.alloc _) ⟨wz.heap.size, 0, none⟩ x rfl (by simp [enc]) (by have := OLE.out; omega) (by have := S3.out; simp; omega) ?_)
            intro v' w5 hown' hgrow
            have N5 := hid (below_push N3.out S3.out O3.out hgrow)
            have O5 := hid (show w5.ownsRow wb.heap.size 53 1 v' ((ys.take (k + 1)).filter fun s => !DT s).length (((ys.take (k + 1)).filter fun s => !DT s).map enc) by rw [SN.out]; simpa using hown')
            clear hown' hgrow e3
            go_wp2_with fail
            go_roundw
            case rel => exact ⟨k + 1, by have := HLT.out; omega, by go_num, O5.out, N5.out⟩
            case measure => have := HLT.out; simp [intOf]; omega
          | true =>
            rw [hq] at CX SN
            rw [Bool.not_true, if_neg (by simp), List.append_nil] at SN
            go_wp2_with fail
            refine wp_region_after (by kernel_rfl) (by kernel_rfl) ?_
            repeat (any_goals (quiet_step (exact CX.out _)))
            refine wpQuiet_nil ?_
            intro wz hbz
            have O3 := hid (own_below HO.out hbz)
            have N3 := hid (HNX.out.trans (hbz.mono hsz))
            clear hbz m0 m1 m2 m3 CX t0 t1 t2 e0
            go_wp2_with fail
            go_roundw
            case rel => exact ⟨k + 1, by have := HLT.out; omega, by go_num, by rw [SN.out]; exact O3.out, N3.out⟩
            case measure => have := HLT.out; simp [intOf]; omega
        · have hke : ys.length ≤ k := by omega
          rw [List.take_of_length_le hke] at hown
          have FLE := hid (show (ys.filter fun s => !DT s).length ≤ 4294967297 by have h1 := List.length_filter_le (fun s => !DT s) ys; have := YL.out; omega)
          have M1 := hid (RM.out _ _ wr (RdE.of_owns hown (by have := FLE.out; omega)) (by have := FLE.out; omega))
          rw [KF.out] at M1
          clear hown hnx hke
          go_wp2_with fail
          refine M1.out.mono ?_
          rintro e w6 ⟨v6, rfl, ho6, hb6⟩
          have D6 := hid (NXW.out.trans (hb6.mono NXW.out.size))
          have hr6 := RdE.of_owns ho6 (by have := ML.out; omega)
          obtain ⟨mo, mcap, rfl, -, hmc⟩ := hr6.split
          have MC := hid hmc
          clear ho6 hb6 hr6 hmc
          go_wp2_with fail
          go_loopw [11, 12] (fun u i wr => ∃ k : Nat, k ≤ ML0.length ∧ i = .int .i64 k ∧ wr.ownsRow w6.heap.size 62 3 u ((ML0.take k).map fun s => (s, FS s)).length (((ML0.take k).map fun s => (s, FS s)).flatMap cW) ∧ Below w6.heap.size w6 wr) (fun _ i _ => ML0.length - (intOf i).toNat)
          case atStart => exact ⟨0, Nat.zero_le _, rfl, World.ownsRow_nil _ _ _ _, Below.refl _ _⟩
          case round =>
            obtain ⟨k, hk, rfl, hown, hnx⟩ := hrel
            have hsz := hnx.size
            have k0 : (0 : Int) ≤ (k : Int) := by omega
            have kn : (k : Int) ≤ 40000 := by have := ML.out; omega
            have NXW := hid (show Below w0.heap.size w0 wr from D6.out.trans (hnx.mono D6.out.size))
            by_cases hlt : k < ML0.length
            · obtain ⟨x, hx⟩ := get_some hlt
              obtain ⟨b, off, rfl, hd⟩ := MC.out k x hx
              have MX := hid (fun (W : World) (h : Below w6.heap.size w6 W) => show W.cell? ⟨b, off + k, none⟩ = some (.int .u32 (iv x)) from hd W h)
              have F1 := hid (fun (W : World) (h : Below w0.heap.size w0 W) => FI.out x (List.mem_of_getElem? hx) W h)
              have SN := hid (show ((ML0.take (k + 1)).map fun s => (s, FS s)) = ((ML0.take k).map fun s => (s, FS s)) ++ [(x, FS x)] by rw [take_next hx, List.map_append]; rfl)
              obtain ⟨out, hout⟩ : ∃ out : List W3, ((ML0.take k).map fun s => (s, FS s)) = out := ⟨_, rfl⟩
              have OLE := hid (show out.length ≤ 40000 by rw [← hout, List.length_map]; have := List.length_take_le k ML0; have := ML.out; omega)
              rw [hout] at hown SN
              obtain ⟨fa, fb⟩ : ∃ fa, fa = (FS x).1 := ⟨_, rfl⟩
              obtain ⟨fc, fd⟩ : ∃ fc, fc = (FS x).2 := ⟨_, rfl⟩
              rw [← fb, ← fd] at F1
              have FX := hid (show (x, FS x) = (x, fa, fc) by rw [fb, fd])
              rw [FX.out] at SN
              have HLT := hid hlt
              have HOD := hid hown.drew
              have HND := hid hnx.drew
              have HS2 := hid (fun (W : World) (h : Below w6.heap.size w6 W) => show Below w6.heap.size w6 W ∧ (W.cell? ⟨w.heap.size, 0, none⟩ = some (.string nm) ∧ W.cell? ⟨w.heap.size, 1, none⟩ = some (.slice ao ats.length acap) ∧ W.cell? ⟨w.heap.size, 2, none⟩ = some rv) ∧ W.cell? ⟨b, off + k, none⟩ = some (.int .u32 (iv x)) from ⟨h, C3.out W (D6.out.trans (h.mono D6.out.size)), MX.out W h⟩)
              clear hown hnx hd hx hout fb fd
              go_wp2_with fail
              go_region_held3 (fun W => Below w6.heap.size w6 W ∧ (W.cell? ⟨w.heap.size, 0, none⟩ = some (.string nm) ∧ W.cell? ⟨w.heap.size, 1, none⟩ = some (.slice ao ats.length acap) ∧ W.cell? ⟨w.heap.size, 2, none⟩ = some rv) ∧ W.cell? ⟨b, off + k, none⟩ = some (.int .u32 (iv x)))
                (first | exact HS2.out _ HND.out | exact HS2.out _ (by assumption) | exact HS2.out _ (hL3.alloc hS3 _))
                (first
                  | (go_at_call 47; refine (F1.out _ (D6.out.trans (HND.out.mono D6.out.size))).mono ?_; rintro e w3 ⟨rfl, hb3⟩; have ho3 := own_below HOD.out hb3; have hL3 := HND.out.trans (hb3.mono HND.out.size); have hS3 := hL3.size; clear hb3)
                  | (refine step_pushC (by rfl) _ _ 38 (by rfl) w6.heap.size 62 (.agg #[.int .u32 0, .int .i64 0, .int .i64 0]) 3 24 undWs infoW rfl (by decide) (by decide) cW cW_length cW_one _ out (by rfl) (ho3.alloc _) ⟨w3.heap.size, 0, none⟩ (x, fa, fc) (by rfl) (cells_newW _ _) (by have := OLE.out; omega) (by simp; omega) ?_; intro v' w4 hown' hgrow; have hb4 : Below w6.heap.size w6 w4 := below_push hL3 hS3 ho3 hgrow))
              all_goals
                have N4 := hid hb4
                have O4 := hid (show w4.ownsRow w6.heap.size 62 3 v' ((ML0.take (k + 1)).map fun s => (s, FS s)).length (((ML0.take (k + 1)).map fun s => (s, FS s)).flatMap cW) by rw [SN.out]; simpa using hown')
                clear hown' hgrow ho3 hL3 hb4
                go_wp2_with fail
                go_roundw
                case rel => exact ⟨k + 1, by have := HLT.out; omega, by go_num, O4.out, N4.out⟩
                case measure => have := HLT.out; simp [intOf]; omega
            · have hke : ML0.length ≤ k := by omega
              rw [List.take_of_length_le hke] at hown
              have RW := hid (RdC.of_owns cW_length hown (by rw [List.length_map]; have := ML.out; omega))
              have BF := hid (B0.out.trans (NXW.out.mono hsz0))
              clear hown hnx hke
              go_wp2_with fail
              go_ret2
              exact ⟨_, rfl, RW.out, BF.out⟩
  · have EV : evdR t a = [] := by unfold evdR; rw [if_neg h0]
    rw [EV]
    obtain ⟨nm, ats, rs⟩ := t
    simp only at RF
    generalize faE (nm, ats, rs) a = ke at *
    have hne : (ke == 0) = false := beq_eq_false_iff_ne.2 h0
    have H0 := hid h0
    clear ht h0 EV
    go_enter Tryz.func20, Tryz.ntmps20
    go_wp2_with fail
    rw [W0.out]
    go_wp2_with fail
    refine (RF.out _ (Below.refl _ _)).mono ?_
    rintro e w1 ⟨v1, rfl, -, hb1⟩
    have H1 := hid (B0.out.trans (hb1.mono hsz0))
    clear hb1 c0 c1 c2
    go_wp2_with fail
    go_ret2
    exact ⟨_, rfl, RdW.nil _, H1.out⟩

end Go.Proofs.YthoidncbbcpnnaaGreatDoor


/- The walks of Same over witnesses and over dependencies, and of Few. -/
namespace Go.Proofs.YthoidncbbcpnnaaGreatDoor
open Go.RowKit
set_option linter.unusedVariables false

set_option maxHeartbeats 1600000 in
theorem wsame28_any (xs : List W3) (v u : Value) (w : World) (hv : RdW w v xs) (hu : RdW w u xs) :
    Calls Tryz.prog 22 #[v, u] w fun e w' => e = .returned (.bool true) ∧ Below w.heap.size w w' := by
  obtain ⟨ao, cap, rfl, hl, hc⟩ := RdW.split hv
  obtain ⟨bo, cbp, rfl, -, hd⟩ := RdW.split hu
  have HC := hid hc
  have HD := hid hd
  have hne : ((xs.length : Int) != (xs.length : Int)) = false := by simp
  clear hc hd hv hu
  go_enter Tryz.func22, Tryz.ntmps22
  go_wp2_with fail
  go_loopw [5] (fun i wr => ∃ k : Nat, k ≤ xs.length ∧ i = .int .i64 k ∧ Below w.heap.size w wr) (fun i _ => xs.length - (intOf i).toNat)
  case atStart => exact ⟨0, Nat.zero_le _, rfl, Below.refl _ _⟩
  case round =>
    obtain ⟨k, hk, rfl, hnx⟩ := hrel
    have NX := hid hnx
    by_cases hlt : k < xs.length
    · obtain ⟨x, hx⟩ := get_some hlt
      obtain ⟨b, off, rfl, h1⟩ := HC.out k x hx
      obtain ⟨b', off', rfl, h2⟩ := HD.out k x hx
      obtain ⟨e0, e1, e2⟩ := h1 wr hnx
      obtain ⟨f0, f1, f2⟩ := h2 wr hnx
      have hq := fun w => run_neqW x w
      have k0 : (0 : Int) ≤ (k : Int) := by omega
      clear h1 h2 hx hnx
      go_wp2_with fail
      go_quiet (fail)
      go_wp2_with fail
      go_roundw
      case rel => exact ⟨k + 1, by omega, by go_num, below_drewN' NX.out _⟩
      case measure => simp [intOf]; omega
    · clear hnx
      go_wp2_with fail
      go_ret
      exact ⟨rfl, NX.out⟩

theorem run_neqF9 (x : F) (w : World) : (binOp .neq 56 (.agg #[.int .u32 (iv x.1), .int .u32 (iv x.2)]) (.agg #[.int .u32 (iv x.1), .int .u32 (iv x.2)])).run Tryz.prog w = .ok (.bool false) w := by
  have u3 := Tryz.underlying53
  have a3 := Tryz.isAgg53
  have z3 := Tryz.sizeOf53
  have hS : Tryz.prog.underlying 56 = some (.struct (Tryz.prog.fieldsOf 56)) := by kernel_rfl
  have hp : Tryz.prog.stoodInHeld 56 = false := by kernel_rfl
  rw [run_neq_struct, show (10000 : Nat) = 9999 + 1 from rfl, run_equalIn_agg w 9999 56 _ _ hS hp]
  simp only [Program.fieldsOf, Tryz.underlying56]
  go_simp
  try simp
set_option maxHeartbeats 1600000 in
theorem fsame9_any (xs : List F) (v u : Value) (w : World) (hv : RdF w v xs) (hu : RdF w u xs) :
    Calls Tryz.prog 14 #[v, u] w fun e w' => e = .returned (.bool true) ∧ Below w.heap.size w w' := by
  obtain ⟨ao, cap, rfl, hl, hc⟩ := hv.split
  obtain ⟨bo, cbp, rfl, -, hd⟩ := hu.split
  have HC := hid hc
  have HD := hid hd
  have hne : ((xs.length : Int) != (xs.length : Int)) = false := by simp
  clear hc hd hv hu
  go_enter Tryz.func14, Tryz.ntmps14
  go_wp2_with fail
  go_loopw [5] (fun i wr => ∃ k : Nat, k ≤ xs.length ∧ i = .int .i64 k ∧ Below w.heap.size w wr) (fun i _ => xs.length - (intOf i).toNat)
  case atStart => exact ⟨0, Nat.zero_le _, rfl, Below.refl _ _⟩
  case round =>
    obtain ⟨k, hk, rfl, hnx⟩ := hrel
    have NX := hid hnx
    by_cases hlt : k < xs.length
    · obtain ⟨x, hx⟩ := get_some hlt
      obtain ⟨b, off, rfl, h1⟩ := HC.out k x hx
      obtain ⟨b', off', rfl, h2⟩ := HD.out k x hx
      obtain ⟨e0, e1⟩ := h1 wr hnx
      obtain ⟨f0, f1⟩ := h2 wr hnx
      have hq := fun w => run_neqF9 x w
      have k0 : (0 : Int) ≤ (k : Int) := by omega
      clear h1 h2 hx hnx
      go_wp2_with fail
      go_quiet (fail)
      go_wp2_with fail
      go_roundw
      case rel => exact ⟨k + 1, by omega, by go_num, below_drewN' NX.out _⟩
      case measure => simp [intOf]; omega
    · clear hnx
      go_wp2_with fail
      go_ret
      exact ⟨rfl, NX.out⟩

set_option maxHeartbeats 1600000 in
set_option maxRecDepth 100000 in
theorem few_28 (t : T3) (av rv : Value) (w : World) (ht : RdT w av rv t) :
    Calls Tryz.prog 11 #[.agg #[.string t.1, av, rv]] w fun e w' => e = .returned (.bool (few28 t)) ∧ Below w.heap.size w w' := by
  have hb0 := below_alloc w (.cells #[.string t.1, av, rv] 25)
  have C3 := hid (fun W h => cells3 (w := w) (a := .string t.1) (b := av) (c := rv) (t := 25) W h)
  have T0 := hid (ht.below hb0)
  obtain ⟨w0, hw0⟩ : ∃ w0 : World, w.alloc (.cells #[.string t.1, av, rv] 25) = w0 := ⟨_, rfl⟩
  rw [hw0] at hb0 C3 T0
  have B0 := hid hb0
  have W0 := hid hw0
  have hsz0 := hb0.size
  clear hb0 hw0
  have ER := hid (fun (W : World) (h : Below w0.heap.size w0 W) => rerr28_any t av rv W (T0.out.below h))
  obtain ⟨c0, c1, c2⟩ := C3.out _ (Below.refl _ _)
  have FE := hid (show few28 t = (!(fE t == 0) || (decide (t.2.2.length ≤ 8) && decide (t.2.1.length ≤ 5))) from rfl)
  have D0 := hid (Below.refl w0.heap.size w0)
  obtain ⟨nm, ats, rs⟩ := t
  obtain ⟨ao, acap, hva, -⟩ := T0.out.1.split
  obtain ⟨ro, rcap, hvr, -⟩ := RdR.split T0.out.2
  simp only at hva hvr FE ER
  subst hva hvr
  generalize few28 (nm, ats, rs) = R at *
  generalize fE (nm, ats, rs) = fe at *
  clear ht T0
  cases h0 : (fe == 0) with
  | false =>
    rw [h0] at FE
    simp only [Bool.not_false, Bool.true_or] at FE
    have h0' : ¬ fe = 0 := by simpa using h0
    go_enter Tryz.func11, Tryz.ntmps11
    go_wp2_with fail
    rw [W0.out]
    go_wp2_with fail
    refine (ER.out _ D0.out).mono ?_
    rintro e w1 ⟨rfl, hb1⟩
    have B1 := hid (B0.out.trans (hb1.mono hsz0))
    obtain ⟨d0, d1, d2⟩ := C3.out _ hb1
    clear hb1 c0 c1 c2
    go_wp2_with fail
    go_ret
    exact ⟨ret_bool FE.out.symm, B1.out⟩
  | true =>
    rw [h0] at FE
    simp only [Bool.not_true, Bool.false_or] at FE
    have hfe : fe = 0 := by simpa using h0
    subst hfe
    clear h0
    by_cases h1 : rs.length ≤ 8
    · by_cases h2 : ats.length ≤ 5
      · have i1 : decide ((rs.length : Int) ≤ 8) = true := by rw [decide_eq_true_iff]; omega
        have i2 : decide ((ats.length : Int) ≤ 5) = true := by rw [decide_eq_true_iff]; omega
        rw [decide_eq_true h1, decide_eq_true h2] at FE
        clear h1 h2
        go_enter Tryz.func11, Tryz.ntmps11
        go_wp2_with fail
        rw [W0.out]
        go_wp2_with fail
        refine (ER.out _ D0.out).mono ?_
        rintro e w1 ⟨rfl, hb1⟩
        have B1 := hid (B0.out.trans (hb1.mono hsz0))
        obtain ⟨d0, d1, d2⟩ := C3.out _ hb1
        clear hb1 c0 c1 c2
        go_wp2_with fail
        go_ret
        exact ⟨ret_bool FE.out.symm, B1.out⟩
      · have i1 : decide ((rs.length : Int) ≤ 8) = true := by rw [decide_eq_true_iff]; omega
        have i2 : decide ((ats.length : Int) ≤ 5) = false := by rw [decide_eq_false_iff_not]; omega
        rw [decide_eq_true h1, decide_eq_false h2] at FE
        have H2 := hid h2
        clear h1 h2
        go_enter Tryz.func11, Tryz.ntmps11
        go_wp2_with fail
        rw [W0.out]
        go_wp2_with fail
        refine (ER.out _ D0.out).mono ?_
        rintro e w1 ⟨rfl, hb1⟩
        have B1 := hid (B0.out.trans (hb1.mono hsz0))
        obtain ⟨d0, d1, d2⟩ := C3.out _ hb1
        clear hb1 c0 c1 c2
        go_wp2_with fail
        go_ret
        exact ⟨ret_bool FE.out.symm, B1.out⟩
    · have i1 : decide ((rs.length : Int) ≤ 8) = false := by rw [decide_eq_false_iff_not]; omega
      rw [decide_eq_false h1, Bool.false_and] at FE
      have H1 := hid h1
      clear h1
      go_enter Tryz.func11, Tryz.ntmps11
      go_wp2_with fail
      rw [W0.out]
      go_wp2_with fail
      refine (ER.out _ D0.out).mono ?_
      rintro e w1 ⟨rfl, hb1⟩
      have B1 := hid (B0.out.trans (hb1.mono hsz0))
      obtain ⟨d0, d1, d2⟩ := C3.out _ hb1
      clear hb1 c0 c1 c2
      go_wp2_with fail
      go_ret
      exact ⟨ret_bool FE.out.symm, B1.out⟩

end Go.Proofs.YthoidncbbcpnnaaGreatDoor

