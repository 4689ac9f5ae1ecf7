/- More laws of chapter 7, over the contracts of what they call. -/
import Derived.Test.YtciamnkalmihcaaLaws07
namespace Go.Proofs.Ytciamnkalmihcaa
open Go.RowKit

/-! Plain laws that these laws want. -/
theorem allS_red (xs : List S) : allS (redS xs) = allS xs := (allS_ord (redS xs)).uniq (allS_ord xs) (fun s => by rw [min_red])
theorem valid_intro {n : Int} {xs : List S} (h0 : 0 ≤ n) (h16 : n ≤ 16) (hl : xs.length ≤ 200) (hb : ∀ x ∈ xs, ∀ i, i < 32 → n.toNat ≤ i → x.getLsbD i = false) : validS n xs = 0 := by
  unfold validS
  rw [if_neg (by omega), if_neg (by omega), if_neg]
  rw [Bool.not_eq_true, List.any_eq_false]
  intro x hx
  simp only [bne_iff_ne, ne_eq, Classical.not_not]
  apply bv_ext
  intro i hi
  rw [BitVec.getLsbD_ushiftRight, BitVec.getLsbD_zero]
  by_cases h : n.toNat + i < 32
  · exact hb x hx _ h (by omega)
  · exact BitVec.getLsbD_of_ge _ _ (by omega)
theorem valid_red {n : Int} {xs : List S} (h : validS n xs = 0) : validS n (redS xs) = 0 := by
  obtain ⟨h0, h16, hl, hb⟩ := valid_bits h
  exact valid_intro h0 h16 (Nat.le_trans (redS_length xs) hl) (fun x hx => hb x (((redS_ord xs).2 x).1 hx).1)
theorem valid_all {n : Int} {xs : List S} (h : validS n xs = 0) (hl : (allS xs).length ≤ 200) : validS n (allS xs) = 0 := by
  obtain ⟨h0, h16, _, hb⟩ := valid_bits h
  exact valid_intro h0 h16 hl (fun x hx => min_within (((allS_ord xs).2 x).1 hx) hb)
/-- What has a member in each minimal transversal contains an edge. -/
theorem hits_all {xs : List S} {s : S} : hitsS (allS xs) s = true ↔ ∃ e ∈ xs, sub e s := by
  constructor
  · intro h
    apply Classical.byContradiction
    intro hn
    have hc : hitsS xs (~~~ s) = true := by
      rw [hits_iff]
      intro e he h0
      apply hn
      refine ⟨e, he, fun i hi hei => ?_⟩
      rw [and_zero_iff] at h0
      have := h0 i hi hei
      rw [BitVec.getLsbD_not] at this
      simpa [hi] using this
    obtain ⟨t, ht, hts⟩ := min_in xs _ _ (Nat.le_refl _) hc
    have h1 := hits_iff.1 h t (((allS_ord xs).2 t).2 ht)
    apply h1
    rw [and_zero_iff]
    intro i hi hti
    have := hts i hi hti
    rw [BitVec.getLsbD_not] at this
    simpa [hi] using this
  · rintro ⟨e, he, hes⟩
    rw [hits_iff]
    intro t ht h0
    have h1 := hits_iff.1 (minS_iff.1 (((allS_ord xs).2 t).1 ht)).1 e he
    apply h1
    rw [and_zero_iff] at *
    intro i hi hei
    have h2 := hes i hi hei
    cases hti : t.getLsbD i with
    | false => rfl
    | true => have := h0 i hi hti; rw [h2] at this; cases this
theorem allS_all (xs : List S) : allS (allS xs) = redS xs := by
  refine (allS_ord (allS xs)).uniq (redS_ord xs) (fun s => ?_)
  show minS (allS xs) s = true ↔ isMin xs s
  rw [minS_iff]
  constructor
  · rintro ⟨h1, h2⟩
    obtain ⟨e, he, hes⟩ := hits_all.1 h1
    have hes2 := h2 e hes (hits_all.2 ⟨e, he, sub_refl _⟩)
    subst hes2
    exact ⟨he, fun f hf hfe => h2 f hfe (hits_all.2 ⟨f, hf, sub_refl _⟩)⟩
  · rintro ⟨hs, hm⟩
    refine ⟨hits_all.2 ⟨s, hs, sub_refl _⟩, fun t ht hh => ?_⟩
    obtain ⟨e, he, het⟩ := hits_all.1 hh
    have := hm e he (sub_trans het ht)
    subst this
    exact sub_antisymm ht het
theorem wit_true {n : Int} {xs sets : List S} {d : S} (hv : validS n xs = 0) (h : ¬ (d ∈ allS xs ↔ d ∈ sets)) : witS n xs sets d = true := by
  obtain ⟨h0, h16, _, hb⟩ := valid_bits hv
  have hmin : min n.toNat 32 = n.toNat := by omega
  have e1 : ((d &&& ~~~ fullN (min n.toNat 32) == 0#32) && minS xs d) = decide (d ∈ allS xs) := by
    rw [hmin]
    cases hm : minS xs d with
    | false =>
      rw [Bool.and_false]; symm; rw [decide_eq_false_iff_not]
      intro hd
      rw [((allS_ord xs).2 d).1 hd] at hm; cases hm
    | true =>
      rw [Bool.and_true]
      have hd : d ∈ allS xs := ((allS_ord xs).2 d).2 hm
      have hs : sub d (fullN n.toNat) := fun i hi hdi => by
        rw [fullN_get _ i hi, decide_eq_true_iff]
        apply Classical.byContradiction
        intro hn
        rw [min_within hm hb i hi (by omega)] at hdi; cases hdi
      rw [andNot_zero_iff.2 hs]; simp [hd]
  have e2 : inL sets d = decide (d ∈ sets) := by rw [Bool.eq_iff_iff, inL_iff]; simp
  unfold witS
  rw [e1, e2]
  by_cases a : d ∈ allS xs <;> by_cases b : d ∈ sets <;> simp [a, b] at h ⊢
theorem same_true (xs : List S) (v u : Value) (w : World) (hv : RdE enc w v xs) (hu : RdE enc w u xs) :
    Calls Try.prog 29 #[v, u] w fun e w' => e = .returned (.bool true) ∧ Below w.heap.size w w' :=
  (same_any xs xs v u w hv hu).mono fun e w' ⟨he, q, hq⟩ => ⟨by rw [he]; simp, by rw [hq]; exact below_drewN _ _ _⟩
theorem sameB (xs ys : List S) (v u : Value) (w : World) (hv : RdE enc w v xs) (hu : RdE enc w u ys) :
    Calls Try.prog 29 #[v, u] w fun e w' => e = .returned (.bool (decide (xs = ys))) ∧ Below w.heap.size w w' :=
  (same_any xs ys v u w hv hu).mono fun e w' ⟨he, q, hq⟩ => ⟨he, by rw [hq]; exact below_drewN _ _ _⟩






end Go.Proofs.Ytciamnkalmihcaa
