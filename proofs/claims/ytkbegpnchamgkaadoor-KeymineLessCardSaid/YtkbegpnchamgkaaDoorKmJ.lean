/- Plain: a table without some of its rows. -/
import Derived.Test.YtkbegpnchamgkaaDoorKmH
namespace Go.Proofs.YtkbegpnchamgkaaDoor
open Go.RowKit
set_option linter.unusedVariables false

def keepR (rs : List Row3) (ids : List Int) : List Row3 := rs.filter fun r => ids.any fun x => x == r.1
theorem rowsE_congr : ∀ (rs rs' : List Row3) (last : Int) (m : Nat), cpAs rs rs' → rowsE last m rs' = rowsE last m rs := by
  intro rs
  induction rs with
  | nil =>
    intro rs' last m h
    unfold cpAs at h
    have : rs' = [] := by simpa using h
    rw [this]
  | cons r rs ih =>
    intro rs' last m h
    unfold cpAs at h
    match rs', h with
    | r' :: rs', h =>
      simp only [List.map_cons, List.cons.injEq, Prod.mk.injEq] at h
      obtain ⟨⟨h1, h2⟩, h3⟩ := h
      unfold rowsE
      rw [h1, h2, ih rs' r.1 m h3]
theorem rowsE_filter (p : Row3 → Bool) : ∀ (rs : List Row3) (last last' : Int) (m : Nat), rowsE last m rs = 0 → last' ≤ last → rowsE last' m (rs.filter p) = 0 := by
  intro rs
  induction rs with
  | nil => intro _ _ _ _ _; rfl
  | cons r rs ih =>
    intro last last' m h hle
    unfold rowsE at h
    split at h
    · cases h
    · rename_i h1
      split at h
      · cases h
      · rename_i h2
        split at h
        · cases h
        · rename_i h3
          rw [List.filter_cons]
          by_cases hp : p r = true
          · rw [if_pos hp]
            unfold rowsE
            rw [if_neg (by omega), if_neg h2, if_neg h3]
            exact ih r.1 r.1 m h (Int.le_refl _)
          · rw [if_neg hp]
            exact ih r.1 last' m h (by omega)
theorem part_good {t : T3} {ids : List Int} {rs' : List Row3} (h : GoodT t) (hc : cpAs (keepR t.2.2 ids) rs') : GoodT (t.1, t.2.1, rs') := by
  have hl : rs'.length ≤ t.2.2.length := by
    have := congrArg List.length hc
    rw [List.length_map, List.length_map] at this
    rw [this]; exact List.length_filter_le _ _
  have h0 := tabE2_tab h.1
  have hr : rowsE 0 t.2.1.length rs' = 0 := by
    rw [rowsE_congr _ _ _ _ hc]
    exact rowsE_filter _ _ 0 0 _ (tabE_rows h0) (Int.le_refl _)
  have h1 : tabE (t.1, t.2.1, rs') = 0 := by
    have h2 := h0
    unfold tabE at h2 ⊢
    have h8 := h.2.2.1
    split at h2
    · cases h2
    · rename_i a1
      rw [if_neg a1]
      split at h2
      · cases h2
      · rename_i a2
        rw [if_neg (by show ¬ (16 < t.2.1.length ∨ 1000 < rs'.length); omega)]
        split at h2
        · cases h2
        · rename_i a3
          rw [if_neg a3]; exact hr
  refine ⟨?_, h.2.1, Nat.le_trans hl h.2.2.1, ?_⟩
  · unfold tabE2
    rw [if_neg (fun e => e h1), if_neg (by show ¬ 200 < rs'.length; have := h.2.2.1; omega)]
  · intro r hr' x hx
    have : (r.1, r.2.2) ∈ (keepR t.2.2 ids).map (fun r => (r.1, r.2.2)) := by rw [← hc]; exact List.mem_map.2 ⟨r, hr', rfl⟩
    obtain ⟨q, hq, e⟩ := List.mem_map.1 this
    simp only [Prod.mk.injEq] at e
    rw [← e.2] at hx
    exact h.2.2.2 q (List.mem_filter.1 hq).1 x hx
theorem good_wide2 {t : T3} (h : GoodT t) : Wide t.2.1.length t.2.2 ∧ t.2.1.length ≤ 16 := ⟨fun r hr => ((tabE2_ok h.1).2.2 r hr).1, (tabE2_ok h.1).1⟩
theorem lK_keys (rs : List Row3) (s : S) : (lK rs s).map (·.1) = (rs.map fun r => (r.1, r.2.2)).map fun p => valTo p.2 s p.2.length := by
  unfold lK; rw [List.map_map, List.map_map]; rfl
theorem part_uni {t : T3} {ids : List Int} {rs' : List Row3} (h : GoodT t) (hc : cpAs (keepR t.2.2 ids) rs') {s : S} (hs : sub s (fullN t.2.1.length)) (hu : uniB (pairsS t.2.2) s = true) : uniB (pairsS rs') s = true := by
  have h2 := good_wide2 (part_good h hc)
  have h1 := good_wide2 h
  rw [uni_nodup h2.1 (Nat.le_trans h2.2 (by decide)) hs]
  rw [uni_nodup h1.1 (Nat.le_trans h1.2 (by decide)) hs] at hu
  rw [lK_keys, hc, ← lK_keys]
  refine List.Sublist.nodup ?_ hu
  unfold lK keepR
  exact (List.filter_sublist.map _).map _
/-- The first of the minimal uniques has the least size. -/
theorem key_head {m : Nat} {ps : List S} {s k : S} {l : List S} (h : keyN m ps = s :: l) (hk : k ∈ keyN m ps) : pop s ≤ pop k := by
  have hp := (keyN_ord m ps).1
  rw [h] at hp hk
  rcases List.mem_cons.1 hk with rfl | hk
  · exact Nat.le_refl _
  · have := (bef_iff s k).1 ((List.pairwise_cons.1 hp).1 k hk); omega
theorem part_best {t : T3} {ids : List Int} {rs' : List Row3} (h : GoodT t) (hc : cpAs (keepR t.2.2 ids) rs') {s : S} {l : List S} (hs : keyN t.2.1.length (pairsS t.2.2) = s :: l) : ∃ s' l', keyN t.2.1.length (pairsS rs') = s' :: l' ∧ pop s' ≤ pop s := by
  have hm : s ∈ keyN t.2.1.length (pairsS t.2.2) := by rw [hs]; simp
  have h1 := keyN_iff.1 (((keyN_ord _ _).2 s).1 hm)
  have h2 := part_uni h hc h1.1 (uniB_iff.2 h1.2.1)
  obtain ⟨k, hk, hks⟩ := keyN_in h1.1 (uniB_iff.1 h2)
  cases hq : keyN t.2.1.length (pairsS rs') with
  | nil => rw [hq] at hk; cases hk
  | cons s' l' => exact ⟨s', l', rfl, Nat.le_trans (key_head hq hk) (sub_pop hks)⟩

end Go.Proofs.YtkbegpnchamgkaaDoor
