/- Plain laws of the merged list: one dependency for each left side, in order. -/
import Derived.Test.YtciamnkalmihcaaCompact
import Derived.Test.YtciamnkalmihcaaGPlain
namespace Go.Proofs.Ytciamnkalmihcaa

/-- The different sets of a list in order. -/
def ordS (xs : List S) : List S := Go.Lib.compact (sortS xs)
theorem ordS_ord (xs : List S) : IsOrd (ordS xs) (· ∈ xs) := (compact_ord (sortS_sorted xs)).congr fun s => (sortS_perm xs).mem_iff (a := s)
theorem ordS_of {xs ys : List S} {p : S → Prop} (h : IsOrd ys p) (k : ∀ s, p s ↔ s ∈ xs) : ys = ordS xs := h.uniq (ordS_ord xs) k

def orStep (s : S) (acc : S) (x : F) : S := if x.1 = s then acc ||| x.2 else acc
def orOf (l : List F) (s : S) : S := l.foldl (orStep s) 0#32
theorem orOf_snoc (l : List F) (x : F) (s : S) : orOf (l ++ [x]) s = if x.1 = s then orOf l s ||| x.2 else orOf l s := by unfold orOf; rw [List.foldl_append]; rfl
theorem orOf_next {l : List F} {k : Nat} {x : F} (h : l[k]? = some x) (s : S) : orOf (l.take (k + 1)) s = if x.1 = s then orOf (l.take k) s ||| x.2 else orOf (l.take k) s := by rw [take_next h, orOf_snoc]
theorem orOf_get (l : List F) (s : S) (i : Nat) : (orOf l s).getLsbD i = true ↔ ∃ x ∈ l, x.1 = s ∧ x.2.getLsbD i = true := by
  induction l using snocRec with
  | nil => simp [orOf]
  | snoc l x ih =>
    rw [orOf_snoc]
    by_cases h : x.1 = s
    · rw [if_pos h, BitVec.getLsbD_or, Bool.or_eq_true, ih]
      constructor
      · rintro (⟨y, hy, h1, h2⟩ | h2)
        · exact ⟨y, by simp [hy], h1, h2⟩
        · exact ⟨x, by simp, h, h2⟩
      · rintro ⟨y, hy, h1, h2⟩
        rcases List.mem_append.1 hy with hy | hy
        · exact .inl ⟨y, hy, h1, h2⟩
        · rw [List.mem_singleton] at hy; subst hy; exact .inr h2
    · rw [if_neg h, ih]
      constructor
      · rintro ⟨y, hy, h1, h2⟩; exact ⟨y, by simp [hy], h1, h2⟩
      · rintro ⟨y, hy, h1, h2⟩
        rcases List.mem_append.1 hy with hy | hy
        · exact ⟨y, hy, h1, h2⟩
        · rw [List.mem_singleton] at hy; subst hy; exact absurd h1 h
/-- The merged list. -/
def mergeF (l : List F) : List F := (ordS (l.map (·.1))).map fun s => (s, orOf l s)
theorem mem_mergeF {l : List F} {f : F} : f ∈ mergeF l ↔ (∃ x ∈ l, x.1 = f.1) ∧ f.2 = orOf l f.1 := by
  unfold mergeF
  rw [List.mem_map]
  constructor
  · rintro ⟨s, hs, rfl⟩
    obtain ⟨x, hx, h⟩ := List.mem_map.1 ((ordS_ord _).2 s |>.1 hs)
    exact ⟨⟨x, hx, h⟩, rfl⟩
  · rintro ⟨⟨x, hx, h⟩, h2⟩
    exact ⟨f.1, (ordS_ord _).2 _ |>.2 (List.mem_map.2 ⟨x, hx, h⟩), by rw [← h2]⟩
theorem sub_orOf {l : List F} {x : F} (h : x ∈ l) : sub x.2 (orOf l x.1) := fun i _ hb => (orOf_get l x.1 i).2 ⟨x, h, rfl, hb⟩
theorem orOf_le {l : List F} {s d : S} (h : ∀ x ∈ l, x.1 = s → sub x.2 d) : sub (orOf l s) d := fun i hi hb => by
  obtain ⟨x, hx, h1, h2⟩ := (orOf_get l s i).1 hb
  exact h x hx h1 i hi h2
theorem merge_eqv (l : List F) : Eqv (mergeF l) l := by
  intro d
  constructor
  · intro h x hx hs
    exact sub_trans (sub_orOf hx) (h (x.1, orOf l x.1) (mem_mergeF.2 ⟨⟨x, hx, rfl⟩, rfl⟩) hs)
  · intro h f hf hs
    obtain ⟨⟨x, hx, hxf⟩, h2⟩ := mem_mergeF.1 hf
    rw [h2]
    exact orOf_le fun y hy he => h y hy (by rw [he]; exact hs)
theorem merge_congr {l m : List F} (h : ∀ f, f ∈ l ↔ f ∈ m) : mergeF l = mergeF m := by
  have e1 : ∀ s, orOf l s = orOf m s := fun s => sub_antisymm (orOf_le fun x hx he => by rw [← he]; exact sub_orOf ((h x).1 hx)) (orOf_le fun x hx he => by rw [← he]; exact sub_orOf ((h x).2 hx))
  have e2 : ordS (l.map (·.1)) = ordS (m.map (·.1)) := (ordS_ord _).uniq (ordS_ord _) fun s => by
    rw [List.mem_map, List.mem_map]
    exact ⟨fun ⟨x, hx, e⟩ => ⟨x, (h x).1 hx, e⟩, fun ⟨x, hx, e⟩ => ⟨x, (h x).2 hx, e⟩⟩
  unfold mergeF
  rw [e2]
  exact List.map_congr_left fun s _ => by rw [e1]
/-- The merged list of what is split out of a merged list of single right sides is that list. -/
theorem mem_split_merge {l : List F} (h : UnitR l) {f : F} : f ∈ splitF (mergeF l) ↔ f ∈ l := by
  rw [mem_splitF]
  constructor
  · rintro ⟨x, hx, hf⟩
    obtain ⟨_, hx2⟩ := mem_mergeF.1 hx
    obtain ⟨a, ha, h1, h2, rfl⟩ := mem_splitX.1 hf
    rw [hx2] at h1
    obtain ⟨y, hy, e1, e2⟩ := (orOf_get l x.1 a).1 h1
    obtain ⟨b, hb, h3, h4⟩ := h y hy
    rw [h3, bit_get b a ha, decide_eq_true_iff] at e2
    subst e2
    have : y = (x.1, bit a) := by rw [← e1, ← h3]
    rw [← this]; exact hy
  · intro hf
    obtain ⟨a, ha, h1, h2⟩ := h f hf
    refine ⟨(f.1, orOf l f.1), mem_mergeF.2 ⟨⟨f, hf, rfl⟩, rfl⟩, mem_splitX.2 ⟨a, ha, (orOf_get l f.1 a).2 ⟨f, hf, rfl, ?_⟩, h2, by rw [← h1]⟩⟩
    rw [h1, bit_get a a ha]; simp
theorem imp_perm {l m : List F} (h : ∀ f, f ∈ l ↔ f ∈ m) (f : F) : impS l f = impS m f := (eqv_of_mem h).imp f
/-- Being minimal depends on the members alone, where none stands twice. -/
theorem nonred_iff {l : List F} (hn : l.Nodup) : NonRed l ↔ ∀ f ∈ l, impS (l.filter (fun g => decide (g ≠ f))) f = false := by
  have key : ∀ i (hi : i < l.length), ∀ g, g ∈ othersF l i ↔ g ∈ l.filter (fun g => decide (g ≠ l[i])) := by
    intro i hi g
    rw [List.mem_filter, decide_eq_true_iff]
    constructor
    · intro hg
      refine ⟨mem_others hg, ?_⟩
      rintro rfl
      unfold othersF at hg
      rw [List.nodup_iff_pairwise_ne, List.pairwise_iff_getElem] at hn
      rcases List.mem_append.1 hg with hg | hg
      · obtain ⟨j, hj, e⟩ := List.mem_take_iff_getElem.1 hg
        exact hn j i (by omega) hi (by omega) e
      · obtain ⟨j, hj, e⟩ := List.mem_drop_iff_getElem.1 hg
        exact hn i (i + 1 + j) hi (by omega) (by omega) e.symm
    · rintro ⟨hg, hne⟩
      rw [others_split (List.getElem?_eq_getElem hi)] at hg
      unfold othersF
      rcases List.mem_append.1 hg with hg | hg
      · exact List.mem_append.2 (.inl hg)
      · rcases List.mem_cons.1 hg with e | hg
        · exact absurd e hne
        · exact List.mem_append.2 (.inr hg)
  constructor
  · intro h f hf
    obtain ⟨i, hi, rfl⟩ := List.mem_iff_getElem.1 hf
    have := h i hi
    rw [redB_at (List.getElem?_eq_getElem hi)] at this
    rw [← imp_perm (key i hi)]; exact this
  · intro h i hi
    rw [redB_at (List.getElem?_eq_getElem hi), imp_perm (key i hi)]
    exact h _ (List.getElem_mem hi)
theorem minL_perm {l m : List F} (h : ∀ f, f ∈ l ↔ f ∈ m) (hl : MinL l) (hm : m.Nodup) : MinL m := by
  refine ⟨hl.1.of fun f hf => (h f).2 hf, (nonred_iff hm).2 fun f hf => ?_, hl.2.2.of (eqv_of_mem fun f => (h f).symm) fun f hf => (h f).2 hf⟩
  have := (nonred_iff (nonred_nodup hl.2.1)).1 hl.2.1 f ((h f).2 hf)
  rw [← this]
  exact (imp_perm (fun g => by rw [List.mem_filter, List.mem_filter, h g]) f).symm
theorem canon_again (l : List F) : mergeF (minF (mergeF (minF l))) = mergeF (minF l) := by
  obtain ⟨_, hm, _⟩ := minF_spec l
  have e := fun f => mem_split_merge hm.1 (f := f)
  have hs := minL_perm (fun f => (e f).symm) hm (onceF_nodup _)
  have hn : minF (mergeF (minF l)) = splitF (mergeF (minF l)) := by
    have h1 := minF_self hs (splitF_unit hs.1 (onceF_nodup _))
    have h2 : minF (splitF (mergeF (minF l))) = minF (mergeF (minF l)) := by
      unfold minF
      rw [splitF_unit (split_unit _) (onceF_nodup _)]
    rw [← h2]; exact h1
  rw [hn]
  exact merge_congr e

end Go.Proofs.Ytciamnkalmihcaa
