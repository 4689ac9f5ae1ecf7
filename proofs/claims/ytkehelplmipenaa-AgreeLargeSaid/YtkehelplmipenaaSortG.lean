/- slices.SortFunc over a slice of sets of the call's own, with any comparison that gives the order of sets: the row holds the sorted list. -/
import Derived.Test.YtkehelplmipenaaSort
import Derived.Test.YtkehelplmipenaaGWalk
import Derived.Sort.OwnSorted
namespace Go.Proofs.Ytkehelplmipenaa
open Go.RowKit Go.Shelf Go.Lib Go.Sort

section
variable {α : Type} [Inhabited α] {f : α → Value}
theorem holds_row {w : World} {g : Nat} {cur : Array Value} {e : TypeId} {xs : List α} (hb : w.heap[g]? = some (.cells cur e (0, 0))) (ht : cur.toList.take xs.length = xs.map f) : Holds f w g 0 xs.toArray := by
  intro j hj
  have hj' : j < xs.length := by simpa using hj
  refine ⟨?_, by simp [World.frozen?, hb]⟩
  have h1 : (cur.toList.take xs.length)[j]? = (xs.map f)[j]? := by rw [ht]
  rw [List.getElem?_take_of_lt hj'] at h1
  simp only [World.cell?, hb, Nat.zero_add]
  simp [hj'] at h1
  simp [h1, hj']
theorem row_heap {w : World} {g n : Nat} {os : Array Obj} {cur : Array Value} {e : TypeId} {fr : Nat × Nat} (d : Array α) (hb : w.heap[g]? = some (.cells cur e fr)) :
    (grow (putRow f (Sort.ahead w n) g 0 d) os).heap[g]? = some (.cells (putCells f 0 d cur) e fr) := by
  have hg : g < w.heap.size := (Array.getElem?_eq_some_iff.1 hb).1
  rw [heap_grow_old _ _ (by simpa using hg)]
  simp [putRow, mapBlock, Sort.ahead, Array.getElem?_modify, hb, onCells]
theorem row_grown {w : World} {g n : Nat} {os : Array Obj} (d : Array α) : w.grownBy (grow (putRow f (Sort.ahead w n) g 0 d) os) (some g) := by
  refine ⟨rfl, rfl, rfl, by simp, fun k hk hne => ?_⟩
  rw [heap_grow_old _ _ (by simpa using hk)]
  have : g ≠ k := fun e => hne (by rw [e])
  simp [putRow, mapBlock, Sort.ahead, Array.getElem?_modify, this]
theorem row_take (cur : Array Value) (ts : List α) (h : ts.length ≤ cur.size) : (putCells f 0 ts.toArray cur).toList.take ts.length = ts.map f := by
  apply List.ext_getElem?
  intro j
  by_cases hj : j < ts.length
  · rw [List.getElem?_take_of_lt hj, Array.getElem?_toList]
    simp [putCells, hj, show j < cur.size by omega]
  · rw [List.getElem?_take_eq_none (by omega), List.getElem?_eq_none (by simp; omega)]
theorem row_owns {w : World} {base g cap n : Nat} {e : TypeId} {os : Array Obj} {cur : Array Value} {ss ts : List α} (hl : ts.length = ss.length) (hbase : base ≤ g) (hb : w.heap[g]? = some (.cells cur e (0, 0)))
    (h1 : ss.length ≤ cap) (h2 : cap ≤ maxLen) (h3 : cur.size = cap * 1) :
    (grow (putRow f (Sort.ahead w n) g 0 ts.toArray) os).ownsRow base e 1 (.slice (some ⟨g, 0, none⟩) ss.length cap) ss.length (ts.map f) :=
  ⟨by simp [hl], .inr ⟨g, cap, _, rfl, hbase, row_heap _ hb, h1, h2, by simp [putCells, h3], by rw [Nat.mul_one, ← hl]; exact row_take cur ts (by omega)⟩⟩
end

theorem lt_cmpS (x y : S) : ltOf cmpS x y = decide (bef x y) := decide_eq_decide.2 Iff.rfl
theorem swoS : SWO (ltOf cmpS) where
  irrefl x := by rw [lt_cmpS]; simp [bef_irrefl]
  trans x y z h1 h2 := by rw [lt_cmpS] at *; simp at *; exact bef_trans h1 h2
  ntrans x y z h1 h2 := by rw [lt_cmpS] at *; simp at *; rw [bef_iff] at *; omega

theorem sortBy_any (g0 : Nat) (eg : ∀ args w, (callFunc g0 args).run Try.prog w = .ok (.enter g0 args) w)
    (hc : ∀ (x y : S) (W : World), Calls Try.prog g0 #[enc x, enc y] W fun e w' => e = .returned (.int .i64 (cmpS x y)) ∧ ∃ q os, w' = Sort.grow (W.drewN q) os)
    (xs : List S) (v : Value) (B : Nat) (w : World) (hown : w.ownsRow B 33 1 v xs.length (xs.map enc)) (hl : xs.length < 17592186044416) :
    Calls Try.prog 59 #[v, .func (.func g0) #[] #[]] w fun e w' =>
      e = .returned (.tuple #[]) ∧ w'.ownsRow B 33 1 v xs.length ((sortS xs).map enc) ∧ Below B w w' := by
  rcases hown.2 with ⟨rfl, hn⟩ | ⟨g, cap, cur, rfl, hB, hg, hnc, hcm, hcs, htake⟩
  · have hx : xs = [] := List.eq_nil_of_length_eq_zero hn
    subst hx
    refine (AnyF.slices_SortFunc_none { Try.sortS with } none 0 _ w).mono fun e w' ⟨he, hw⟩ => ?_
    subst hw
    exact ⟨he, by simpa [sortS] using hown, Below.refl _ _⟩
  · have htk : cur.toList.take xs.length = xs.map enc := by simpa using htake
    have hlt : g < w.heap.size := (Array.getElem?_eq_some_iff.1 hg).1
    have hcmp : CmpLays1 Try.prog g0 #[] enc cmpS g 0 xs.toArray.size w := fun m os dk hs x y => hc x y _
    have h := Any.slices_SortFunc_total Try.sortS enc (fun _ => rfl) cmpS swoS g0 #[] g 0 cap xs.toArray w
      eg hcmp (holds_row hg htk) hlt (by simp; omega)
      (fun x y h1 h2 => bef_total (by simpa [lt_cmpS] using h1) (by simpa [lt_cmpS] using h2))
    have e1 : (xs.toArray.toList.mergeSort fun x y => !ltOf cmpS y x) = sortS xs := by simp only [lt_cmpS]; rfl
    rw [e1] at h
    have h' : Calls Try.prog 59 #[.slice (some ⟨g, 0, none⟩) xs.length cap, .func (.func g0) #[] #[]] w _ := h
    refine h'.mono fun e w' ⟨he, n, os, hw⟩ => ?_
    subst hw
    refine ⟨he, row_owns (sortS_perm xs).length_eq hB hg hnc hcm hcs, ?_⟩
    exact (Below.refl B w).grown (row_grown _) (by omega) (fun k hk => by cases hk; exact hB)

end Go.Proofs.Ytkehelplmipenaa
