/- Texts that belong together, in one file. -/
import Derived.Test.YtcfcmalaabmceaaGreatDoorGPlain
import Derived.Lib.SlicesCompact
import Derived.Test.YtcfcmalaabmceaaGreatDoorBase
import Derived.Maps.OwnOps
import Derived.Maps.OwnSet
import Derived.Maps.RangeWalk
import Derived.Maps.Views
import Derived.Test.YtcfcmalaabmceaaGreatDoorGTabB
import Derived.Deep.RegionHeld3
/- The different sets of a list in order, plainly. No program. -/
namespace Go.Proofs.YtcfcmalaabmceaaGreatDoor
open Go.RowKit Go.Lib

theorem compact_next {xs : List S} {m : Nat} {x : S} (hx : xs[m]? = some x) : compactUpTo xs.toArray (m + 1) = compactUpTo xs.toArray m ++ (if keeps xs.toArray m then [x] else []) := by
  rw [compactUpTo_succ]
  have : xs.toArray[m]! = x := by simp [getElem!_def, hx]
  rw [this]
theorem compact_take {xs : List S} (hs : xs.Pairwise (fun x y => ¬ bef y x)) : ∀ m, m ≤ xs.length → IsOrd (compactUpTo xs.toArray m) (· ∈ xs.take m) := by
  intro m
  induction m with
  | zero => intro _; exact ⟨by simp [compactUpTo], fun s => by simp [compactUpTo]⟩
  | succ m ih =>
    intro hm
    obtain ⟨x, hx⟩ := get_some (show m < xs.length by omega)
    have h := ih (by omega)
    rw [compact_next hx, take_next hx]
    have hle : ∀ y ∈ xs.take m, ¬ bef x y := by
      intro y hy
      have hp : (xs.take m ++ [x]).Pairwise (fun x y => ¬ bef y x) := by
        rw [← take_next hx]; exact hs.sublist (List.take_sublist _ _)
      exact (List.pairwise_append.1 hp).2.2 y hy x (by simp)
    cases hk : keeps xs.toArray m with
    | false =>
      rw [if_neg (by simp), List.append_nil]
      refine h.congr fun s => ?_
      rw [List.mem_append, List.mem_singleton]
      refine ⟨.inl, fun h' => h'.elim id fun e => ?_⟩
      unfold keeps at hk
      simp only [decide_eq_false_iff_not, not_or, ne_eq, Classical.not_not] at hk
      obtain ⟨y, hy⟩ := get_some (show m - 1 < xs.length by omega)
      have e1 : xs.toArray[m]! = x := by simp [getElem!_def, hx]
      have e2 : xs.toArray[m - 1]! = y := by simp [getElem!_def, hy]
      rw [e1, e2] at hk
      rw [e, hk.2]
      apply List.mem_of_getElem? (i := m - 1)
      rw [List.getElem?_take_of_lt (by omega)]; exact hy
    | true =>
      rw [if_pos rfl]
      have hlt : ∀ y ∈ xs.take m, bef y x := by
        intro y hy
        apply Classical.byContradiction
        intro hn
        have e : y = x := bef_total hn (hle y hy)
        subst e
        unfold keeps at hk
        simp only [decide_eq_true_iff] at hk
        rcases hk with h0 | hk
        · subst h0; simp at hy
        · obtain ⟨z, hz⟩ := get_some (show m - 1 < xs.length by omega)
          have e1 : xs.toArray[m]! = y := by simp [getElem!_def, hx]
          have e2 : xs.toArray[m - 1]! = z := by simp [getElem!_def, hz]
          rw [e1, e2] at hk
          apply hk
          have hm0 : 0 < m := by
            apply Nat.pos_of_ne_zero; intro h0; subst h0; simp at hy
          have hzm : z ∈ xs.take m := by
            apply List.mem_of_getElem? (i := m - 1)
            rw [List.getElem?_take_of_lt (by omega)]; exact hz
          -- y lies at some place up to m - 1, so z is not before y, and y is not before z
          obtain ⟨j, hj, hyj⟩ := List.mem_iff_getElem.1 hy
          have hjm : j < m := by simp at hj; omega
          have hyj' : xs[j]? = some y := by
            rw [← List.getElem?_take_of_lt hjm, List.getElem?_eq_getElem hj, hyj]
          have hzy : ¬ bef z y := by
            by_cases e : j = m - 1
            · subst e
              rw [hyj'] at hz
              rw [← Option.some.inj hz]; exact bef_irrefl y
            · obtain ⟨h1, rfl⟩ := List.getElem?_eq_some_iff.1 hyj'
              obtain ⟨h2, rfl⟩ := List.getElem?_eq_some_iff.1 hz
              exact List.pairwise_iff_getElem.1 hs j (m - 1) h1 h2 (by omega)
          exact (bef_total hzy (hle z hzm)).symm
      refine ⟨List.pairwise_append.2 ⟨h.1, by simp, fun a ha b hb => ?_⟩, fun s => ?_⟩
      · rw [List.mem_singleton] at hb; subst hb
        exact hlt a ((h.2 a).1 ha)
      · show s ∈ compactUpTo xs.toArray m ++ [x] ↔ s ∈ xs.take m ++ [x]
        rw [List.mem_append, List.mem_append, h.2 s]
theorem compact_ord {xs : List S} (hs : xs.Pairwise (fun x y => ¬ bef y x)) : IsOrd (compact xs) (· ∈ xs) := by
  have := compact_take hs xs.length (Nat.le_refl _)
  rwa [List.take_length] at this
theorem compact_length (xs : List S) : (compact xs).length ≤ xs.length := by
  unfold compact compactUpTo
  rw [List.length_map]
  exact Nat.le_trans (List.length_filter_le _ _) (by simp)

/-- The different sets of a list in order. -/
def ordS (xs : List S) : List S := Go.Lib.compact (sortS xs)
theorem ordS_ord (xs : List S) : IsOrd (ordS xs) (· ∈ xs) := (compact_ord (sortS_sorted xs)).congr fun s => (sortS_perm xs).mem_iff (a := s)

end Go.Proofs.YtcfcmalaabmceaaGreatDoor


/- A map keyed by sets that the call itself makes, told as a function: the look-up, the store, the deletion at the operation. No program. -/
namespace Go.Proofs.YtcfcmalaabmceaaGreatDoor
open Go.RowKit
open Go.Maps (Keyed)

/-- How the elements of a map are told: each x as a value and as a datum; no other value reads so. -/
structure Elems (P : Program) (e : TypeId) (β : Type) where
  el : β → Value
  dl : β → DataW Unit
  to : ∀ x, plainElem P e (el x) = some (dl x, [])
  inv : ∀ v x ps, plainElem P e v = some (dl x, ps) → v = el x
def keyL (s : S) : Lit := .int .u32 (iv s)
theorem wf_iv (s : S) : (Lit.int .u32 (iv s)).wf = true := WalkArith.wf_u32 (by have := iv_nonneg s; have := iv_lt s; omega)

/-- Block b is a map of at most n entries that gives f s at the key s. -/
def OwnM {P : Program} {e : TypeId} {β : Type} (E : Elems P e β) (z : β) (k : TypeId) (w : World) (b n : Nat) (f : S → β) : Prop :=
  ∃ D : DataW Unit, w.ownsMap P k (plainElem P e) b n D ∧ ∀ s, D.atKey (keyL s) (E.dl z) = E.dl (f s)

/-- f, but y at s. -/
def upd {β : Type} (f : S → β) (s : S) (y : β) : S → β := fun t => if t = s then y else f t

section
variable {P : Program} {e : TypeId} {β : Type} {E : Elems P e β} {z : β} {k : TypeId} {w : World} {b n : Nat} {f : S → β}
theorem OwnM.made : OwnM E z k (w.alloc (.map #[] 0)) w.heap.size 0 (fun _ => z) :=
  ⟨.map [], World.ownsMap_made w P k _, fun _ => Maps.atKey_of_not_has rfl _⟩
theorem OwnM.kept {w' : World} {row : Option Nat} (h : OwnM E z k w b n f) (hg : w.grownBy w' row) (hne : some b ≠ row) : OwnM E z k w' b n f := by
  obtain ⟨D, h1, h2⟩ := h; exact ⟨D, h1.kept hg hne, h2⟩
theorem OwnM.congr {g : S → β} (h : OwnM E z k w b n f) (hg : ∀ s, f s = g s) : OwnM E z k w b n g := by
  obtain ⟨D, h1, h2⟩ := h; exact ⟨D, h1, fun s => (h2 s).trans (by rw [hg])⟩
theorem OwnM.lt (h : OwnM E z k w b n f) : b < w.heap.size := by obtain ⟨D, h1, _⟩ := h; exact h1.lt
theorem OwnM.below {w' : World} (h : OwnM E z k w b n f) (hb : Below w.heap.size w w') : OwnM E z k w' b n f := by
  obtain ⟨D, ⟨es, c, h1, h3⟩, h2⟩ := h
  exact ⟨D, ⟨es, c, (hb.block b (Array.getElem?_eq_some_iff.1 h1).1).trans h1, h3⟩, h2⟩

end


end Go.Proofs.YtcfcmalaabmceaaGreatDoor


/- A map keyed by sets that the call itself makes, told by a function and by the keys that it has; ranging over it. No program. -/
namespace Go.Proofs.YtcfcmalaabmceaaGreatDoor
open Go.RowKit
open Go.Maps (Keyed)


/-- Block b is a map of at most n entries that gives f s at the key s, and has the keys p. -/
def OwnK {P : Program} {e : TypeId} {β : Type} (E : Elems P e β) (z : β) (k : TypeId) (w : World) (b n : Nat) (f : S → β) (p : S → Bool) : Prop :=
  ∃ D : DataW Unit, w.ownsMap P k (plainElem P e) b n D ∧ (∀ s, D.atKey (keyL s) (E.dl z) = E.dl (f s)) ∧ ∀ s, Maps.has D (keyL s) = p s
/-- A loop over it is under way: left says which keys are still to come, cnt how many. -/
def RngK {P : Program} {e : TypeId} {β : Type} (E : Elems P e β) (z : β) (k : TypeId) (w : World) (b r n : Nat) (f : S → β) (p left : S → Bool) (cnt : Nat) : Prop :=
  ∃ (D : DataW Unit) (lf : Lit → Bool), w.ranges P k (plainElem P e) b r n D lf cnt ∧ (∀ s, D.atKey (keyL s) (E.dl z) = E.dl (f s)) ∧ (∀ s, Maps.has D (keyL s) = p s) ∧ (∀ s, lf (keyL s) = left s) ∧ ∀ s, left s = true → p s = true

section
variable {P : Program} {e : TypeId} {β : Type} {E : Elems P e β} {z : β} {k : TypeId} {w : World} {b r n : Nat} {f : S → β} {p left : S → Bool} {cnt : Nat}
theorem OwnK.made : OwnK E z k (w.alloc (.map #[] 0)) w.heap.size 0 (fun _ => z) (fun _ => false) :=
  ⟨.map [], World.ownsMap_made w P k _, fun _ => Maps.atKey_of_not_has rfl _, fun _ => rfl⟩
theorem OwnK.kept {w' : World} {row : Option Nat} (h : OwnK E z k w b n f p) (hg : w.grownBy w' row) (hne : some b ≠ row) : OwnK E z k w' b n f p := by
  obtain ⟨D, h1, h2⟩ := h; exact ⟨D, h1.kept hg hne, h2⟩
theorem OwnK.congr {g : S → β} {q : S → Bool} (h : OwnK E z k w b n f p) (hg : ∀ s, f s = g s) (hp : ∀ s, p s = q s) : OwnK E z k w b n g q := by
  obtain ⟨D, h1, h2, h3⟩ := h; exact ⟨D, h1, fun s => (h2 s).trans (by rw [hg]), fun s => (h3 s).trans (hp s)⟩
theorem OwnK.mono {n' : Nat} (h : OwnK E z k w b n f p) (hn : n ≤ n') : OwnK E z k w b n' f p := by
  obtain ⟨D, h1, h2⟩ := h; exact ⟨D, h1.mono hn, h2⟩
theorem OwnK.lt (h : OwnK E z k w b n f p) : b < w.heap.size := by obtain ⟨D, h1, _⟩ := h; exact h1.lt
theorem OwnK.below {w' : World} (h : OwnK E z k w b n f p) (hb : Below w.heap.size w w') : OwnK E z k w' b n f p := by
  obtain ⟨D, ⟨es, c, h1, h3⟩, h2⟩ := h
  exact ⟨D, ⟨es, c, (hb.block b (Array.getElem?_eq_some_iff.1 h1).1).trans h1, h3⟩, h2⟩
theorem RngK.owns (h : RngK E z k w b r n f p left cnt) : OwnK E z k w b n f p := by
  obtain ⟨D, lf, h1, h2, h3, _⟩ := h; exact ⟨D, h1.owns, h2, h3⟩
theorem RngK.left_eq (h : RngK E z k w b r n f p left cnt) : w.rangeLeft b r = cnt := by
  obtain ⟨D, lf, h1, _⟩ := h; exact h1.left_eq
theorem RngK.lt (h : RngK E z k w b r n f p left cnt) : r < w.heap.size := by
  obtain ⟨D, lf, h1, _⟩ := h; exact h1.lt
theorem RngK.kept {w' : World} {row : Option Nat} (h : RngK E z k w b r n f p left cnt) (hg : w.grownBy w' row) (hb : some b ≠ row) (hr : some r ≠ row) : RngK E z k w' b r n f p left cnt := by
  obtain ⟨D, lf, h1, h2⟩ := h; exact ⟨D, lf, h1.kept hg hb hr, h2⟩
theorem grown_of_below {w w' : World} (h : Below w.heap.size w w') : w.grownBy w' none := ⟨h.os, h.tape, h.output, h.size, fun i hi _ => h.block i hi⟩
theorem RngK.below {w' : World} (h : RngK E z k w b r n f p left cnt) (hb : Below w.heap.size w w') : RngK E z k w' b r n f p left cnt := h.kept (grown_of_below hb) (by simp) (by simp)

end

/-- What a loop over the keys has collected. -/
structure Coll (p left : S → Bool) (ps : List S) : Prop where
  nodup : ps.Nodup
  mem : ∀ s, s ∈ ps ↔ p s = true ∧ left s = false
theorem Coll.start (p : S → Bool) : Coll p p [] := ⟨List.nodup_nil, fun s => by cases p s <;> simp⟩
theorem Coll.next {p left : S → Bool} {ps : List S} {s : S} (h : Coll p left ps) (hl : left s = true) (hp : p s = true) : Coll p (fun t => left t && !decide (t = s)) (ps ++ [s]) := by
  have hn : s ∉ ps := fun hm => by have := ((h.mem s).1 hm).2; rw [hl] at this; cases this
  refine ⟨by rw [List.nodup_append]; exact ⟨h.nodup, by simp, fun a ha b hb e => by rw [List.mem_singleton] at hb; subst hb; subst e; exact hn ha⟩, fun t => ?_⟩
  rw [List.mem_append, h.mem, List.mem_singleton]
  by_cases e : t = s
  · subst e; simp [hp, hl]
  · simp [e]
theorem Coll.done {p left : S → Bool} {ps : List S} (h : Coll p left ps) (hl : ∀ s, left s = false) (s : S) : s ∈ ps ↔ p s = true := by rw [h.mem]; simp [hl]
/-- .. of which only some were kept. -/
structure CollF (p left q : S → Bool) (ps : List S) : Prop where
  nodup : ps.Nodup
  mem : ∀ s, s ∈ ps ↔ (p s = true ∧ left s = false) ∧ q s = true
theorem CollF.start (p q : S → Bool) : CollF p p q [] := ⟨List.nodup_nil, fun s => by cases p s <;> simp⟩
theorem CollF.no {p left q : S → Bool} {ps : List S} {s : S} (h : CollF p left q ps) (hq : q s = false) : CollF p (fun t => left t && !decide (t = s)) q ps := by
  refine ⟨h.nodup, fun t => ?_⟩
  rw [h.mem]
  by_cases e : t = s
  · subst e; simp [hq]
  · simp [e]
theorem CollF.done {p left q : S → Bool} {ps : List S} (h : CollF p left q ps) (hl : ∀ s, left s = false) (s : S) : s ∈ ps ↔ p s = true ∧ q s = true := by rw [h.mem]; simp [hl]

/-- Elements that are counts. -/
def capN (n : Nat) : Int := if n < 4611686018427387904 then n else 0
theorem capN_wf (n : Nat) : (Lit.int .i64 (capN n)).wf = true := by
  refine WalkArith.wf_i64 ?_
  unfold capN
  split <;> omega
def cntElems (P : Program) (e : TypeId) (he : P.underlying e = some (.int .i64)) : Elems P e Nat where
  el n := .int .i64 (capN n)
  dl n := .lit (.int .i64 (capN n))
  to n := plainElem_int he (capN_wf n)
  inv v x ps h := by
    obtain ⟨a, rfl, hz, _⟩ := plainElem_int_inv he h
    simp at hz
    rw [hz.1]

end Go.Proofs.YtcfcmalaabmceaaGreatDoor


/- Plain laws of chapter 27: the agree sets of a table, their counts, the maximal and the minimal ones. No program. -/
namespace Go.Proofs.YtcfcmalaabmceaaGreatDoor

abbrev pairS (r q : Row3) : S := rowsS r.2.2 q.2.2 r.2.2.length






end Go.Proofs.YtcfcmalaabmceaaGreatDoor


/- The walk of drossref27.Pairs. -/
namespace Go.Proofs.YtcfcmalaabmceaaGreatDoor
open Go.RowKit Go.Shelf



end Go.Proofs.YtcfcmalaabmceaaGreatDoor


/- The walk of agree.counts: a map from the agree sets to the numbers of their pairs. -/
namespace Go.Proofs.YtcfcmalaabmceaaGreatDoor
open Go.RowKit

theorem undI64 : Tryz.prog.underlying 2 = some (.int .i64) := by kernel_rfl
abbrev OwnC := OwnK (cntElems Tryz.prog 2 undI64) 0 47
abbrev RngC := RngK (cntElems Tryz.prog 2 undI64) 0 47


end Go.Proofs.YtcfcmalaabmceaaGreatDoor

