/- Texts that belong together, in one file. -/
import Derived.Test.YtgahpgmagfngfaaGreatDoorGPlain
import Derived.Lib.SlicesCompact
import Derived.Test.YtgahpgmagfngfaaGreatDoorBase
import Derived.Maps.OwnOps
import Derived.Maps.OwnSet
import Derived.Maps.RangeWalk
import Derived.Maps.Views
import Derived.Test.YtgahpgmagfngfaaGreatDoorGTabB
import Derived.Deep.RegionHeld3
/- The different sets of a list in order, plainly. No program. -/
namespace Go.Proofs.YtgahpgmagfngfaaGreatDoor
open Go.RowKit Go.Lib

theorem compact_next {xs : List S} {m : Nat} {x : S} (hx : xs[m]? = some x) : compactUpTo xs.toArray (m + 1) = compactUpTo xs.toArray m ++ (if keeps xs.toArray m then [x] else []) := by
  rw [compactUpTo_succ]
  have : xs.toArray[m]! = x := by simp [getElem!_def, hx]
  rw [this]
theorem compact_take {xs : List S} (hs : xs.Pairwise (fun x y => ¬ bef y x)) : ∀ m, m ≤ xs.length → IsOrd (compactUpTo xs.toArray m) (· ∈ xs.take m) := by
  intro m
  induction m with
  | zero => intro _; exact ⟨by simp [compactUpTo], fun s => by simp [compactUpTo]⟩
  | succ m ih =>
    intro hm
    obtain ⟨x, hx⟩ := get_some (show m < xs.length by omega)
    have h := ih (by omega)
    rw [compact_next hx, take_next hx]
    have hle : ∀ y ∈ xs.take m, ¬ bef x y := by
      intro y hy
      have hp : (xs.take m ++ [x]).Pairwise (fun x y => ¬ bef y x) := by
        rw [← take_next hx]; exact hs.sublist (List.take_sublist _ _)
      exact (List.pairwise_append.1 hp).2.2 y hy x (by simp)
    cases hk : keeps xs.toArray m with
    | false =>
      rw [if_neg (by simp), List.append_nil]
      refine h.congr fun s => ?_
      rw [List.mem_append, List.mem_singleton]
      refine ⟨.inl, fun h' => h'.elim id fun e => ?_⟩
      unfold keeps at hk
      simp only [decide_eq_false_iff_not, not_or, ne_eq, Classical.not_not] at hk
      obtain ⟨y, hy⟩ := get_some (show m - 1 < xs.length by omega)
      have e1 : xs.toArray[m]! = x := by simp [getElem!_def, hx]
      have e2 : xs.toArray[m - 1]! = y := by simp [getElem!_def, hy]
      rw [e1, e2] at hk
      rw [e, hk.2]
      apply List.mem_of_getElem? (i := m - 1)
      rw [List.getElem?_take_of_lt (by omega)]; exact hy
    | true =>
      rw [if_pos rfl]
      have hlt : ∀ y ∈ xs.take m, bef y x := by
        intro y hy
        apply Classical.byContradiction
        intro hn
        have e : y = x := bef_total hn (hle y hy)
        subst e
        unfold keeps at hk
        simp only [decide_eq_true_iff] at hk
        rcases hk with h0 | hk
        · subst h0; simp at hy
        · obtain ⟨z, hz⟩ := get_some (show m - 1 < xs.length by omega)
          have e1 : xs.toArray[m]! = y := by simp [getElem!_def, hx]
          have e2 : xs.toArray[m - 1]! = z := by simp [getElem!_def, hz]
          rw [e1, e2] at hk
          apply hk
          have hm0 : 0 < m := by
            apply Nat.pos_of_ne_zero; intro h0; subst h0; simp at hy
          have hzm : z ∈ xs.take m := by
            apply List.mem_of_getElem? (i := m - 1)
            rw [List.getElem?_take_of_lt (by omega)]; exact hz
          -- y lies at some place up to m - 1, so z is not before y, and y is not before z
          obtain ⟨j, hj, hyj⟩ := List.mem_iff_getElem.1 hy
          have hjm : j < m := by simp at hj; omega
          have hyj' : xs[j]? = some y := by
            rw [← List.getElem?_take_of_lt hjm, List.getElem?_eq_getElem hj, hyj]
          have hzy : ¬ bef z y := by
            by_cases e : j = m - 1
            · subst e
              rw [hyj'] at hz
              rw [← Option.some.inj hz]; exact bef_irrefl y
            · obtain ⟨h1, rfl⟩ := List.getElem?_eq_some_iff.1 hyj'
              obtain ⟨h2, rfl⟩ := List.getElem?_eq_some_iff.1 hz
              exact List.pairwise_iff_getElem.1 hs j (m - 1) h1 h2 (by omega)
          exact (bef_total hzy (hle z hzm)).symm
      refine ⟨List.pairwise_append.2 ⟨h.1, by simp, fun a ha b hb => ?_⟩, fun s => ?_⟩
      · rw [List.mem_singleton] at hb; subst hb
        exact hlt a ((h.2 a).1 ha)
      · show s ∈ compactUpTo xs.toArray m ++ [x] ↔ s ∈ xs.take m ++ [x]
        rw [List.mem_append, List.mem_append, h.2 s]
theorem compact_ord {xs : List S} (hs : xs.Pairwise (fun x y => ¬ bef y x)) : IsOrd (compact xs) (· ∈ xs) := by
  have := compact_take hs xs.length (Nat.le_refl _)
  rwa [List.take_length] at this
theorem compact_length (xs : List S) : (compact xs).length ≤ xs.length := by
  unfold compact compactUpTo
  rw [List.length_map]
  exact Nat.le_trans (List.length_filter_le _ _) (by simp)

/-- The different sets of a list in order. -/
def ordS (xs : List S) : List S := Go.Lib.compact (sortS xs)
theorem ordS_ord (xs : List S) : IsOrd (ordS xs) (· ∈ xs) := (compact_ord (sortS_sorted xs)).congr fun s => (sortS_perm xs).mem_iff (a := s)
theorem ordS_of {xs ys : List S} {p : S → Prop} (h : IsOrd ys p) (k : ∀ s, p s ↔ s ∈ xs) : ys = ordS xs := h.uniq (ordS_ord xs) k

end Go.Proofs.YtgahpgmagfngfaaGreatDoor


/- A map keyed by sets that the call itself makes, told as a function: the look-up, the store, the deletion at the operation. No program. -/
namespace Go.Proofs.YtgahpgmagfngfaaGreatDoor
open Go.RowKit
open Go.Maps (Keyed)

/-- How the elements of a map are told: each x as a value and as a datum; no other value reads so. -/
structure Elems (P : Program) (e : TypeId) (β : Type) where
  el : β → Value
  dl : β → DataW Unit
  to : ∀ x, plainElem P e (el x) = some (dl x, [])
  inv : ∀ v x ps, plainElem P e v = some (dl x, ps) → v = el x
def keyL (s : S) : Lit := .int .u32 (iv s)
theorem keyL_ne {s t : S} (h : s ≠ t) : keyL s ≠ keyL t := fun e => h (iv_inj (by simpa [keyL] using e))
theorem wf_iv (s : S) : (Lit.int .u32 (iv s)).wf = true := WalkArith.wf_u32 (by have := iv_nonneg s; have := iv_lt s; omega)

/-- Block b is a map of at most n entries that gives f s at the key s. -/
def OwnM {P : Program} {e : TypeId} {β : Type} (E : Elems P e β) (z : β) (k : TypeId) (w : World) (b n : Nat) (f : S → β) : Prop :=
  ∃ D : DataW Unit, w.ownsMap P k (plainElem P e) b n D ∧ ∀ s, D.atKey (keyL s) (E.dl z) = E.dl (f s)

/-- f, but y at s. -/
def upd {β : Type} (f : S → β) (s : S) (y : β) : S → β := fun t => if t = s then y else f t
theorem upd_same {β : Type} (f : S → β) (s : S) (y : β) : upd f s y s = y := if_pos rfl
theorem upd_other {β : Type} (f : S → β) {s t : S} (y : β) (h : t ≠ s) : upd f s y t = f t := if_neg h

section
variable {P : Program} {e : TypeId} {β : Type} {E : Elems P e β} {z : β} {k : TypeId} {w : World} {b n : Nat} {f : S → β}
theorem OwnM.made : OwnM E z k (w.alloc (.map #[] 0)) w.heap.size 0 (fun _ => z) :=
  ⟨.map [], World.ownsMap_made w P k _, fun _ => Maps.atKey_of_not_has rfl _⟩
theorem OwnM.kept {w' : World} {row : Option Nat} (h : OwnM E z k w b n f) (hg : w.grownBy w' row) (hne : some b ≠ row) : OwnM E z k w' b n f := by
  obtain ⟨D, h1, h2⟩ := h; exact ⟨D, h1.kept hg hne, h2⟩
theorem OwnM.congr {g : S → β} (h : OwnM E z k w b n f) (hg : ∀ s, f s = g s) : OwnM E z k w b n g := by
  obtain ⟨D, h1, h2⟩ := h; exact ⟨D, h1, fun s => (h2 s).trans (by rw [hg])⟩
theorem OwnM.lt (h : OwnM E z k w b n f) : b < w.heap.size := by obtain ⟨D, h1, _⟩ := h; exact h1.lt
theorem OwnM.below {w' : World} (h : OwnM E z k w b n f) (hb : Below w.heap.size w w') : OwnM E z k w' b n f := by
  obtain ⟨D, ⟨es, c, h1, h3⟩, h2⟩ := h
  exact ⟨D, ⟨es, c, (hb.block b (Array.getElem?_eq_some_iff.1 h1).1).trans h1, h3⟩, h2⟩

theorem wpList_mlook {ops : Array Oper} {rest : List Oper} {o : Oper} {a : Act} {Q : Exit → Act → World → Prop} (hg : o.guard = none) (m x : Operand) (t : TypeId) (hop : o.op = Op.lookup t m x false)
    (hk : P.underlying k = some (.int .u32)) (ht : P.underlying t = some (.map k e)) (hz : (zeroValue e).run P w = .ok (E.el z) w)
    (hm : a.eval m = .map (some b)) (hown : OwnM E z k w b n f) (s : S) (hx : a.eval x = enc s)
    (hK : wpList P ops Q rest (a.put o.dst (E.el (f s))) w) : wpList P ops Q (o :: rest) a w := by
  obtain ⟨D, h1, h2⟩ := hown
  refine wpList_plain hg fun K' hK' => ?_
  obtain ⟨v, ps, hrun, hv⟩ := h1.lookup (Maps.int_keyed hk) ht hz (E.to z) (Maps.keyOf_int_mk hk (wf_iv s))
  rw [show (Lit.int .u32 (iv s)) = keyL s from rfl, h2 s] at hv
  have := E.inv _ _ _ hv
  subst this
  unfold Oper.wp
  simp only [enc] at hx
  simp [execOp, hop, hm, hx, hrun, Result.andThen]
  exact hK' _ _ hK
theorem wpList_mput {ops : Array Oper} {rest : List Oper} {o : Oper} {a : Act} {Q : Exit → Act → World → Prop} (hg : o.guard = none) (m x v : Operand) (t : TypeId) (hop : o.op = Op.mapUpdate t m x v)
    (hk : P.underlying k = some (.int .u32)) (ht : P.underlying t = some (.map k e))
    (hm : a.eval m = .map (some b)) (hown : OwnM E z k w b n f) (hn : n < maxLen) (s : S) (y : β) (hx : a.eval x = enc s) (hv : a.eval v = E.el y)
    (hK : ∀ w', OwnM E z k w' b (n + 1) (upd f s y) → w.grownBy w' (some b) → wpList P ops Q rest (a.put o.dst undef) w') : wpList P ops Q (o :: rest) a w := by
  obtain ⟨D, h1, h2⟩ := hown
  refine wpList_mapUpdate_own w hg m x v t hop k e (Maps.int_keyed hk) ht _ b n D hm h1 hn _ _ (keyL s) hx hv (Maps.keyOf_int_mk hk (wf_iv s)) (E.dl y) [] (E.to y) ?_
  intro w' r1 r2
  refine hK w' ⟨_, r1, fun t => ?_⟩ r2
  by_cases h : t = s
  · subst h
    rw [upd_same]
    exact Maps.atKey_put_same h1.isMap ((Maps.int_keyed hk).key (Maps.keyOf_int_mk hk (wf_iv t))) _ _
  · rw [upd_other _ _ h, Maps.atKey_put_other (keyL_ne h)]
    exact h2 t
end


end Go.Proofs.YtgahpgmagfngfaaGreatDoor


/- A map keyed by sets that the call itself makes, told by a function and by the keys that it has; ranging over it. No program. -/
namespace Go.Proofs.YtgahpgmagfngfaaGreatDoor
open Go.RowKit
open Go.Maps (Keyed)


/-- Block b is a map of at most n entries that gives f s at the key s, and has the keys p. -/
def OwnK {P : Program} {e : TypeId} {β : Type} (E : Elems P e β) (z : β) (k : TypeId) (w : World) (b n : Nat) (f : S → β) (p : S → Bool) : Prop :=
  ∃ D : DataW Unit, w.ownsMap P k (plainElem P e) b n D ∧ (∀ s, D.atKey (keyL s) (E.dl z) = E.dl (f s)) ∧ ∀ s, Maps.has D (keyL s) = p s
/-- A loop over it is under way: left says which keys are still to come, cnt how many. -/
def RngK {P : Program} {e : TypeId} {β : Type} (E : Elems P e β) (z : β) (k : TypeId) (w : World) (b r n : Nat) (f : S → β) (p left : S → Bool) (cnt : Nat) : Prop :=
  ∃ (D : DataW Unit) (lf : Lit → Bool), w.ranges P k (plainElem P e) b r n D lf cnt ∧ (∀ s, D.atKey (keyL s) (E.dl z) = E.dl (f s)) ∧ (∀ s, Maps.has D (keyL s) = p s) ∧ (∀ s, lf (keyL s) = left s) ∧ ∀ s, left s = true → p s = true

section
variable {P : Program} {e : TypeId} {β : Type} {E : Elems P e β} {z : β} {k : TypeId} {w : World} {b r n : Nat} {f : S → β} {p left : S → Bool} {cnt : Nat}
theorem OwnK.made : OwnK E z k (w.alloc (.map #[] 0)) w.heap.size 0 (fun _ => z) (fun _ => false) :=
  ⟨.map [], World.ownsMap_made w P k _, fun _ => Maps.atKey_of_not_has rfl _, fun _ => rfl⟩
theorem OwnK.kept {w' : World} {row : Option Nat} (h : OwnK E z k w b n f p) (hg : w.grownBy w' row) (hne : some b ≠ row) : OwnK E z k w' b n f p := by
  obtain ⟨D, h1, h2⟩ := h; exact ⟨D, h1.kept hg hne, h2⟩
theorem OwnK.congr {g : S → β} {q : S → Bool} (h : OwnK E z k w b n f p) (hg : ∀ s, f s = g s) (hp : ∀ s, p s = q s) : OwnK E z k w b n g q := by
  obtain ⟨D, h1, h2, h3⟩ := h; exact ⟨D, h1, fun s => (h2 s).trans (by rw [hg]), fun s => (h3 s).trans (hp s)⟩
theorem OwnK.mono {n' : Nat} (h : OwnK E z k w b n f p) (hn : n ≤ n') : OwnK E z k w b n' f p := by
  obtain ⟨D, h1, h2⟩ := h; exact ⟨D, h1.mono hn, h2⟩
theorem OwnK.lt (h : OwnK E z k w b n f p) : b < w.heap.size := by obtain ⟨D, h1, _⟩ := h; exact h1.lt
theorem OwnK.below {w' : World} (h : OwnK E z k w b n f p) (hb : Below w.heap.size w w') : OwnK E z k w' b n f p := by
  obtain ⟨D, ⟨es, c, h1, h3⟩, h2⟩ := h
  exact ⟨D, ⟨es, c, (hb.block b (Array.getElem?_eq_some_iff.1 h1).1).trans h1, h3⟩, h2⟩
theorem RngK.owns (h : RngK E z k w b r n f p left cnt) : OwnK E z k w b n f p := by
  obtain ⟨D, lf, h1, h2, h3, _⟩ := h; exact ⟨D, h1.owns, h2, h3⟩
theorem RngK.lt (h : RngK E z k w b r n f p left cnt) : r < w.heap.size := by
  obtain ⟨D, lf, h1, _⟩ := h; exact h1.lt
theorem RngK.kept {w' : World} {row : Option Nat} (h : RngK E z k w b r n f p left cnt) (hg : w.grownBy w' row) (hb : some b ≠ row) (hr : some r ≠ row) : RngK E z k w' b r n f p left cnt := by
  obtain ⟨D, lf, h1, h2⟩ := h; exact ⟨D, lf, h1.kept hg hb hr, h2⟩
theorem grown_of_below {w w' : World} (h : Below w.heap.size w w') : w.grownBy w' none := ⟨h.os, h.tape, h.output, h.size, fun i hi _ => h.block i hi⟩
theorem RngK.below {w' : World} (h : RngK E z k w b r n f p left cnt) (hb : Below w.heap.size w w') : RngK E z k w' b r n f p left cnt := h.kept (grown_of_below hb) (by simp) (by simp)

end

/-- What a loop over the keys has collected. -/
structure Coll (p left : S → Bool) (ps : List S) : Prop where
  nodup : ps.Nodup
  mem : ∀ s, s ∈ ps ↔ p s = true ∧ left s = false
theorem Coll.start (p : S → Bool) : Coll p p [] := ⟨List.nodup_nil, fun s => by cases p s <;> simp⟩
theorem Coll.next {p left : S → Bool} {ps : List S} {s : S} (h : Coll p left ps) (hl : left s = true) (hp : p s = true) : Coll p (fun t => left t && !decide (t = s)) (ps ++ [s]) := by
  have hn : s ∉ ps := fun hm => by have := ((h.mem s).1 hm).2; rw [hl] at this; cases this
  refine ⟨by rw [List.nodup_append]; exact ⟨h.nodup, by simp, fun a ha b hb e => by rw [List.mem_singleton] at hb; subst hb; subst e; exact hn ha⟩, fun t => ?_⟩
  rw [List.mem_append, h.mem, List.mem_singleton]
  by_cases e : t = s
  · subst e; simp [hp, hl]
  · simp [e]
theorem Coll.done {p left : S → Bool} {ps : List S} (h : Coll p left ps) (hl : ∀ s, left s = false) (s : S) : s ∈ ps ↔ p s = true := by rw [h.mem]; simp [hl]
/-- .. of which only some were kept. -/
structure CollF (p left q : S → Bool) (ps : List S) : Prop where
  nodup : ps.Nodup
  mem : ∀ s, s ∈ ps ↔ (p s = true ∧ left s = false) ∧ q s = true
theorem CollF.start (p q : S → Bool) : CollF p p q [] := ⟨List.nodup_nil, fun s => by cases p s <;> simp⟩
theorem CollF.no {p left q : S → Bool} {ps : List S} {s : S} (h : CollF p left q ps) (hq : q s = false) : CollF p (fun t => left t && !decide (t = s)) q ps := by
  refine ⟨h.nodup, fun t => ?_⟩
  rw [h.mem]
  by_cases e : t = s
  · subst e; simp [hq]
  · simp [e]
theorem CollF.done {p left q : S → Bool} {ps : List S} (h : CollF p left q ps) (hl : ∀ s, left s = false) (s : S) : s ∈ ps ↔ p s = true ∧ q s = true := by rw [h.mem]; simp [hl]

/-- Elements that are counts. -/
def capN (n : Nat) : Int := if n < 4611686018427387904 then n else 0
theorem capN_wf (n : Nat) : (Lit.int .i64 (capN n)).wf = true := by
  refine WalkArith.wf_i64 ?_
  unfold capN
  split <;> omega
def cntElems (P : Program) (e : TypeId) (he : P.underlying e = some (.int .i64)) : Elems P e Nat where
  el n := .int .i64 (capN n)
  dl n := .lit (.int .i64 (capN n))
  to n := plainElem_int he (capN_wf n)
  inv v x ps h := by
    obtain ⟨a, rfl, hz, _⟩ := plainElem_int_inv he h
    simp at hz
    rw [hz.1]

end Go.Proofs.YtgahpgmagfngfaaGreatDoor


/- Plain laws of chapter 27: the agree sets of a table, their counts, the maximal and the minimal ones. No program. -/
namespace Go.Proofs.YtgahpgmagfngfaaGreatDoor

abbrev pairS (r q : Row3) : S := rowsS r.2.2 q.2.2 r.2.2.length
theorem pairsS_length : ∀ rs : List Row3, (pairsS rs).length ≤ rs.length * rs.length := by
  intro rs
  induction rs with
  | nil => simp [pairsS]
  | cons r rs ih =>
    simp only [pairsS, List.length_append, List.length_map, List.length_cons]
    have : (rs.length + 1) * (rs.length + 1) = rs.length * rs.length + 2 * rs.length + 1 := by rw [Nat.add_mul, Nat.mul_add]; omega
    omega


theorem ordS_nodup (ps : List S) : (ordS ps).Nodup := (ordS_ord ps).1.imp fun h e => by subst e; exact bef_irrefl _ h
theorem ord_nodup {ps : List S} {p : S → Prop} (h : IsOrd ps p) : ps.Nodup := h.1.imp fun h e => by subst e; exact bef_irrefl _ h
theorem ordS_congr {a b : List S} (h : ∀ s, s ∈ a ↔ s ∈ b) : ordS a = ordS b := (ordS_ord a).uniq (ordS_ord b) h
theorem nodup_length : ∀ {a b : List S}, a.Nodup → (∀ s ∈ a, s ∈ b) → a.length ≤ b.length := by
  intro a
  induction a with
  | nil => intro b _ _; simp
  | cons x a ih =>
    intro b h hs
    obtain ⟨h1, h2⟩ := List.nodup_cons.1 h
    have := ih (b := b.erase x) h2 fun s hm => (List.mem_erase_of_ne (fun e => h1 (by rw [← e]; exact hm))).2 (hs s (List.mem_cons_of_mem _ hm))
    have hx := List.length_erase_of_mem (hs x (by simp))
    have hp := List.length_pos_of_mem (hs x (by simp))
    simp only [List.length_cons]; omega
theorem ordS_length (ps : List S) : (ordS ps).length ≤ ps.length := nodup_length (ordS_nodup ps) fun s hs => ((ordS_ord ps).2 s).1 hs

/-- The different sets of a list to which no other one stands in the relation p. -/
def keepS (p : S → S → Bool) (xs : List S) : List S := (ordS xs).filter fun a => !(ordS xs).any fun b => a != b && p a b
def upR (a b : S) : Bool := a &&& ~~~ b == 0#32
def downR (a b : S) : Bool := b &&& ~~~ a == 0#32
def isMax (l : List S) (s : S) : Prop := s ∈ l ∧ ∀ f ∈ l, sub s f → f = s
theorem keepS_ord (p : S → S → Bool) (xs : List S) : IsOrd (keepS p xs) (fun s => s ∈ xs ∧ ∀ f ∈ xs, p s f = true → f = s) := by
  refine ⟨(ordS_ord xs).1.filter _, fun s => ?_⟩
  unfold keepS
  rw [List.mem_filter, (ordS_ord xs).2 s]
  refine and_congr Iff.rfl ?_
  rw [Bool.not_eq_true', List.any_eq_false]
  constructor
  · intro h f hf hp
    have := h f (((ordS_ord xs).2 f).2 hf)
    simp only [Bool.and_eq_true, bne_iff_ne, ne_eq, not_and, hp, not_true_eq_false, imp_false, Decidable.not_not] at this
    exact this.symm
  · intro h f hf
    simp only [Bool.and_eq_true, bne_iff_ne, ne_eq, not_and]
    intro hne hp
    exact hne (h f (((ordS_ord xs).2 f).1 hf) hp).symm
theorem max_ord (xs : List S) : IsOrd (keepS upR xs) (isMax xs) := (keepS_ord upR xs).congr fun s => by
  unfold isMax upR
  simp only [beq_iff_eq, andNot_zero_iff]
theorem min_ord (xs : List S) : IsOrd (keepS downR xs) (isMin xs) := (keepS_ord downR xs).congr fun s => by
  unfold isMin downR
  simp only [beq_iff_eq, andNot_zero_iff]
theorem keepS_congr (p : S → S → Bool) {a b : List S} (h : ∀ s, s ∈ a ↔ s ∈ b) : keepS p a = keepS p b := by unfold keepS; rw [ordS_congr h]
theorem keepS_length (p : S → S → Bool) (xs : List S) : (keepS p xs).length ≤ xs.length := Nat.le_trans (List.length_filter_le _ _) (ordS_length xs)


/-- The agree sets without an attribute; what they leave of the others. -/
def withoutS (ps : List S) (a : Nat) : List S := ps.filter fun s => !s.getLsbD a
theorem mem_withoutS {ps : List S} {a : Nat} {s : S} : s ∈ withoutS ps a ↔ s ∈ ps ∧ s.getLsbD a = false := by simp [withoutS]

end Go.Proofs.YtgahpgmagfngfaaGreatDoor


/- The walk of drossref27.Pairs. -/
namespace Go.Proofs.YtgahpgmagfngfaaGreatDoor
open Go.RowKit Go.Shelf



end Go.Proofs.YtgahpgmagfngfaaGreatDoor


/- The walk of agree.counts: a map from the agree sets to the numbers of their pairs. -/
namespace Go.Proofs.YtgahpgmagfngfaaGreatDoor
open Go.RowKit

theorem undI64 : Tryz.prog.underlying 2 = some (.int .i64) := by kernel_rfl
abbrev OwnC := OwnK (cntElems Tryz.prog 2 undI64) 0 55
abbrev RngC := RngK (cntElems Tryz.prog 2 undI64) 0 55


end Go.Proofs.YtgahpgmagfngfaaGreatDoor

