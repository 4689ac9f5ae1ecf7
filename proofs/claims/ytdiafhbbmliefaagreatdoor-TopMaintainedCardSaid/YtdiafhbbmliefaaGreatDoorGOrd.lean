/- Texts that belong together, in one file. -/
import Derived.Test.YtdiafhbbmliefaaGreatDoorGPlain
import Derived.Lib.SlicesCompact
import Derived.Test.YtdiafhbbmliefaaGreatDoorBase
import Derived.Maps.OwnOps
import Derived.Maps.OwnSet
import Derived.Maps.RangeWalk
import Derived.Maps.Views
import Derived.Test.YtdiafhbbmliefaaGreatDoorGTabB
import Derived.Deep.RegionHeld3
/- The different sets of a list in order, plainly. No program. -/
namespace Go.Proofs.YtdiafhbbmliefaaGreatDoor
open Go.RowKit Go.Lib

theorem compact_next {xs : List S} {m : Nat} {x : S} (hx : xs[m]? = some x) : compactUpTo xs.toArray (m + 1) = compactUpTo xs.toArray m ++ (if keeps xs.toArray m then [x] else []) := by
  rw [compactUpTo_succ]
  have : xs.toArray[m]! = x := by simp [getElem!_def, hx]
  rw [this]
theorem compact_take {xs : List S} (hs : xs.Pairwise (fun x y => ¬ bef y x)) : ∀ m, m ≤ xs.length → IsOrd (compactUpTo xs.toArray m) (· ∈ xs.take m) := by
  intro m
  induction m with
  | zero => intro _; exact ⟨by simp [compactUpTo], fun s => by simp [compactUpTo]⟩
  | succ m ih =>
    intro hm
    obtain ⟨x, hx⟩ := get_some (show m < xs.length by omega)
    have h := ih (by omega)
    rw [compact_next hx, take_next hx]
    have hle : ∀ y ∈ xs.take m, ¬ bef x y := by
      intro y hy
      have hp : (xs.take m ++ [x]).Pairwise (fun x y => ¬ bef y x) := by
        rw [← take_next hx]; exact hs.sublist (List.take_sublist _ _)
      exact (List.pairwise_append.1 hp).2.2 y hy x (by simp)
    cases hk : keeps xs.toArray m with
    | false =>
      rw [if_neg (by simp), List.append_nil]
      refine h.congr fun s => ?_
      rw [List.mem_append, List.mem_singleton]
      refine ⟨.inl, fun h' => h'.elim id fun e => ?_⟩
      unfold keeps at hk
      simp only [decide_eq_false_iff_not, not_or, ne_eq, Classical.not_not] at hk
      obtain ⟨y, hy⟩ := get_some (show m - 1 < xs.length by omega)
      have e1 : xs.toArray[m]! = x := by simp [getElem!_def, hx]
      have e2 : xs.toArray[m - 1]! = y := by simp [getElem!_def, hy]
      rw [e1, e2] at hk
      rw [e, hk.2]
      apply List.mem_of_getElem? (i := m - 1)
      rw [List.getElem?_take_of_lt (by omega)]; exact hy
    | true =>
      rw [if_pos rfl]
      have hlt : ∀ y ∈ xs.take m, bef y x := by
        intro y hy
        apply Classical.byContradiction
        intro hn
        have e : y = x := bef_total hn (hle y hy)
        subst e
        unfold keeps at hk
        simp only [decide_eq_true_iff] at hk
        rcases hk with h0 | hk
        · subst h0; simp at hy
        · obtain ⟨z, hz⟩ := get_some (show m - 1 < xs.length by omega)
          have e1 : xs.toArray[m]! = y := by simp [getElem!_def, hx]
          have e2 : xs.toArray[m - 1]! = z := by simp [getElem!_def, hz]
          rw [e1, e2] at hk
          apply hk
          have hm0 : 0 < m := by
            apply Nat.pos_of_ne_zero; intro h0; subst h0; simp at hy
          have hzm : z ∈ xs.take m := by
            apply List.mem_of_getElem? (i := m - 1)
            rw [List.getElem?_take_of_lt (by omega)]; exact hz
          -- y lies at some place up to m - 1, so z is not before y, and y is not before z
          obtain ⟨j, hj, hyj⟩ := List.mem_iff_getElem.1 hy
          have hjm : j < m := by simp at hj; omega
          have hyj' : xs[j]? = some y := by
            rw [← List.getElem?_take_of_lt hjm, List.getElem?_eq_getElem hj, hyj]
          have hzy : ¬ bef z y := by
            by_cases e : j = m - 1
            · subst e
              rw [hyj'] at hz
              rw [← Option.some.inj hz]; exact bef_irrefl y
            · obtain ⟨h1, rfl⟩ := List.getElem?_eq_some_iff.1 hyj'
              obtain ⟨h2, rfl⟩ := List.getElem?_eq_some_iff.1 hz
              exact List.pairwise_iff_getElem.1 hs j (m - 1) h1 h2 (by omega)
          exact (bef_total hzy (hle z hzm)).symm
      refine ⟨List.pairwise_append.2 ⟨h.1, by simp, fun a ha b hb => ?_⟩, fun s => ?_⟩
      · rw [List.mem_singleton] at hb; subst hb
        exact hlt a ((h.2 a).1 ha)
      · show s ∈ compactUpTo xs.toArray m ++ [x] ↔ s ∈ xs.take m ++ [x]
        rw [List.mem_append, List.mem_append, h.2 s]
theorem compact_ord {xs : List S} (hs : xs.Pairwise (fun x y => ¬ bef y x)) : IsOrd (compact xs) (· ∈ xs) := by
  have := compact_take hs xs.length (Nat.le_refl _)
  rwa [List.take_length] at this
theorem compact_length (xs : List S) : (compact xs).length ≤ xs.length := by
  unfold compact compactUpTo
  rw [List.length_map]
  exact Nat.le_trans (List.length_filter_le _ _) (by simp)

/-- The different sets of a list in order. -/
def ordS (xs : List S) : List S := Go.Lib.compact (sortS xs)
theorem ordS_ord (xs : List S) : IsOrd (ordS xs) (· ∈ xs) := (compact_ord (sortS_sorted xs)).congr fun s => (sortS_perm xs).mem_iff (a := s)
theorem ordS_of {xs ys : List S} {p : S → Prop} (h : IsOrd ys p) (k : ∀ s, p s ↔ s ∈ xs) : ys = ordS xs := h.uniq (ordS_ord xs) k

end Go.Proofs.YtdiafhbbmliefaaGreatDoor


/- A map keyed by sets that the call itself makes, told as a function: the look-up, the store, the deletion at the operation. No program. -/
namespace Go.Proofs.YtdiafhbbmliefaaGreatDoor
open Go.RowKit
open Go.Maps (Keyed)

/-- How the elements of a map are told: each x as a value and as a datum; no other value reads so. -/
structure Elems (P : Program) (e : TypeId) (β : Type) where
  el : β → Value
  dl : β → DataW Unit
  to : ∀ x, plainElem P e (el x) = some (dl x, [])
  inv : ∀ v x ps, plainElem P e v = some (dl x, ps) → v = el x
def keyL (s : S) : Lit := .int .u32 (iv s)
theorem keyL_ne {s t : S} (h : s ≠ t) : keyL s ≠ keyL t := fun e => h (iv_inj (by simpa [keyL] using e))
theorem wf_iv (s : S) : (Lit.int .u32 (iv s)).wf = true := WalkArith.wf_u32 (by have := iv_nonneg s; have := iv_lt s; omega)

/-- Block b is a map of at most n entries that gives f s at the key s. -/
def OwnM {P : Program} {e : TypeId} {β : Type} (E : Elems P e β) (z : β) (k : TypeId) (w : World) (b n : Nat) (f : S → β) : Prop :=
  ∃ D : DataW Unit, w.ownsMap P k (plainElem P e) b n D ∧ ∀ s, D.atKey (keyL s) (E.dl z) = E.dl (f s)

/-- f, but y at s. -/
def upd {β : Type} (f : S → β) (s : S) (y : β) : S → β := fun t => if t = s then y else f t
theorem upd_same {β : Type} (f : S → β) (s : S) (y : β) : upd f s y s = y := if_pos rfl
theorem upd_other {β : Type} (f : S → β) {s t : S} (y : β) (h : t ≠ s) : upd f s y t = f t := if_neg h

section
variable {P : Program} {e : TypeId} {β : Type} {E : Elems P e β} {z : β} {k : TypeId} {w : World} {b n : Nat} {f : S → β}
theorem OwnM.made : OwnM E z k (w.alloc (.map #[] 0)) w.heap.size 0 (fun _ => z) :=
  ⟨.map [], World.ownsMap_made w P k _, fun _ => Maps.atKey_of_not_has rfl _⟩
theorem OwnM.kept {w' : World} {row : Option Nat} (h : OwnM E z k w b n f) (hg : w.grownBy w' row) (hne : some b ≠ row) : OwnM E z k w' b n f := by
  obtain ⟨D, h1, h2⟩ := h; exact ⟨D, h1.kept hg hne, h2⟩
theorem OwnM.congr {g : S → β} (h : OwnM E z k w b n f) (hg : ∀ s, f s = g s) : OwnM E z k w b n g := by
  obtain ⟨D, h1, h2⟩ := h; exact ⟨D, h1, fun s => (h2 s).trans (by rw [hg])⟩
theorem OwnM.lt (h : OwnM E z k w b n f) : b < w.heap.size := by obtain ⟨D, h1, _⟩ := h; exact h1.lt
theorem OwnM.below {w' : World} (h : OwnM E z k w b n f) (hb : Below w.heap.size w w') : OwnM E z k w' b n f := by
  obtain ⟨D, ⟨es, c, h1, h3⟩, h2⟩ := h
  exact ⟨D, ⟨es, c, (hb.block b (Array.getElem?_eq_some_iff.1 h1).1).trans h1, h3⟩, h2⟩

theorem wpList_mlook {ops : Array Oper} {rest : List Oper} {o : Oper} {a : Act} {Q : Exit → Act → World → Prop} (hg : o.guard = none) (m x : Operand) (t : TypeId) (hop : o.op = Op.lookup t m x false)
    (hk : P.underlying k = some (.int .u32)) (ht : P.underlying t = some (.map k e)) (hz : (zeroValue e).run P w = .ok (E.el z) w)
    (hm : a.eval m = .map (some b)) (hown : OwnM E z k w b n f) (s : S) (hx : a.eval x = enc s)
    (hK : wpList P ops Q rest (a.put o.dst (E.el (f s))) w) : wpList P ops Q (o :: rest) a w := by
  obtain ⟨D, h1, h2⟩ := hown
  refine wpList_plain hg fun K' hK' => ?_
  obtain ⟨v, ps, hrun, hv⟩ := h1.lookup (Maps.int_keyed hk) ht hz (E.to z) (Maps.keyOf_int_mk hk (wf_iv s))
  rw [show (Lit.int .u32 (iv s)) = keyL s from rfl, h2 s] at hv
  have := E.inv _ _ _ hv
  subst this
  unfold Oper.wp
  simp only [enc] at hx
  simp [execOp, hop, hm, hx, hrun, Result.andThen]
  exact hK' _ _ hK
theorem wpList_mput {ops : Array Oper} {rest : List Oper} {o : Oper} {a : Act} {Q : Exit → Act → World → Prop} (hg : o.guard = none) (m x v : Operand) (t : TypeId) (hop : o.op = Op.mapUpdate t m x v)
    (hk : P.underlying k = some (.int .u32)) (ht : P.underlying t = some (.map k e))
    (hm : a.eval m = .map (some b)) (hown : OwnM E z k w b n f) (hn : n < maxLen) (s : S) (y : β) (hx : a.eval x = enc s) (hv : a.eval v = E.el y)
    (hK : ∀ w', OwnM E z k w' b (n + 1) (upd f s y) → w.grownBy w' (some b) → wpList P ops Q rest (a.put o.dst undef) w') : wpList P ops Q (o :: rest) a w := by
  obtain ⟨D, h1, h2⟩ := hown
  refine wpList_mapUpdate_own w hg m x v t hop k e (Maps.int_keyed hk) ht _ b n D hm h1 hn _ _ (keyL s) hx hv (Maps.keyOf_int_mk hk (wf_iv s)) (E.dl y) [] (E.to y) ?_
  intro w' r1 r2
  refine hK w' ⟨_, r1, fun t => ?_⟩ r2
  by_cases h : t = s
  · subst h
    rw [upd_same]
    exact Maps.atKey_put_same h1.isMap ((Maps.int_keyed hk).key (Maps.keyOf_int_mk hk (wf_iv t))) _ _
  · rw [upd_other _ _ h, Maps.atKey_put_other (keyL_ne h)]
    exact h2 t
end


end Go.Proofs.YtdiafhbbmliefaaGreatDoor


/- A map keyed by sets that the call itself makes, told by a function and by the keys that it has; ranging over it. No program. -/
namespace Go.Proofs.YtdiafhbbmliefaaGreatDoor
open Go.RowKit
open Go.Maps (Keyed)

theorem keyL_key (s : S) : WideAt.IsKeyLit (keyL s) := trivial
theorem keyL_same (s t : S) : (keyL s).sameKey (keyL t) = decide (s = t) := by
  by_cases h : s = t
  · subst h; rw [WideAt.sameKey_self (keyL_key s)]; simp
  · rw [Maps.sameKey_ne (keyL_ne h)]; simp [h]

/-- Block b is a map of at most n entries that gives f s at the key s, and has the keys p. -/
def OwnK {P : Program} {e : TypeId} {β : Type} (E : Elems P e β) (z : β) (k : TypeId) (w : World) (b n : Nat) (f : S → β) (p : S → Bool) : Prop :=
  ∃ D : DataW Unit, w.ownsMap P k (plainElem P e) b n D ∧ (∀ s, D.atKey (keyL s) (E.dl z) = E.dl (f s)) ∧ ∀ s, Maps.has D (keyL s) = p s
/-- A loop over it is under way: left says which keys are still to come, cnt how many. -/
def RngK {P : Program} {e : TypeId} {β : Type} (E : Elems P e β) (z : β) (k : TypeId) (w : World) (b r n : Nat) (f : S → β) (p left : S → Bool) (cnt : Nat) : Prop :=
  ∃ (D : DataW Unit) (lf : Lit → Bool), w.ranges P k (plainElem P e) b r n D lf cnt ∧ (∀ s, D.atKey (keyL s) (E.dl z) = E.dl (f s)) ∧ (∀ s, Maps.has D (keyL s) = p s) ∧ (∀ s, lf (keyL s) = left s) ∧ ∀ s, left s = true → p s = true

section
variable {P : Program} {e : TypeId} {β : Type} {E : Elems P e β} {z : β} {k : TypeId} {w : World} {b r n : Nat} {f : S → β} {p left : S → Bool} {cnt : Nat}
theorem OwnK.made : OwnK E z k (w.alloc (.map #[] 0)) w.heap.size 0 (fun _ => z) (fun _ => false) :=
  ⟨.map [], World.ownsMap_made w P k _, fun _ => Maps.atKey_of_not_has rfl _, fun _ => rfl⟩
theorem OwnK.kept {w' : World} {row : Option Nat} (h : OwnK E z k w b n f p) (hg : w.grownBy w' row) (hne : some b ≠ row) : OwnK E z k w' b n f p := by
  obtain ⟨D, h1, h2⟩ := h; exact ⟨D, h1.kept hg hne, h2⟩
theorem OwnK.congr {g : S → β} {q : S → Bool} (h : OwnK E z k w b n f p) (hg : ∀ s, f s = g s) (hp : ∀ s, p s = q s) : OwnK E z k w b n g q := by
  obtain ⟨D, h1, h2, h3⟩ := h; exact ⟨D, h1, fun s => (h2 s).trans (by rw [hg]), fun s => (h3 s).trans (hp s)⟩
theorem OwnK.mono {n' : Nat} (h : OwnK E z k w b n f p) (hn : n ≤ n') : OwnK E z k w b n' f p := by
  obtain ⟨D, h1, h2⟩ := h; exact ⟨D, h1.mono hn, h2⟩
theorem OwnK.lt (h : OwnK E z k w b n f p) : b < w.heap.size := by obtain ⟨D, h1, _⟩ := h; exact h1.lt
theorem OwnK.below {w' : World} (h : OwnK E z k w b n f p) (hb : Below w.heap.size w w') : OwnK E z k w' b n f p := by
  obtain ⟨D, ⟨es, c, h1, h3⟩, h2⟩ := h
  exact ⟨D, ⟨es, c, (hb.block b (Array.getElem?_eq_some_iff.1 h1).1).trans h1, h3⟩, h2⟩
theorem OwnK.toM (h : OwnK E z k w b n f p) : OwnM E z k w b n f := by
  obtain ⟨D, h1, h2, _⟩ := h; exact ⟨D, h1, h2⟩
theorem RngK.owns (h : RngK E z k w b r n f p left cnt) : OwnK E z k w b n f p := by
  obtain ⟨D, lf, h1, h2, h3, _⟩ := h; exact ⟨D, h1.owns, h2, h3⟩
theorem RngK.left_eq (h : RngK E z k w b r n f p left cnt) : w.rangeLeft b r = cnt := by
  obtain ⟨D, lf, h1, _⟩ := h; exact h1.left_eq
theorem RngK.lt (h : RngK E z k w b r n f p left cnt) : r < w.heap.size := by
  obtain ⟨D, lf, h1, _⟩ := h; exact h1.lt
theorem RngK.kept {w' : World} {row : Option Nat} (h : RngK E z k w b r n f p left cnt) (hg : w.grownBy w' row) (hb : some b ≠ row) (hr : some r ≠ row) : RngK E z k w' b r n f p left cnt := by
  obtain ⟨D, lf, h1, h2⟩ := h; exact ⟨D, lf, h1.kept hg hb hr, h2⟩
theorem grown_of_below {w w' : World} (h : Below w.heap.size w w') : w.grownBy w' none := ⟨h.os, h.tape, h.output, h.size, fun i hi _ => h.block i hi⟩
theorem RngK.below {w' : World} (h : RngK E z k w b r n f p left cnt) (hb : Below w.heap.size w w') : RngK E z k w' b r n f p left cnt := h.kept (grown_of_below hb) (by simp) (by simp)

theorem wpList_kput {ops : Array Oper} {rest : List Oper} {o : Oper} {a : Act} {Q : Exit → Act → World → Prop} (hg : o.guard = none) (m x v : Operand) (t : TypeId) (hop : o.op = Op.mapUpdate t m x v)
    (hk : P.underlying k = some (.int .u32)) (ht : P.underlying t = some (.map k e))
    (hm : a.eval m = .map (some b)) (hown : OwnK E z k w b n f p) (hn : n < maxLen) (s : S) (y : β) (hx : a.eval x = enc s) (hv : a.eval v = E.el y)
    (hK : ∀ w', OwnK E z k w' b (n + 1) (upd f s y) (upd p s true) → w.grownBy w' (some b) → wpList P ops Q rest (a.put o.dst undef) w') : wpList P ops Q (o :: rest) a w := by
  obtain ⟨D, h1, h2, h3⟩ := hown
  refine wpList_mapUpdate_own w hg m x v t hop k e (Maps.int_keyed hk) ht _ b n D hm h1 hn _ _ (keyL s) hx hv (Maps.keyOf_int_mk hk (wf_iv s)) (E.dl y) [] (E.to y) ?_
  intro w' r1 r2
  refine hK w' ⟨_, r1, fun t => ?_, fun t => ?_⟩ r2
  · by_cases h : t = s
    · subst h
      rw [upd_same]
      exact Maps.atKey_put_same h1.isMap ((Maps.int_keyed hk).key (Maps.keyOf_int_mk hk (wf_iv t))) _ _
    · rw [upd_other _ _ h, Maps.atKey_put_other (keyL_ne h)]
      exact h2 t
  · by_cases h : t = s
    · subst h
      rw [upd_same]
      exact Maps.has_put_same h1.isMap ((Maps.int_keyed hk).key (Maps.keyOf_int_mk hk (wf_iv t))) _
    · rw [upd_other _ _ h, Maps.has_put_other (keyL_ne h)]
      exact h3 t
theorem wpList_krange {ops : Array Oper} {rest : List Oper} {o : Oper} {a : Act} {Q : Exit → Act → World → Prop} (hg : o.guard = none) (m : Operand) (t : TypeId) (hop : o.op = Op.range t m)
    (hk : P.underlying k = some (.int .u32)) (ht : P.underlying t = some (.map k e))
    (hm : a.eval m = .map (some b)) (hown : OwnK E z k w b n f p)
    (hK : ∀ w' cnt, RngK E z k w' b w.heap.size n f p p cnt → cnt ≤ n → Below w.heap.size w w' → w'.heap.size = w.heap.size + 1 → wpList P ops Q rest (a.put o.dst (.pointer (some ⟨w.heap.size, 0, none⟩))) w') : wpList P ops Q (o :: rest) a w := by
  obtain ⟨D, h1, h2, h3⟩ := hown
  refine wpList_range_own w hg m t hop k e (Maps.int_keyed hk) ht _ b n D hm h1 ?_
  intro w' r1 r2 r3
  exact hK w' _ ⟨D, _, r1, h2, h3, h3, fun _ h => h⟩ h1.size_le ((Below.refl _ w).grown r2 (Nat.le_refl _) (fun j hj => by cases hj)) r3
theorem wpList_knext {ops : Array Oper} {rest : List Oper} {o : Oper} {a : Act} {Q : Exit → Act → World → Prop} (hg : o.guard = none) (it : Operand) (hop : o.op = Op.next it false)
    (hk : P.underlying k = some (.int .u32))
    (hit : a.eval it = .pointer (some ⟨r, 0, none⟩)) (h : RngK E z k w b r n f p left cnt)
    (hDone : cnt = 0 → (∀ s, left s = false) → wpList P ops Q rest (a.put o.dst (.tuple #[.bool false])) w)
    (hMore : ∀ (s : S) (c : Value) (w' : World) (cnt' : Nat), left s = true → p s = true → RngK E z k w' b r n f p (fun t => left t && !decide (t = s)) cnt' → cnt' < cnt → w.grownBy w' (some r) → w'.heap.size = w.heap.size →
      (Instr.entry (.pointer (some ⟨r, 0, none⟩))).run P w' = .ok (.tuple #[.int .u32 (iv s), c]) w' → wpList P ops Q rest (a.put o.dst (.tuple #[.bool true, .int .u32 (iv s), c])) w') : wpList P ops Q (o :: rest) a w := by
  obtain ⟨D, lf, h1, h2, h3, h4, h5⟩ := h
  refine wpList_next_ranges w hg it hop k (Maps.int_keyed hk) (plainElem P e) enc (id : Value → Value) ?_ (fun v _ _ => ⟨v, rfl⟩) b r n D lf cnt hit h1 ?_ ?_
  · intro key kl hkey
    obtain ⟨x, rfl, _, hw⟩ := Maps.keyOf_int_inv hk hkey
    have hx : 0 ≤ x ∧ x < 4294967296 := by
      simp [Lit.wf, IntKind.min, IntKind.max, IntKind.signed, IntKind.bits] at hw
      exact ⟨by omega, by omega⟩
    exact ⟨BitVec.ofInt 32 x, by rw [enc_eq, iv_ofInt x hx.1 hx.2]⟩
  · intro h0 hl
    exact hDone h0 fun s => by rw [← h4, hl]
  · intro s c kl y w' cnt' hkey hl _ _ hr hlt hgr hsz hen
    obtain rfl : kl = keyL s := by
      have := Maps.keyOf_int_mk hk (wf_iv s)
      rw [enc_eq] at hkey
      rw [this] at hkey
      exact (Option.some.inj hkey).symm
    rw [h4] at hl
    exact hMore s c w' cnt' hl (h5 s hl) ⟨D, _, hr, h2, h3, fun t => by rw [h4, keyL_same], fun t ht => h5 t (by simp at ht; exact ht.1)⟩ hlt hgr hsz hen
end

/-- What a loop over the keys has collected. -/
structure Coll (p left : S → Bool) (ps : List S) : Prop where
  nodup : ps.Nodup
  mem : ∀ s, s ∈ ps ↔ p s = true ∧ left s = false
theorem Coll.start (p : S → Bool) : Coll p p [] := ⟨List.nodup_nil, fun s => by cases p s <;> simp⟩
theorem Coll.next {p left : S → Bool} {ps : List S} {s : S} (h : Coll p left ps) (hl : left s = true) (hp : p s = true) : Coll p (fun t => left t && !decide (t = s)) (ps ++ [s]) := by
  have hn : s ∉ ps := fun hm => by have := ((h.mem s).1 hm).2; rw [hl] at this; cases this
  refine ⟨by rw [List.nodup_append]; exact ⟨h.nodup, by simp, fun a ha b hb e => by rw [List.mem_singleton] at hb; subst hb; subst e; exact hn ha⟩, fun t => ?_⟩
  rw [List.mem_append, h.mem, List.mem_singleton]
  by_cases e : t = s
  · subst e; simp [hp, hl]
  · simp [e]
theorem Coll.done {p left : S → Bool} {ps : List S} (h : Coll p left ps) (hl : ∀ s, left s = false) (s : S) : s ∈ ps ↔ p s = true := by rw [h.mem]; simp [hl]
/-- .. of which only some were kept. -/
structure CollF (p left q : S → Bool) (ps : List S) : Prop where
  nodup : ps.Nodup
  mem : ∀ s, s ∈ ps ↔ (p s = true ∧ left s = false) ∧ q s = true
theorem CollF.start (p q : S → Bool) : CollF p p q [] := ⟨List.nodup_nil, fun s => by cases p s <;> simp⟩
theorem CollF.no {p left q : S → Bool} {ps : List S} {s : S} (h : CollF p left q ps) (hq : q s = false) : CollF p (fun t => left t && !decide (t = s)) q ps := by
  refine ⟨h.nodup, fun t => ?_⟩
  rw [h.mem]
  by_cases e : t = s
  · subst e; simp [hq]
  · simp [e]
theorem CollF.done {p left q : S → Bool} {ps : List S} (h : CollF p left q ps) (hl : ∀ s, left s = false) (s : S) : s ∈ ps ↔ p s = true ∧ q s = true := by rw [h.mem]; simp [hl]

/-- Elements that are counts. -/
def capN (n : Nat) : Int := if n < 4611686018427387904 then n else 0
theorem capN_eq {n : Nat} (h : n < 4611686018427387904) : capN n = n := if_pos h
theorem capN_wf (n : Nat) : (Lit.int .i64 (capN n)).wf = true := by
  refine WalkArith.wf_i64 ?_
  unfold capN
  split <;> omega
def cntElems (P : Program) (e : TypeId) (he : P.underlying e = some (.int .i64)) : Elems P e Nat where
  el n := .int .i64 (capN n)
  dl n := .lit (.int .i64 (capN n))
  to n := plainElem_int he (capN_wf n)
  inv v x ps h := by
    obtain ⟨a, rfl, hz, _⟩ := plainElem_int_inv he h
    simp at hz
    rw [hz.1]

end Go.Proofs.YtdiafhbbmliefaaGreatDoor


/- Plain laws of chapter 27: the agree sets of a table, their counts, the maximal and the minimal ones. No program. -/
namespace Go.Proofs.YtdiafhbbmliefaaGreatDoor

abbrev pairS (r q : Row3) : S := rowsS r.2.2 q.2.2 r.2.2.length
theorem pairsS_length : ∀ rs : List Row3, (pairsS rs).length ≤ rs.length * rs.length := by
  intro rs
  induction rs with
  | nil => simp [pairsS]
  | cons r rs ih =>
    simp only [pairsS, List.length_append, List.length_map, List.length_cons]
    have : (rs.length + 1) * (rs.length + 1) = rs.length * rs.length + 2 * rs.length + 1 := by rw [Nat.add_mul, Nat.mul_add]; omega
    omega
/-- The pairs, each new row with those ahead of it. -/
theorem pairsS_snoc (l : List Row3) (r : Row3) : (pairsS (l ++ [r])).Perm (pairsS l ++ l.map fun q => pairS q r) := by
  induction l with
  | nil => exact List.Perm.refl _
  | cons q l ih =>
    show (((l ++ [r]).map (pairS q)) ++ pairsS (l ++ [r])).Perm (((l.map (pairS q)) ++ pairsS l) ++ (pairS q r :: l.map fun q => pairS q r))
    rw [List.map_append, List.append_assoc, List.append_assoc]
    refine List.Perm.append_left _ ?_
    refine (List.Perm.cons _ ih).trans ?_
    exact List.perm_middle.symm

def cntF (ps : List S) (s : S) : Nat := ps.count s
def memB (ps : List S) (s : S) : Bool := decide (s ∈ ps)
theorem count_upd (ps : List S) (s t : S) : upd (cntF ps) s (cntF ps s + 1) t = cntF (ps ++ [s]) t := by
  unfold cntF
  rw [List.count_append]
  by_cases h : t = s
  · subst h; rw [upd_same]; simp
  · rw [upd_other _ _ h]; simp [Ne.symm h]
theorem has_upd (ps : List S) (s t : S) : upd (memB ps) s true t = memB (ps ++ [s]) t := by
  unfold memB
  by_cases h : t = s
  · subst h; rw [upd_same]; simp
  · rw [upd_other _ _ h]; simp [h]
theorem count_perm {a b : List S} (h : a.Perm b) (s : S) : cntF a s = cntF b s := h.count_eq s
theorem has_perm {a b : List S} (h : a.Perm b) (s : S) : memB a s = memB b s := by unfold memB; simp [h.mem_iff]

/-- The different sets with their numbers. -/
def cntL (ps : List S) : List (S × Int) := (ordS ps).map fun s => (s, (ps.count s : Int))
theorem ordS_nodup (ps : List S) : (ordS ps).Nodup := (ordS_ord ps).1.imp fun h e => by subst e; exact bef_irrefl _ h
theorem ord_nodup {ps : List S} {p : S → Prop} (h : IsOrd ps p) : ps.Nodup := h.1.imp fun h e => by subst e; exact bef_irrefl _ h
theorem ordS_congr {a b : List S} (h : ∀ s, s ∈ a ↔ s ∈ b) : ordS a = ordS b := (ordS_ord a).uniq (ordS_ord b) h
theorem nodup_length : ∀ {a b : List S}, a.Nodup → (∀ s ∈ a, s ∈ b) → a.length ≤ b.length := by
  intro a
  induction a with
  | nil => intro b _ _; simp
  | cons x a ih =>
    intro b h hs
    obtain ⟨h1, h2⟩ := List.nodup_cons.1 h
    have := ih (b := b.erase x) h2 fun s hm => (List.mem_erase_of_ne (fun e => h1 (by rw [← e]; exact hm))).2 (hs s (List.mem_cons_of_mem _ hm))
    have hx := List.length_erase_of_mem (hs x (by simp))
    have hp := List.length_pos_of_mem (hs x (by simp))
    simp only [List.length_cons]; omega
theorem ordS_length (ps : List S) : (ordS ps).length ≤ ps.length := nodup_length (ordS_nodup ps) fun s hs => ((ordS_ord ps).2 s).1 hs

/-- The different sets of a list to which no other one stands in the relation p. -/
def keepS (p : S → S → Bool) (xs : List S) : List S := (ordS xs).filter fun a => !(ordS xs).any fun b => a != b && p a b
def upR (a b : S) : Bool := a &&& ~~~ b == 0#32
def downR (a b : S) : Bool := b &&& ~~~ a == 0#32
def isMax (l : List S) (s : S) : Prop := s ∈ l ∧ ∀ f ∈ l, sub s f → f = s
theorem keepS_ord (p : S → S → Bool) (xs : List S) : IsOrd (keepS p xs) (fun s => s ∈ xs ∧ ∀ f ∈ xs, p s f = true → f = s) := by
  refine ⟨(ordS_ord xs).1.filter _, fun s => ?_⟩
  unfold keepS
  rw [List.mem_filter, (ordS_ord xs).2 s]
  refine and_congr Iff.rfl ?_
  rw [Bool.not_eq_true', List.any_eq_false]
  constructor
  · intro h f hf hp
    have := h f (((ordS_ord xs).2 f).2 hf)
    simp only [Bool.and_eq_true, bne_iff_ne, ne_eq, not_and, hp, not_true_eq_false, imp_false, Decidable.not_not] at this
    exact this.symm
  · intro h f hf
    simp only [Bool.and_eq_true, bne_iff_ne, ne_eq, not_and]
    intro hne hp
    exact hne (h f (((ordS_ord xs).2 f).1 hf) hp).symm
theorem max_ord (xs : List S) : IsOrd (keepS upR xs) (isMax xs) := (keepS_ord upR xs).congr fun s => by
  unfold isMax upR
  simp only [beq_iff_eq, andNot_zero_iff]
theorem min_ord (xs : List S) : IsOrd (keepS downR xs) (isMin xs) := (keepS_ord downR xs).congr fun s => by
  unfold isMin downR
  simp only [beq_iff_eq, andNot_zero_iff]
theorem keepS_congr (p : S → S → Bool) {a b : List S} (h : ∀ s, s ∈ a ↔ s ∈ b) : keepS p a = keepS p b := by unfold keepS; rw [ordS_congr h]
theorem keepS_length (p : S → S → Bool) (xs : List S) : (keepS p xs).length ≤ xs.length := Nat.le_trans (List.length_filter_le _ _) (ordS_length xs)


/-- The agree sets without an attribute; what they leave of the others. -/
def withoutS (ps : List S) (a : Nat) : List S := ps.filter fun s => !s.getLsbD a
theorem mem_withoutS {ps : List S} {a : Nat} {s : S} : s ∈ withoutS ps a ↔ s ∈ ps ∧ s.getLsbD a = false := by simp [withoutS]

end Go.Proofs.YtdiafhbbmliefaaGreatDoor


/- The walk of drossref27.Pairs. -/
namespace Go.Proofs.YtdiafhbbmliefaaGreatDoor
open Go.RowKit Go.Shelf



end Go.Proofs.YtdiafhbbmliefaaGreatDoor


/- The walk of agree.counts: a map from the agree sets to the numbers of their pairs. -/
namespace Go.Proofs.YtdiafhbbmliefaaGreatDoor
open Go.RowKit

theorem undU32 : Tryz.prog.underlying 67 = some (.int .u32) := by kernel_rfl
theorem undI64 : Tryz.prog.underlying 2 = some (.int .i64) := by kernel_rfl
theorem undMapC : Tryz.prog.underlying 75 = some (.map 67 2) := by kernel_rfl
theorem zeroC (w : World) : (zeroValue 2).run Tryz.prog w = .ok ((cntElems Tryz.prog 2 undI64).el 0) w := by kernel_rfl
abbrev OwnC := OwnK (cntElems Tryz.prog 2 undI64) 0 67
abbrev RngC := RngK (cntElems Tryz.prog 2 undI64) 0 67
theorem pairsS_take {rs : List Row3} {i : Nat} {r : Row3} (h : rs[i]? = some r) {ps : List S} (hp : ps.Perm (pairsS (rs.take i))) : (ps ++ (rs.take i).map fun q => pairS q r).Perm (pairsS (rs.take (i + 1))) := by
  rw [take_next h]
  exact (List.Perm.append_right _ hp).trans (pairsS_snoc _ _).symm

set_option maxHeartbeats 1600000 in
set_option maxRecDepth 100000 in
theorem counts_any (t : T3) (av rv : Value) (w : World) (ht : RdT w av rv t) (hk : tabE2 t = 0) :
    Calls Tryz.prog 41 #[.agg #[.string t.1, av, rv]] w fun e w' => ∃ (b : Nat) (ps : List S), e = .returned (.map (some b)) ∧ OwnC w' b ps.length (cntF ps) (memB ps) ∧ ps.length ≤ 40000 ∧ ps.Perm (pairsS t.2.2) ∧ w.heap.size ≤ b ∧ Below w.heap.size w w' := by
  obtain ⟨nm, ats, rs⟩ := t
  obtain ⟨ha, hr⟩ := ht
  obtain ⟨h16, h200, hrows⟩ := tabE2_ok hk
  replace h16 : ats.length ≤ 16 := h16
  replace h200 : rs.length ≤ 200 := h200
  have HR := hid hrows
  have hmm := @run_makeMap Tryz.prog
  have hb0 := below_alloc w (.cells #[.string nm, av, rv] 48)
  have C3 := hid (fun W h => cells3 (w := w) (a := .string nm) (b := av) (c := rv) (t := 48) W h)
  have R0 := hid (hr.below hb0)
  obtain ⟨w0, hw0⟩ : ∃ w0 : World, w.alloc (.cells #[.string nm, av, rv] 48) = w0 := ⟨_, rfl⟩
  rw [hw0] at hb0 R0 C3
  have B0 := hid hb0
  have W0 := hid hw0
  have hsz0 : w.heap.size ≤ w0.heap.size := hb0.size
  have hs0 : w0.heap.size = w.heap.size + 1 := by rw [← hw0]; simp
  have HS0 := hid hs0
  clear ha hr hb0 hw0 hk hrows hs0
  have RA := hid (fun (i j : Int) (xs ys : List V3) (u v : Value) (W : World) (hu : RdV W u xs) (hv : RdV W v ys) (hl : ys.length = xs.length) (h32 : xs.length ≤ 32) => aset_any i j xs ys u v W hu hv hl h32)
  obtain ⟨ro, rcap, rfl, hrl, hrc⟩ := RdR.split R0.out
  have RC := hid hrc
  clear hrc
  have PT := hid (fun (i : Nat) (r : Row3) (h : rs[i]? = some r) (ps : List S) (hp : ps.Perm (pairsS (rs.take i))) => pairsS_take h hp)
  have hm0 := OwnK.made (E := cntElems Tryz.prog 2 undI64) (z := 0) (k := 67) (w := w0)
  rw [HS0.out] at hm0
  have hlen : ∀ ps : List S, ∀ i, ps.Perm (pairsS (rs.take i)) → ps.length ≤ 40000 := fun ps i hp => by
    have h1 := hp.length_eq
    have h2 := pairsS_length (rs.take i)
    have h3 : (rs.take i).length ≤ 200 := Nat.le_trans (List.length_take_le' _ _) h200
    have h4 := Nat.mul_le_mul h3 h3
    omega
  have HL := hid hlen
  clear hlen
  have hcap : rs.length ≤ rcap := by
    obtain ⟨⟨ao, cap, e, h1, _⟩, _⟩ := R0.out
    cases e; exact h1
  show Calls _ _ _ _ fun e w' => ∃ (b : Nat) (ps : List S), e = .returned (.map (some b)) ∧ OwnC w' b ps.length (cntF ps) (memB ps) ∧ ps.length ≤ 40000 ∧ ps.Perm (pairsS rs) ∧ w.heap.size ≤ b ∧ Below w.heap.size w w'
  go_enter Tryz.func41, Tryz.ntmps41
  go_wp2_with fail
  rw [W0.out]
  go_wp2_with fail
  go_loopw [12] (fun i wr => ∃ (k : Nat) (ps : List S), k ≤ rs.length ∧ i = .int .i64 k ∧ OwnC wr (w.heap.size + 1) ps.length (cntF ps) (memB ps) ∧ Hid (ps.Perm (pairsS (rs.take k))) ∧ Below w0.heap.size w0 wr) (fun i _ => rs.length - (intOf i).toNat)
  case atStart => exact ⟨0, [], Nat.zero_le _, rfl, hm0.congr (fun s => rfl) (fun s => rfl), hid (List.Perm.refl _), below_alloc _ _⟩
  case round =>
    obtain ⟨i, ps0, hk, rfl, hown, HP, hnx⟩ := hrel
    have hsz := hnx.size
    obtain ⟨c0, c1, c2⟩ := C3.out _ hnx
    have i0 : (0 : Int) ≤ (i : Int) := by omega
    by_cases hlt : i < rs.length
    · obtain ⟨⟨rid, ru, rvs⟩, hr⟩ := get_some hlt
      have hpl := HL.out ps0 i HP.out
      have HP2 := hid (PT.out i _ hr ps0 HP.out)
      obtain ⟨⟨b, off, rfl, hd⟩, hvs⟩ := RC.out i _ hr
      have HR1 := hid (HR.out _ (List.mem_of_getElem? hr))
      have VS := hid (fun (W : World) (h : Below w0.heap.size w0 W) => show RdV W ru rvs from hvs W h)
      obtain ⟨uo, ucap, rfl, -⟩ := RdV.split (VS.out wr hnx)
      obtain ⟨wo, rfl⟩ : ∃ wo : World, wo = wr := ⟨_, rfl⟩
      have hbl := hown.lt
      have hba := below_alloc wo (.cells #[.int .i64 rid, .slice uo rvs.length ucap] 44)
      have hown1 := hown.below hba
      have hnx1 := hnx.trans (hba.mono hsz)
      obtain ⟨d0, d1⟩ := hd wo hnx
      have hrc0 : (wo.alloc (.cells #[.int .i64 rid, .slice uo rvs.length ucap] 44)).cell? ⟨wo.heap.size, 0, none⟩ = some (.int .i64 rid) := by simp
      have hrc1 : (wo.alloc (.cells #[.int .i64 rid, .slice uo rvs.length ucap] 44)).cell? ⟨wo.heap.size, 1, none⟩ = some (.slice uo rvs.length ucap) := by simp
      obtain ⟨k0, k1, k2⟩ := C3.out _ hnx1
      have ST := hid (And.intro hown1 (And.intro hnx1 (And.intro hrc0 hrc1)))
      clear hd hvs hr hba hown hnx hown1 hnx1 hrc0 hrc1 HP hsz
      go_wp2_with fail
      go_loopw [22] (fun j wr => ∃ (k : Nat) (ps : List S), k ≤ i ∧ j = .int .i64 k ∧ OwnC wr (w.heap.size + 1) ps.length (cntF ps) (memB ps) ∧ Hid (ps = ps0 ++ ((rs.take i).take k).map fun q => pairS q (rid, Value.slice uo rvs.length ucap, rvs)) ∧ Below w0.heap.size w0 wr ∧ wr.cell? ⟨wo.heap.size, 0, none⟩ = some (.int .i64 rid) ∧ wr.cell? ⟨wo.heap.size, 1, none⟩ = some (.slice uo rvs.length ucap)) (fun j _ => i - (intOf j).toNat)
      case atStart => exact ⟨0, ps0, Nat.zero_le _, rfl, ST.out.1, hid (by simp), ST.out.2.1, ST.out.2.2⟩
      case round =>
        obtain ⟨k, ps, hk2, rfl, hown2, HQ, hnx2, e0, e1⟩ := hrel
        have hsz2 := hnx2.size
        have j0 : (0 : Int) ≤ (k : Int) := by omega
        by_cases hlt2 : k < i
        · obtain ⟨⟨qid, qu, qvs⟩, hq⟩ := get_some (show k < rs.length by omega)
          have hq2 : (rs.take i)[k]? = some (qid, qu, qvs) := by rw [List.getElem?_take_of_lt hlt2, hq]
          have HQ2 := hid (show ps ++ [rowsS qvs rvs qvs.length] = ps0 ++ ((rs.take i).take (k + 1)).map fun q => pairS q (rid, Value.slice uo rvs.length ucap, rvs) by rw [take_next hq2, List.map_append, ← List.append_assoc, ← HQ.out]; rfl)
          have hpsl : ps.length ≤ 40200 := by
            have h := congrArg List.length HQ.out
            simp only [List.length_append, List.length_map, List.length_take] at h
            omega
          have HR2 := hid (HR.out _ (List.mem_of_getElem? hq))
          obtain ⟨⟨b', off', hbb, hd'⟩, hvs'⟩ := RC.out k _ hq
          cases hbb
          have VS2 := hid (fun (W : World) (h : Below w0.heap.size w0 W) => show RdV W qu qvs from hvs' W h)
          obtain ⟨vo, vcap, rfl, -⟩ := RdV.split (VS2.out wr hnx2)
          obtain ⟨f0, f1⟩ := hd' wr hnx2
          have hbq := below_alloc wr (.cells #[.int .i64 qid, .slice vo qvs.length vcap] 44)
          have hnx3 := hnx2.trans (hbq.mono hsz2)
          have CR := hid (RA.out qid rid qvs rvs _ _ _ (VS2.out _ hnx3) (VS.out _ hnx3) (by rw [HR1.out.1, HR2.out.1]) (by rw [HR2.out.1]; exact Nat.le_trans h16 (by decide)))
          have g0 : (wr.alloc (.cells #[.int .i64 qid, .slice vo qvs.length vcap] 44)).cell? ⟨wr.heap.size, 0, none⟩ = some (.int .i64 qid) := by simp
          have g1 : (wr.alloc (.cells #[.int .i64 qid, .slice vo qvs.length vcap] 44)).cell? ⟨wr.heap.size, 1, none⟩ = some (.slice vo qvs.length vcap) := by simp
          have hlt0 := World.block_lt_of_cell? _ _ e0
          have hlt1 : wo.heap.size < wr.heap.size := hlt0
          have E0 := hid (fun (W : World) (hb : Below wr.heap.size wr W) => And.intro ((hb.cell (p := ⟨wo.heap.size, 0, none⟩) hlt1).trans e0) ((hb.cell (p := ⟨wo.heap.size, 1, none⟩) hlt1).trans e1))
          obtain ⟨e0', e1'⟩ := E0.out _ hbq
          have OK2 := hid (hown2.below hbq)
          have NX3 := hid hnx3
          have BQ := hid hbq
          have hcnt : cntF ps (rowsS qvs rvs qvs.length) ≤ 40200 := Nat.le_trans List.count_le_length hpsl
          have U := hid (And.intro (fun t => count_upd ps (rowsS qvs rvs qvs.length) t) (fun t => has_upd ps (rowsS qvs rvs qvs.length) t))
          clear hd' hvs' hq hq2 hown2 hnx3 hbq hlt0 HQ
          generalize cntF ps = g at *
          generalize memB ps = pp at *
          go_wp2_with fail
          refine CR.out.mono ?_
          rintro e w2 ⟨rfl, hb2⟩
          have hb2' := BQ.out.trans (hb2.mono BQ.out.size)
          have OK3 := hid (OK2.out.below hb2)
          have NX4 := hid (NX3.out.trans (hb2.mono NX3.out.size))
          obtain ⟨x0, x1⟩ := E0.out _ hb2'
          have X0 := hid (And.intro x0 x1)
          have hw0lt := OK3.out.lt
          have HV := hid (show Value.int .i64 ((g (rowsS qvs rvs qvs.length) : Int) + 1) = (cntElems Tryz.prog 2 undI64).el (g (rowsS qvs rvs qvs.length) + 1) by show _ = Value.int .i64 (capN (g (rowsS qvs rvs qvs.length) + 1)); rw [capN_eq (by omega)]; rfl)
          have HG := hid (capN_eq (n := g (rowsS qvs rvs qvs.length)) (by omega))
          have hg0 : (0 : Int) ≤ (g (rowsS qvs rvs qvs.length) : Int) := by omega
          clear hb2 hb2' x0 x1
          generalize rowsS qvs rvs qvs.length = sq at *
          go_wp2_with (first | (at_lookup; refine wpList_mlook (E := cntElems Tryz.prog 2 undI64) (z := 0) (f := g) (n := ps.length) (b := w.heap.size + 1) (k := 67) rfl _ _ 75 rfl undU32 undMapC (zeroC _) rfl OK3.out.toM sq rfl ?_; show wpList _ _ _ _ (Act.put _ _ (.int .i64 (capN (g sq)))) _; rw [HG.out]) | (at_mapUpdate; refine wpList_kput (E := cntElems Tryz.prog 2 undI64) rfl _ _ _ 75 rfl undU32 undMapC rfl OK3.out (by unfold maxLen; omega) sq (g sq + 1) rfl HV.out ?_))
          intro w4 hm4 hg4
          have hm5 : OwnC w4 (w.heap.size + 1) (ps ++ [sq]).length (cntF (ps ++ [sq])) (memB (ps ++ [sq])) := by
            have := hm4.congr U.out.1 U.out.2
            rwa [show (ps ++ [sq]).length = ps.length + 1 by simp]
          have hnx4 : Below w0.heap.size w0 w4 := NX4.out.grown hg4 NX4.out.size (fun j hj => by cases hj; exact Nat.le_of_eq HS0.out)
          have hc4 : w4.cell? ⟨wo.heap.size, 0, none⟩ = some (.int .i64 rid) := (hg4.cell_far ⟨wo.heap.size, 0, none⟩ (World.block_lt_of_cell? _ _ X0.out.1) (by intro e; simp at e; omega)).trans X0.out.1
          have hc5 : w4.cell? ⟨wo.heap.size, 1, none⟩ = some (.slice uo rvs.length ucap) := (hg4.cell_far ⟨wo.heap.size, 1, none⟩ (World.block_lt_of_cell? _ _ X0.out.2) (by intro e; simp at e; omega)).trans X0.out.2
          clear hm4 hg4
          go_wp2_with fail
          go_roundw
          case rel => exact ⟨k + 1, ps ++ [sq], by omega, by go_num, hm5, HQ2, hnx4, hc4, hc5⟩
          case measure => simp [intOf]; omega
        · have hkk : k = i := by omega
          have HP3 := hid (show ps.Perm (pairsS (rs.take (i + 1))) by
            have h := HQ.out
            rw [List.take_of_length_le (by rw [List.length_take]; omega)] at h
            rw [h]; exact HP2.out)
          clear HQ hkk
          go_wp2_with fail
          go_roundw
          case rel => exact ⟨i + 1, ps, by omega, by go_num, hown2, HP3, hnx2⟩
          case measure => simp [intOf]; omega
    · have HP3 := hid (show ps0.Perm (pairsS rs) by have h := HP.out; rwa [List.take_of_length_le (by omega)] at h)
      have hpl := HL.out ps0 i HP.out
      have HO := hid hown
      have HN := hid (B0.out.trans (hnx.mono hsz0))
      clear hown hnx HP
      go_wp2_with fail
      go_ret
      exact ⟨_, ps0, rfl, HO.out, hpl, HP3.out, by omega, HN.out⟩

end Go.Proofs.YtdiafhbbmliefaaGreatDoor

