/- A map keyed by sets that the call itself makes, told by a function and by the keys that it has; ranging over it. No program. -/
import Derived.Test.YtkehelplmipenaaMap
import Derived.Maps.RangeWalk
import Derived.Maps.Views
namespace Go.Proofs.Ytkehelplmipenaa
open Go.RowKit
open Go.Maps (Keyed)

theorem keyL_key (s : S) : WideAt.IsKeyLit (keyL s) := trivial
theorem keyL_same (s t : S) : (keyL s).sameKey (keyL t) = decide (s = t) := by
  by_cases h : s = t
  · subst h; rw [WideAt.sameKey_self (keyL_key s)]; simp
  · rw [Maps.sameKey_ne (keyL_ne h)]; simp [h]

/-- Block b is a map of at most n entries that gives f s at the key s, and has the keys p. -/
def OwnK {P : Program} {e : TypeId} {β : Type} (E : Elems P e β) (z : β) (k : TypeId) (w : World) (b n : Nat) (f : S → β) (p : S → Bool) : Prop :=
  ∃ D : DataW Unit, w.ownsMap P k (plainElem P e) b n D ∧ (∀ s, D.atKey (keyL s) (E.dl z) = E.dl (f s)) ∧ ∀ s, Maps.has D (keyL s) = p s
/-- A loop over it is under way: left says which keys are still to come, cnt how many. -/
def RngK {P : Program} {e : TypeId} {β : Type} (E : Elems P e β) (z : β) (k : TypeId) (w : World) (b r n : Nat) (f : S → β) (p left : S → Bool) (cnt : Nat) : Prop :=
  ∃ (D : DataW Unit) (lf : Lit → Bool), w.ranges P k (plainElem P e) b r n D lf cnt ∧ (∀ s, D.atKey (keyL s) (E.dl z) = E.dl (f s)) ∧ (∀ s, Maps.has D (keyL s) = p s) ∧ (∀ s, lf (keyL s) = left s) ∧ ∀ s, left s = true → p s = true

section
variable {P : Program} {e : TypeId} {β : Type} {E : Elems P e β} {z : β} {k : TypeId} {w : World} {b r n : Nat} {f : S → β} {p left : S → Bool} {cnt : Nat}
theorem OwnK.made : OwnK E z k (w.alloc (.map #[] 0)) w.heap.size 0 (fun _ => z) (fun _ => false) :=
  ⟨.map [], World.ownsMap_made w P k _, fun _ => Maps.atKey_of_not_has rfl _, fun _ => rfl⟩
theorem OwnK.kept {w' : World} {row : Option Nat} (h : OwnK E z k w b n f p) (hg : w.grownBy w' row) (hne : some b ≠ row) : OwnK E z k w' b n f p := by
  obtain ⟨D, h1, h2⟩ := h; exact ⟨D, h1.kept hg hne, h2⟩
theorem OwnK.congr {g : S → β} {q : S → Bool} (h : OwnK E z k w b n f p) (hg : ∀ s, f s = g s) (hp : ∀ s, p s = q s) : OwnK E z k w b n g q := by
  obtain ⟨D, h1, h2, h3⟩ := h; exact ⟨D, h1, fun s => (h2 s).trans (by rw [hg]), fun s => (h3 s).trans (hp s)⟩
theorem OwnK.mono {n' : Nat} (h : OwnK E z k w b n f p) (hn : n ≤ n') : OwnK E z k w b n' f p := by
  obtain ⟨D, h1, h2⟩ := h; exact ⟨D, h1.mono hn, h2⟩
theorem OwnK.lt (h : OwnK E z k w b n f p) : b < w.heap.size := by obtain ⟨D, h1, _⟩ := h; exact h1.lt
theorem OwnK.below {w' : World} (h : OwnK E z k w b n f p) (hb : Below w.heap.size w w') : OwnK E z k w' b n f p := by
  obtain ⟨D, ⟨es, c, h1, h3⟩, h2⟩ := h
  exact ⟨D, ⟨es, c, (hb.block b (Array.getElem?_eq_some_iff.1 h1).1).trans h1, h3⟩, h2⟩
theorem OwnK.toM (h : OwnK E z k w b n f p) : OwnM E z k w b n f := by
  obtain ⟨D, h1, h2, _⟩ := h; exact ⟨D, h1, h2⟩
theorem RngK.owns (h : RngK E z k w b r n f p left cnt) : OwnK E z k w b n f p := by
  obtain ⟨D, lf, h1, h2, h3, _⟩ := h; exact ⟨D, h1.owns, h2, h3⟩
theorem RngK.left_eq (h : RngK E z k w b r n f p left cnt) : w.rangeLeft b r = cnt := by
  obtain ⟨D, lf, h1, _⟩ := h; exact h1.left_eq
theorem RngK.lt (h : RngK E z k w b r n f p left cnt) : r < w.heap.size := by
  obtain ⟨D, lf, h1, _⟩ := h; exact h1.lt
theorem RngK.kept {w' : World} {row : Option Nat} (h : RngK E z k w b r n f p left cnt) (hg : w.grownBy w' row) (hb : some b ≠ row) (hr : some r ≠ row) : RngK E z k w' b r n f p left cnt := by
  obtain ⟨D, lf, h1, h2⟩ := h; exact ⟨D, lf, h1.kept hg hb hr, h2⟩
theorem grown_of_below {w w' : World} (h : Below w.heap.size w w') : w.grownBy w' none := ⟨h.os, h.tape, h.output, h.size, fun i hi _ => h.block i hi⟩
theorem RngK.below {w' : World} (h : RngK E z k w b r n f p left cnt) (hb : Below w.heap.size w w') : RngK E z k w' b r n f p left cnt := h.kept (grown_of_below hb) (by simp) (by simp)

theorem wpList_kput {ops : Array Oper} {rest : List Oper} {o : Oper} {a : Act} {Q : Exit → Act → World → Prop} (hg : o.guard = none) (m x v : Operand) (t : TypeId) (hop : o.op = Op.mapUpdate t m x v)
    (hk : P.underlying k = some (.int .u32)) (ht : P.underlying t = some (.map k e))
    (hm : a.eval m = .map (some b)) (hown : OwnK E z k w b n f p) (hn : n < maxLen) (s : S) (y : β) (hx : a.eval x = enc s) (hv : a.eval v = E.el y)
    (hK : ∀ w', OwnK E z k w' b (n + 1) (upd f s y) (upd p s true) → w.grownBy w' (some b) → wpList P ops Q rest (a.put o.dst undef) w') : wpList P ops Q (o :: rest) a w := by
  obtain ⟨D, h1, h2, h3⟩ := hown
  refine wpList_mapUpdate_own w hg m x v t hop k e (Maps.int_keyed hk) ht _ b n D hm h1 hn _ _ (keyL s) hx hv (Maps.keyOf_int_mk hk (wf_iv s)) (E.dl y) [] (E.to y) ?_
  intro w' r1 r2
  refine hK w' ⟨_, r1, fun t => ?_, fun t => ?_⟩ r2
  · by_cases h : t = s
    · subst h
      rw [upd_same]
      exact Maps.atKey_put_same h1.isMap ((Maps.int_keyed hk).key (Maps.keyOf_int_mk hk (wf_iv t))) _ _
    · rw [upd_other _ _ h, Maps.atKey_put_other (keyL_ne h)]
      exact h2 t
  · by_cases h : t = s
    · subst h
      rw [upd_same]
      exact Maps.has_put_same h1.isMap ((Maps.int_keyed hk).key (Maps.keyOf_int_mk hk (wf_iv t))) _
    · rw [upd_other _ _ h, Maps.has_put_other (keyL_ne h)]
      exact h3 t
theorem wpList_krange {ops : Array Oper} {rest : List Oper} {o : Oper} {a : Act} {Q : Exit → Act → World → Prop} (hg : o.guard = none) (m : Operand) (t : TypeId) (hop : o.op = Op.range t m)
    (hk : P.underlying k = some (.int .u32)) (ht : P.underlying t = some (.map k e))
    (hm : a.eval m = .map (some b)) (hown : OwnK E z k w b n f p)
    (hK : ∀ w' cnt, RngK E z k w' b w.heap.size n f p p cnt → cnt ≤ n → Below w.heap.size w w' → w'.heap.size = w.heap.size + 1 → wpList P ops Q rest (a.put o.dst (.pointer (some ⟨w.heap.size, 0, none⟩))) w') : wpList P ops Q (o :: rest) a w := by
  obtain ⟨D, h1, h2, h3⟩ := hown
  refine wpList_range_own w hg m t hop k e (Maps.int_keyed hk) ht _ b n D hm h1 ?_
  intro w' r1 r2 r3
  exact hK w' _ ⟨D, _, r1, h2, h3, h3, fun _ h => h⟩ h1.size_le ((Below.refl _ w).grown r2 (Nat.le_refl _) (fun j hj => by cases hj)) r3
theorem wpList_knext {ops : Array Oper} {rest : List Oper} {o : Oper} {a : Act} {Q : Exit → Act → World → Prop} (hg : o.guard = none) (it : Operand) (hop : o.op = Op.next it false)
    (hk : P.underlying k = some (.int .u32))
    (hit : a.eval it = .pointer (some ⟨r, 0, none⟩)) (h : RngK E z k w b r n f p left cnt)
    (hDone : cnt = 0 → (∀ s, left s = false) → wpList P ops Q rest (a.put o.dst (.tuple #[.bool false])) w)
    (hMore : ∀ (s : S) (c : Value) (w' : World) (cnt' : Nat), left s = true → p s = true → RngK E z k w' b r n f p (fun t => left t && !decide (t = s)) cnt' → cnt' < cnt → w.grownBy w' (some r) → w'.heap.size = w.heap.size →
      (Instr.entry (.pointer (some ⟨r, 0, none⟩))).run P w' = .ok (.tuple #[.int .u32 (iv s), c]) w' → wpList P ops Q rest (a.put o.dst (.tuple #[.bool true, .int .u32 (iv s), c])) w') : wpList P ops Q (o :: rest) a w := by
  obtain ⟨D, lf, h1, h2, h3, h4, h5⟩ := h
  refine wpList_next_ranges w hg it hop k (Maps.int_keyed hk) (plainElem P e) enc (id : Value → Value) ?_ (fun v _ _ => ⟨v, rfl⟩) b r n D lf cnt hit h1 ?_ ?_
  · intro key kl hkey
    obtain ⟨x, rfl, _, hw⟩ := Maps.keyOf_int_inv hk hkey
    have hx : 0 ≤ x ∧ x < 4294967296 := by
      simp [Lit.wf, IntKind.min, IntKind.max, IntKind.signed, IntKind.bits] at hw
      exact ⟨by omega, by omega⟩
    exact ⟨BitVec.ofInt 32 x, by rw [enc_eq, iv_ofInt x hx.1 hx.2]⟩
  · intro h0 hl
    exact hDone h0 fun s => by rw [← h4, hl]
  · intro s c kl y w' cnt' hkey hl _ _ hr hlt hgr hsz hen
    obtain rfl : kl = keyL s := by
      have := Maps.keyOf_int_mk hk (wf_iv s)
      rw [enc_eq] at hkey
      rw [this] at hkey
      exact (Option.some.inj hkey).symm
    rw [h4] at hl
    exact hMore s c w' cnt' hl (h5 s hl) ⟨D, _, hr, h2, h3, fun t => by rw [h4, keyL_same], fun t ht => h5 t (by simp at ht; exact ht.1)⟩ hlt hgr hsz hen
end

/-- What a loop over the keys has collected. -/
structure Coll (p left : S → Bool) (ps : List S) : Prop where
  nodup : ps.Nodup
  mem : ∀ s, s ∈ ps ↔ p s = true ∧ left s = false
theorem Coll.start (p : S → Bool) : Coll p p [] := ⟨List.nodup_nil, fun s => by cases p s <;> simp⟩
theorem Coll.next {p left : S → Bool} {ps : List S} {s : S} (h : Coll p left ps) (hl : left s = true) (hp : p s = true) : Coll p (fun t => left t && !decide (t = s)) (ps ++ [s]) := by
  have hn : s ∉ ps := fun hm => by have := ((h.mem s).1 hm).2; rw [hl] at this; cases this
  refine ⟨by rw [List.nodup_append]; exact ⟨h.nodup, by simp, fun a ha b hb e => by rw [List.mem_singleton] at hb; subst hb; subst e; exact hn ha⟩, fun t => ?_⟩
  rw [List.mem_append, h.mem, List.mem_singleton]
  by_cases e : t = s
  · subst e; simp [hp, hl]
  · simp [e]
theorem Coll.done {p left : S → Bool} {ps : List S} (h : Coll p left ps) (hl : ∀ s, left s = false) (s : S) : s ∈ ps ↔ p s = true := by rw [h.mem]; simp [hl]
/-- .. of which only some were kept. -/
structure CollF (p left q : S → Bool) (ps : List S) : Prop where
  nodup : ps.Nodup
  mem : ∀ s, s ∈ ps ↔ (p s = true ∧ left s = false) ∧ q s = true
theorem CollF.start (p q : S → Bool) : CollF p p q [] := ⟨List.nodup_nil, fun s => by cases p s <;> simp⟩
theorem CollF.yes {p left q : S → Bool} {ps : List S} {s : S} (h : CollF p left q ps) (hl : left s = true) (hp : p s = true) (hq : q s = true) : CollF p (fun t => left t && !decide (t = s)) q (ps ++ [s]) := by
  have hn : s ∉ ps := fun hm => by have := ((h.mem s).1 hm).1.2; rw [hl] at this; cases this
  refine ⟨by rw [List.nodup_append]; exact ⟨h.nodup, by simp, fun a ha b hb e => by rw [List.mem_singleton] at hb; subst hb; subst e; exact hn ha⟩, fun t => ?_⟩
  rw [List.mem_append, h.mem, List.mem_singleton]
  by_cases e : t = s
  · subst e; simp [hp, hl, hq]
  · simp [e]
theorem CollF.no {p left q : S → Bool} {ps : List S} {s : S} (h : CollF p left q ps) (hq : q s = false) : CollF p (fun t => left t && !decide (t = s)) q ps := by
  refine ⟨h.nodup, fun t => ?_⟩
  rw [h.mem]
  by_cases e : t = s
  · subst e; simp [hq]
  · simp [e]
theorem CollF.done {p left q : S → Bool} {ps : List S} (h : CollF p left q ps) (hl : ∀ s, left s = false) (s : S) : s ∈ ps ↔ p s = true ∧ q s = true := by rw [h.mem]; simp [hl]

/-- Elements that are counts. -/
def capN (n : Nat) : Int := if n < 4611686018427387904 then n else 0
theorem capN_eq {n : Nat} (h : n < 4611686018427387904) : capN n = n := if_pos h
theorem capN_wf (n : Nat) : (Lit.int .i64 (capN n)).wf = true := by
  refine WalkArith.wf_i64 ?_
  unfold capN
  split <;> omega
def cntElems (P : Program) (e : TypeId) (he : P.underlying e = some (.int .i64)) : Elems P e Nat where
  el n := .int .i64 (capN n)
  dl n := .lit (.int .i64 (capN n))
  to n := plainElem_int he (capN_wf n)
  inv v x ps h := by
    obtain ⟨a, rfl, hz, _⟩ := plainElem_int_inv he h
    simp at hz
    rw [hz.1]

end Go.Proofs.Ytkehelplmipenaa
