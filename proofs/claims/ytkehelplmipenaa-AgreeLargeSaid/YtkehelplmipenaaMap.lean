/- A map keyed by sets that the call itself makes, told as a function: the look-up, the store, the deletion at the operation. No program. -/
import Derived.Test.YtkehelplmipenaaBase
import Derived.Maps.OwnOps
import Derived.Maps.OwnSet
namespace Go.Proofs.Ytkehelplmipenaa
open Go.RowKit
open Go.Maps (Keyed)

/-- How the elements of a map are told: each x as a value and as a datum; no other value reads so. -/
structure Elems (P : Program) (e : TypeId) (β : Type) where
  el : β → Value
  dl : β → DataW Unit
  to : ∀ x, plainElem P e (el x) = some (dl x, [])
  inv : ∀ v x ps, plainElem P e v = some (dl x, ps) → v = el x
def keyL (s : S) : Lit := .int .u32 (iv s)
theorem keyL_ne {s t : S} (h : s ≠ t) : keyL s ≠ keyL t := fun e => h (iv_inj (by simpa [keyL] using e))
theorem wf_iv (s : S) : (Lit.int .u32 (iv s)).wf = true := WalkArith.wf_u32 (by have := iv_nonneg s; have := iv_lt s; omega)

/-- Block b is a map of at most n entries that gives f s at the key s. -/
def OwnM {P : Program} {e : TypeId} {β : Type} (E : Elems P e β) (z : β) (k : TypeId) (w : World) (b n : Nat) (f : S → β) : Prop :=
  ∃ D : DataW Unit, w.ownsMap P k (plainElem P e) b n D ∧ ∀ s, D.atKey (keyL s) (E.dl z) = E.dl (f s)

/-- f, but y at s. -/
def upd {β : Type} (f : S → β) (s : S) (y : β) : S → β := fun t => if t = s then y else f t
theorem upd_same {β : Type} (f : S → β) (s : S) (y : β) : upd f s y s = y := if_pos rfl
theorem upd_other {β : Type} (f : S → β) {s t : S} (y : β) (h : t ≠ s) : upd f s y t = f t := if_neg h

section
variable {P : Program} {e : TypeId} {β : Type} {E : Elems P e β} {z : β} {k : TypeId} {w : World} {b n : Nat} {f : S → β}
theorem OwnM.made : OwnM E z k (w.alloc (.map #[] 0)) w.heap.size 0 (fun _ => z) :=
  ⟨.map [], World.ownsMap_made w P k _, fun _ => Maps.atKey_of_not_has rfl _⟩
theorem OwnM.kept {w' : World} {row : Option Nat} (h : OwnM E z k w b n f) (hg : w.grownBy w' row) (hne : some b ≠ row) : OwnM E z k w' b n f := by
  obtain ⟨D, h1, h2⟩ := h; exact ⟨D, h1.kept hg hne, h2⟩
theorem OwnM.congr {g : S → β} (h : OwnM E z k w b n f) (hg : ∀ s, f s = g s) : OwnM E z k w b n g := by
  obtain ⟨D, h1, h2⟩ := h; exact ⟨D, h1, fun s => (h2 s).trans (by rw [hg])⟩
theorem OwnM.lt (h : OwnM E z k w b n f) : b < w.heap.size := by obtain ⟨D, h1, _⟩ := h; exact h1.lt
theorem OwnM.below {w' : World} (h : OwnM E z k w b n f) (hb : Below w.heap.size w w') : OwnM E z k w' b n f := by
  obtain ⟨D, ⟨es, c, h1, h3⟩, h2⟩ := h
  exact ⟨D, ⟨es, c, (hb.block b (Array.getElem?_eq_some_iff.1 h1).1).trans h1, h3⟩, h2⟩

theorem wpList_mlook {ops : Array Oper} {rest : List Oper} {o : Oper} {a : Act} {Q : Exit → Act → World → Prop} (hg : o.guard = none) (m x : Operand) (t : TypeId) (hop : o.op = Op.lookup t m x false)
    (hk : P.underlying k = some (.int .u32)) (ht : P.underlying t = some (.map k e)) (hz : (zeroValue e).run P w = .ok (E.el z) w)
    (hm : a.eval m = .map (some b)) (hown : OwnM E z k w b n f) (s : S) (hx : a.eval x = enc s)
    (hK : wpList P ops Q rest (a.put o.dst (E.el (f s))) w) : wpList P ops Q (o :: rest) a w := by
  obtain ⟨D, h1, h2⟩ := hown
  refine wpList_plain hg fun K' hK' => ?_
  obtain ⟨v, ps, hrun, hv⟩ := h1.lookup (Maps.int_keyed hk) ht hz (E.to z) (Maps.keyOf_int_mk hk (wf_iv s))
  rw [show (Lit.int .u32 (iv s)) = keyL s from rfl, h2 s] at hv
  have := E.inv _ _ _ hv
  subst this
  unfold Oper.wp
  simp only [enc] at hx
  simp [execOp, hop, hm, hx, hrun, Result.andThen]
  exact hK' _ _ hK
theorem wpList_mput {ops : Array Oper} {rest : List Oper} {o : Oper} {a : Act} {Q : Exit → Act → World → Prop} (hg : o.guard = none) (m x v : Operand) (t : TypeId) (hop : o.op = Op.mapUpdate t m x v)
    (hk : P.underlying k = some (.int .u32)) (ht : P.underlying t = some (.map k e))
    (hm : a.eval m = .map (some b)) (hown : OwnM E z k w b n f) (hn : n < maxLen) (s : S) (y : β) (hx : a.eval x = enc s) (hv : a.eval v = E.el y)
    (hK : ∀ w', OwnM E z k w' b (n + 1) (upd f s y) → w.grownBy w' (some b) → wpList P ops Q rest (a.put o.dst undef) w') : wpList P ops Q (o :: rest) a w := by
  obtain ⟨D, h1, h2⟩ := hown
  refine wpList_mapUpdate_own w hg m x v t hop k e (Maps.int_keyed hk) ht _ b n D hm h1 hn _ _ (keyL s) hx hv (Maps.keyOf_int_mk hk (wf_iv s)) (E.dl y) [] (E.to y) ?_
  intro w' r1 r2
  refine hK w' ⟨_, r1, fun t => ?_⟩ r2
  by_cases h : t = s
  · subst h
    rw [upd_same]
    exact Maps.atKey_put_same h1.isMap ((Maps.int_keyed hk).key (Maps.keyOf_int_mk hk (wf_iv t))) _ _
  · rw [upd_other _ _ h, Maps.atKey_put_other (keyL_ne h)]
    exact h2 t
theorem wpList_mdel {ops : Array Oper} {rest : List Oper} {o : Oper} {a : Act} {Q : Exit → Act → World → Prop} (hg : o.guard = none) (m x : Operand) (t : TypeId) (hop : o.op = Op.call { callee := Callee.builtin Builtin.delete, args := #[m, x], argTypes := #[t, k] })
    (hk : P.underlying k = some (.int .u32)) (ht : P.underlying t = some (.map k e))
    (hm : a.eval m = .map (some b)) (hown : OwnM E z k w b n f) (s : S) (hx : a.eval x = enc s)
    (hK : ∀ w', OwnM E z k w' b n (upd f s z) → w.grownBy w' (some b) → wpList P ops Q rest (a.put o.dst (.tuple #[])) w') : wpList P ops Q (o :: rest) a w := by
  obtain ⟨D, h1, h2⟩ := hown
  refine wpList_delete_own w hg m x t k hop e (Maps.int_keyed hk) ht _ b n D hm h1 _ (keyL s) hx (Maps.keyOf_int_mk hk (wf_iv s)) ?_
  intro w' r1 r2
  refine hK w' ⟨_, r1, fun t => ?_⟩ r2.grown
  by_cases h : t = s
  · subst h
    rw [upd_same]
    exact Maps.atKey_del_same _
  · rw [upd_other _ _ h, Maps.atKey_del_other (keyL_ne h)]
    exact h2 t
end

theorem plainElem_bool_inv {P : Program} {e : TypeId} (he : P.underlying e = some .bool) {v : Value} {x : Bool} {ps : List MemPlace} (h : plainElem (H := Unit) P e v = some (.lit (.bool x), ps)) : v = .bool x := by
  unfold plainElem at h
  rw [he] at h
  cases v <;> simp at h
  simp [h]
/-- Elements that are bools. -/
def boolElems (P : Program) (e : TypeId) (he : P.underlying e = some .bool) : Elems P e Bool where
  el := .bool
  dl x := .lit (.bool x)
  to x := plainElem_bool he x
  inv _ _ _ h := plainElem_bool_inv he h

end Go.Proofs.Ytkehelplmipenaa
