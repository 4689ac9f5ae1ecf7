/- Texts that belong together, in one file. -/
import Derived.Lib.Bytealg
import Derived.Test.YtcfcmalaabmceaaGreatDoorGSort
import Derived.Test.YtcfcmalaabmceaaGreatDoorGTab27
import Derived.Test.YtcfcmalaabmceaaGreatDoorAfter
import Derived.StillTailTactics
import Derived.Test.YtcfcmalaabmceaaGreatDoorGPlain
import Derived.Test.YtcfcmalaabmceaaGreatDoorCells
import Derived.Test.YtcfcmalaabmceaaGreatDoorBase
import Derived.Maps.OwnOps
import Derived.Maps.OwnSet
import Derived.Maps.Views
import Derived.Test.YtcfcmalaabmceaaGreatDoorGTab14
import Derived.Test.YtcfcmalaabmceaaGreatDoorGTab20
import Derived.Test.YtcfcmalaabmceaaGreatDoorGTab30
/- The walks of value.Compare and of keymine's agree. -/
namespace Go.Proofs.YtcfcmalaabmceaaGreatDoor
open Go.RowKit
set_option linter.unusedVariables false




attribute [local irreducible] Go.wpQuiet

end Go.Proofs.YtcfcmalaabmceaaGreatDoor


/- The walk of attrset.Subsets: all subsets of a set, in order. -/
namespace Go.Proofs.YtcfcmalaabmceaaGreatDoor
open Go.RowKit



end Go.Proofs.YtcfcmalaabmceaaGreatDoor


/- The walks of keymine's check, sets and uniques. -/
namespace Go.Proofs.YtcfcmalaabmceaaGreatDoor
open Go.RowKit
set_option linter.unusedVariables false

/-! The error of a table and a set. -/

/-! Witnesses. -/
abbrev W3 := S × Int × Int
def cW (x : W3) : List Value := [enc x.1, .int .i64 x.2.1, .int .i64 x.2.2]
theorem cW_length (x : W3) : (cW x).length = 3 := rfl
abbrev RdW (w : World) (v : Value) (xs : List W3) : Prop := RdC cW w v xs
theorem RdW.split {w : World} {v : Value} {xs : List W3} (h : RdW w v xs) : ∃ ao cap, v = .slice ao xs.length cap ∧ xs.length ≤ 35184372088832 ∧
    ∀ (k : Nat) (x : W3), xs[k]? = some x → ∃ b off, ao = some ⟨b, off, none⟩ ∧ ∀ wr, Below w.heap.size w wr → wr.cell? ⟨b, off + k * 3, none⟩ = some (.int .u32 (iv x.1)) ∧ wr.cell? ⟨b, off + k * 3 + 1, none⟩ = some (.int .i64 x.2.1) ∧ wr.cell? ⟨b, off + k * 3 + 2, none⟩ = some (.int .i64 x.2.2) := by
  obtain ⟨ao, cap, rfl, -, h2, h3⟩ := h
  refine ⟨ao, cap, rfl, h2, fun k f hf => ?_⟩
  obtain ⟨b, off, rfl, hb, hc⟩ := h3 (by have := (List.getElem?_eq_some_iff.1 hf).1; omega)
  exact ⟨b, off, rfl, fun wr hn => ⟨(hn.cell (p := ⟨b, off + k * 3, none⟩) hb).trans (hc _ _ (flat_at cW_length xs k f 0 _ hf rfl)), (hn.cell (p := ⟨b, off + k * 3 + 1, none⟩) hb).trans (hc _ _ (flat_at cW_length xs k f 1 _ hf rfl)), (hn.cell (p := ⟨b, off + k * 3 + 2, none⟩) hb).trans (hc _ _ (flat_at cW_length xs k f 2 _ hf rfl))⟩⟩


theorem shl_fullM {m : Nat} (h : m < 32) : 1#32 <<< m - 1#32 = fullN m := by
  apply BitVec.eq_of_toNat_eq
  have hp : 1 ≤ 2 ^ m := Nat.one_le_two_pow
  have hq : 2 ^ m < 2 ^ 32 := Nat.pow_lt_pow_right (by decide) h
  rw [fullN_toNat m (by omega), BitVec.toNat_sub, BitVec.toNat_shiftLeft, Nat.shiftLeft_eq]
  simp
  omega


end Go.Proofs.YtcfcmalaabmceaaGreatDoor


/- Groups: a row of the call's own of slices, each with a row of the call's own. No program. -/
namespace Go.Proofs.YtcfcmalaabmceaaGreatDoor
open Go.RowKit

abbrev Gp := Value × List Int
def encJ (n : Int) : Value := .int .i64 n
structure OwnGr (w : World) (B : Nat) (tO tI : TypeId) (v : Value) (gs : List Gp) : Prop where
  outer : w.ownsRow B tO 1 v gs.length (gs.map Prod.fst)
  inner : ∀ g ∈ gs, w.ownsRow B tI 1 g.1 g.2.length (g.2.map encJ)
  apart : ∀ (i j : Nat) (g h : Gp), gs[i]? = some g → gs[j]? = some h → i ≠ j → g.1.ownBlock = none ∨ g.1.ownBlock ≠ h.1.ownBlock
  away : ∀ g ∈ gs, g.1.ownBlock = none ∨ g.1.ownBlock ≠ v.ownBlock

variable {w w' : World} {B : Nat} {tO tI : TypeId} {v : Value} {gs : List Gp}
theorem OwnGr.nil (w : World) (B : Nat) (tO tI : TypeId) : OwnGr w B tO tI (.slice none 0 0) [] :=
  ⟨World.ownsRow_nil _ _ _ _, by simp, by simp, by simp⟩
theorem OwnGr.kept {row : Option Nat} (h : OwnGr w B tO tI v gs) (hg : w.grownBy w' row) (hr : ∀ k, row = some k → k < B) : OwnGr w' B tO tI v gs := by
  have key : ∀ {e : TypeId} {u : Value} {n : Nat} {xs : List Value}, w.ownsRow B e 1 u n xs → w'.ownsRow B e 1 u n xs := by
    intro e u n xs ho
    refine ho.kept hg ?_
    cases hu : u.ownBlock with
    | none => exact .inl rfl
    | some k =>
      refine .inr fun e => ?_
      have h1 := (ho.lt k hu).1
      have h2 := hr k e.symm
      omega
  exact ⟨key h.outer, fun g hg => key (h.inner g hg), h.apart, h.away⟩
theorem OwnGr.below (h : OwnGr w B tO tI v gs) (hb : Below w.heap.size w w') : OwnGr w' B tO tI v gs :=
  ⟨own_below h.outer hb, fun g hg => own_below (h.inner g hg) hb, h.apart, h.away⟩
/-- 'groups = append(groups, nil)'. -/
theorem OwnGr.push {v' : Value} (h : OwnGr w B tO tI v gs) (ho : w'.ownsRow B tO 1 v' (gs ++ [((.slice none 0 0, []) : Gp)]).length ((gs ++ [((.slice none 0 0, []) : Gp)]).map Prod.fst)) (hg : w.grownBy w' v.ownBlock) (hl : v'.ownBlock = v.ownBlock ∨ v'.ownBlock = some w.heap.size) :
    OwnGr w' B tO tI v' (gs ++ [(.slice none 0 0, [])]) := by
  refine ⟨ho, fun g hm => ?_, fun i j g k hi hj hij => ?_, fun g hm => ?_⟩
  · rcases List.mem_append.1 hm with hm | hm
    · exact (h.inner g hm).kept hg (h.away g hm)
    · rw [List.mem_singleton] at hm; subst hm; exact World.ownsRow_nil _ _ _ _
  · by_cases h1 : i < gs.length
    · rw [List.getElem?_append_left h1] at hi
      by_cases h2 : j < gs.length
      · rw [List.getElem?_append_left h2] at hj
        exact h.apart i j g k hi hj hij
      · rw [List.getElem?_append_right (by omega)] at hj
        have hj0 := (List.getElem?_eq_some_iff.1 hj).1
        simp at hj0
        have : j - gs.length = 0 := by omega
        rw [this] at hj
        simp at hj; subst hj
        cases hb : g.1.ownBlock with
        | none => exact .inl rfl
        | some b => exact .inr (by simp [Value.ownBlock])
    · rw [List.getElem?_append_right (by omega)] at hi
      have hi0 := (List.getElem?_eq_some_iff.1 hi).1
      simp at hi0
      have : i - gs.length = 0 := by omega
      rw [this] at hi
      simp at hi; subst hi
      exact .inl rfl
  · rcases List.mem_append.1 hm with hm | hm
    · rcases hl with e | e
      · rw [e]; exact h.away g hm
      · cases hb : g.1.ownBlock with
        | none => exact .inl rfl
        | some b =>
          refine .inr ?_
          rw [e]
          intro e2
          have := ((h.inner g hm).lt b hb).2
          simp at e2; omega
    · rw [List.mem_singleton] at hm; subst hm; exact .inl rfl
/-- 'groups[i] = append(groups[i], x)'. -/
theorem OwnGr.add {o n cap i : Nat} {g : Gp} {u' : Value} {x : Int} (h : OwnGr w B tO tI (.slice (some ⟨o, 0, none⟩) n cap) gs) (hi : gs[i]? = some g)
    (ho : w'.ownsRow B tI 1 u' (g.2 ++ [x]).length ((g.2 ++ [x]).map encJ)) (hg : w.grownBy w' g.1.ownBlock) (hl : u'.ownBlock = g.1.ownBlock ∨ u'.ownBlock = some w.heap.size) (hn : n = gs.length) :
    OwnGr (w'.setCell ⟨o, i, none⟩ u') B tO tI (.slice (some ⟨o, 0, none⟩) n cap) (gs.set i (u', g.2 ++ [x])) := by
  subst hn
  have hgm := List.mem_of_getElem? hi
  have haw : ∀ k ∈ gs, k.1.ownBlock ≠ some o := by
    intro k hk e
    rcases h.away k hk with h1 | h1
    · rw [h1] at e; cases e
    · exact h1 e
  have hlt : o < w.heap.size := (h.outer.lt o rfl).2
  have huo : u'.ownBlock ≠ some o := by
    rcases hl with e | e
    · rw [e]; exact haw g hgm
    · rw [e]; simp; omega
  have hout : w'.ownsRow B tO 1 (.slice (some ⟨o, 0, none⟩) gs.length cap) gs.length (gs.map Prod.fst) := by
    refine h.outer.kept hg (.inr ?_)
    intro e
    exact haw g hgm e.symm
  have hne : ∀ (j : Nat) (k : Gp), gs[j]? = some k → j ≠ i → k.1.ownBlock = none ∨ k.1.ownBlock ≠ u'.ownBlock := by
    intro j k hj hji
    rcases hl with e | e
    · rw [e]; exact h.apart j i k g hj hi hji
    · cases hb : k.1.ownBlock with
      | none => exact .inl rfl
      | some b =>
        refine .inr ?_
        rw [e]
        intro e2
        have := ((h.inner k (List.mem_of_getElem? hj)).lt b hb).2
        simp at e2; omega
  refine ⟨?_, fun k hm => ?_, fun a b k l ha hb hab => ?_, fun k hm => ?_⟩
  · have := (hout.stored i u').1
    rw [List.length_set, List.map_set]
    exact this
  · obtain ⟨j, hj⟩ := List.mem_iff_getElem?.1 hm
    rw [List.getElem?_set] at hj
    by_cases e : i = j
    · subst e
      rw [if_pos rfl] at hj
      split at hj
      · obtain rfl := Option.some.inj hj
        exact ownsRow_setCell_other ho huo _
      · cases hj
    · rw [if_neg e] at hj
      refine ownsRow_setCell_other ((h.inner k (List.mem_of_getElem? hj)).kept hg ?_) (haw k (List.mem_of_getElem? hj)) _
      exact h.apart j i k g hj hi (Ne.symm e)
  · rw [List.getElem?_set] at ha hb
    by_cases e : i = a
    · subst e
      rw [if_pos rfl] at ha
      split at ha
      · obtain rfl := Option.some.inj ha
        rw [if_neg hab] at hb
        rcases hne b l hb (Ne.symm hab) with h1 | h1
        · by_cases hz : u'.ownBlock = none
          · exact .inl hz
          · right; rw [h1]; exact hz
        · exact .inr (Ne.symm h1)
      · cases ha
    · rw [if_neg e] at ha
      by_cases e2 : i = b
      · subst e2
        rw [if_pos rfl] at hb
        split at hb
        · obtain rfl := Option.some.inj hb
          exact hne a k ha (Ne.symm e)
        · cases hb
      · rw [if_neg e2] at hb
        exact h.apart a b k l ha hb hab
  · obtain ⟨j, hj⟩ := List.mem_iff_getElem?.1 hm
    rw [List.getElem?_set] at hj
    by_cases e : i = j
    · subst e
      rw [if_pos rfl] at hj
      split at hj
      · obtain rfl := Option.some.inj hj
        exact .inr huo
      · cases hj
    · rw [if_neg e] at hj
      exact .inr (haw k (List.mem_of_getElem? hj))
/-- The groups, read. -/
def RdG (w : World) (v : Value) (gs : List Gp) : Prop := RdE Prod.fst w v gs ∧ ∀ g ∈ gs, RdE encJ w g.1 g.2
theorem RdG.below (h : RdG w v gs) (hb : Below w.heap.size w w') : RdG w' v gs := ⟨h.1.below hb, fun g hg => (h.2 g hg).below hb⟩
theorem OwnGr.rd (h : OwnGr w B tO tI v gs) (h1 : gs.length ≤ 100000) (h2 : ∀ g ∈ gs, g.2.length ≤ 100000) : RdG w v gs :=
  ⟨RdE.of_owns h.outer (by omega), fun g hg => RdE.of_owns (h.inner g hg) (by have := h2 g hg; omega)⟩

end Go.Proofs.YtcfcmalaabmceaaGreatDoor


/- The walks of the reference of chapter 29: comparisons, Unique. -/
namespace Go.Proofs.YtcfcmalaabmceaaGreatDoor
open Go.RowKit
set_option linter.unusedVariables false


attribute [local irreducible] Go.wpQuiet


end Go.Proofs.YtcfcmalaabmceaaGreatDoor


/- A map of the call's own, whatever its keys and elements, told by a function and by the keys that it has. No program. -/
namespace Go.Proofs.YtcfcmalaabmceaaGreatDoor
open Go.RowKit
open Go.Maps (Keyed)

/-- The keys of a map: how a key is written and read. -/
structure KeyE (P : Program) (k : TypeId) (κ : Type) where
  law : Keyed P k
  val : κ → Value
  lit : κ → Lit
  key : ∀ x, keyOf P k (val x) = some (lit x)
  inj : ∀ x y, lit x = lit y → x = y
/-- An element is read as what it is. -/
def heldR (v : Value) : Option (DataW Value × List MemPlace) := some (.held v, [])
theorem heldR_inv {v u : Value} {d : DataW Value} {ps : List MemPlace} (h : heldR v = some (d, ps)) (hd : d = .held u) : v = u := by
  unfold heldR at h
  simp only [Option.some.injEq, Prod.mk.injEq] at h
  rw [hd] at h
  exact (DataW.held.inj h.1)

section
variable {P : Program} {k e : TypeId} {κ : Type}
/-- Block b is a map of at most n entries that gives f x at the key x (z where there is none), and has the keys p. -/
def OwnG (E : KeyE P k κ) (z : Value) (w : World) (b n : Nat) (f : κ → Value) (p : κ → Bool) : Prop :=
  ∃ D : DataW Value, w.ownsMap P k heldR b n D ∧ (∀ s, D.atKey (E.lit s) (.held z) = .held (f s)) ∧ ∀ s, Maps.has D (E.lit s) = p s
variable {E : KeyE P k κ} {z : Value} {w : World} {b n : Nat} {f : κ → Value} {p : κ → Bool}
theorem OwnG.made (E : KeyE P k κ) (z : Value) (w : World) : OwnG E z (w.alloc (.map #[] 0)) w.heap.size 0 (fun _ => z) (fun _ => false) :=
  ⟨.map [], World.ownsMap_made w P k _, fun _ => Maps.atKey_of_not_has rfl _, fun _ => rfl⟩
theorem OwnG.kept {w' : World} {row : Option Nat} (h : OwnG E z w b n f p) (hg : w.grownBy w' row) (hne : some b ≠ row) : OwnG E z w' b n f p := by
  obtain ⟨D, h1, h2⟩ := h; exact ⟨D, h1.kept hg hne, h2⟩
theorem OwnG.congr {g : κ → Value} {q : κ → Bool} (h : OwnG E z w b n f p) (hg : ∀ s, f s = g s) (hp : ∀ s, p s = q s) : OwnG E z w b n g q := by
  obtain ⟨D, h1, h2, h3⟩ := h; exact ⟨D, h1, fun s => (h2 s).trans (by rw [hg]), fun s => (h3 s).trans (hp s)⟩
theorem OwnG.mono {n' : Nat} (h : OwnG E z w b n f p) (hn : n ≤ n') : OwnG E z w b n' f p := by
  obtain ⟨D, h1, h2⟩ := h; exact ⟨D, h1.mono hn, h2⟩
theorem OwnG.lt (h : OwnG E z w b n f p) : b < w.heap.size := by obtain ⟨D, h1, _⟩ := h; exact h1.lt
theorem OwnG.block {w' : World} (h : OwnG E z w b n f p) (hb : w'.heap[b]? = w.heap[b]?) : OwnG E z w' b n f p := by
  obtain ⟨D, ⟨es, c, h1, h3⟩, h2⟩ := h
  exact ⟨D, ⟨es, c, hb.trans h1, h3⟩, h2⟩
theorem OwnG.below {w' : World} (h : OwnG E z w b n f p) (hb : Below w.heap.size w w') : OwnG E z w' b n f p := h.block (hb.block b h.lt)

/-- f, but y at x. -/
def updG [DecidableEq κ] {β : Type} (f : κ → β) (x : κ) (y : β) : κ → β := fun t => if t = x then y else f t

theorem wpList_glook_ok {ops : Array Oper} {rest : List Oper} {o : Oper} {a : Act} {Q : Exit → Act → World → Prop} (hg : o.guard = none) (m x : Operand) (t : TypeId) (hop : o.op = Op.lookup t m x true)
    (ht : P.underlying t = some (.map k e)) (hz : (zeroValue e).run P w = .ok z w)
    (hm : a.eval m = .map (some b)) (hown : OwnG E z w b n f p) (s : κ) (hx : a.eval x = E.val s)
    (hK : wpList P ops Q rest (a.put o.dst (.tuple #[f s, .bool (p s)])) w) : wpList P ops Q (o :: rest) a w := by
  obtain ⟨D, h1, h2, h3⟩ := hown
  refine wpList_lookup_own_ok w hg m x t hop k e E.law ht heldR hz (.held z) [] rfl b n D hm h1 _ (E.lit s) hx (E.key s) ?_
  intro v ps hv
  have := heldR_inv hv (h2 s)
  rw [this, h3]
  exact hK
theorem wpList_gput [DecidableEq κ] {ops : Array Oper} {rest : List Oper} {o : Oper} {a : Act} {Q : Exit → Act → World → Prop} (hg : o.guard = none) (m x v : Operand) (t : TypeId) (hop : o.op = Op.mapUpdate t m x v)
    (ht : P.underlying t = some (.map k e))
    (hm : a.eval m = .map (some b)) (hown : OwnG E z w b n f p) (hn : n < maxLen) (s : κ) (y : Value) (hx : a.eval x = E.val s) (hv : a.eval v = y)
    (hK : ∀ w', OwnG E z w' b (n + 1) (updG f s y) (updG p s true) → w.grownBy w' (some b) → wpList P ops Q rest (a.put o.dst undef) w') : wpList P ops Q (o :: rest) a w := by
  obtain ⟨D, h1, h2, h3⟩ := hown
  refine wpList_mapUpdate_own w hg m x v t hop k e E.law ht _ b n D hm h1 hn _ _ (E.lit s) hx hv (E.key s) (.held y) [] rfl ?_
  intro w' r1 r2
  refine hK w' ⟨_, r1, fun t => ?_, fun t => ?_⟩ r2
  · by_cases h : t = s
    · subst h
      rw [show updG f t y t = y from if_pos rfl]
      exact Maps.atKey_put_same h1.isMap (E.law.key (E.key t)) _ _
    · rw [show updG f s y t = f t from if_neg h, Maps.atKey_put_other (fun e => h (E.inj _ _ e))]
      exact h2 t
  · by_cases h : t = s
    · subst h
      rw [show updG p t true t = true from if_pos rfl]
      exact Maps.has_put_same h1.isMap (E.law.key (E.key t)) _
    · rw [show updG p s true t = p t from if_neg h, Maps.has_put_other (fun e => h (E.inj _ _ e))]
      exact h3 t
end

/-- Strings as keys. -/
abbrev KS := { s : ByteArray // s.size ≤ maxLen }
def strKeys {P : Program} {k : TypeId} (hk : P.underlying k = some .string) : KeyE P k KS where
  law := Maps.string_keyed hk
  val s := .string s.1
  lit s := .string s.1.data.toList
  key s := WideMaps.keyOf_string_mk hk s.2
  inj x y h := by
    obtain ⟨x, hx⟩ := x
    obtain ⟨y, hy⟩ := y
    simp only [Lit.string.injEq] at h
    obtain ⟨x⟩ := x
    obtain ⟨y⟩ := y
    simp only at h
    simp [Array.toList_inj.1 h]
/-- Sets as keys. -/
def setKeys {P : Program} {k : TypeId} (hk : P.underlying k = some (.int .u32)) : KeyE P k S where
  law := Maps.int_keyed hk
  val := enc
  lit s := .int .u32 (iv s)
  key s := Maps.keyOf_int_mk hk (WalkArith.wf_u32 (by have := iv_nonneg s; have := iv_lt s; omega))
  inj x y h := by simp only [Lit.int.injEq] at h; exact iv_inj h.2

end Go.Proofs.YtcfcmalaabmceaaGreatDoor


/- The walk of keymine's witnesses. -/
namespace Go.Proofs.YtcfcmalaabmceaaGreatDoor
open Go.RowKit
set_option linter.unusedVariables false

/-! Plain. -/

theorem undSetK : Tryz.prog.underlying 47 = some (.int .u32) := by kernel_rfl
abbrev zW2 : Value := .agg #[.int .i64 0, .int .i64 0]
abbrev OwnW := OwnG (setKeys (P := Tryz.prog) (k := 47) undSetK) zW2
/-- 'append(out, y)' of one element of one cell, with the place of the new row. -/
theorem wpList_pushE {P : Program} {w : World} {ops : Array Oper} {rest : List Oper} {o : Oper} {a : Act} {Q : Exit → Act → World → Prop} {α : Type} (hgd : o.guard = none) (s x : Operand) (t : TypeId)
    (ho : o.op = .call { callee := .builtin .append, args := #[s, x], argTypes := #[t, t] })
    (B : Nat) (e : TypeId) (z : Value) (bytes : Nat) (ht : P.underlying t = some (.slice e)) (hinfo : (P.info? e).map (fun i => (i.zero, i.size, i.bytes)) = some (some z, 1, bytes)) (hz : z.cells.size = 1) (hb8 : bytes ≤ 64)
    (f : α → Value) (v : Value) (xs : List α) (hs : a.eval s = v) (hown : w.ownsRow B e 1 v xs.length (xs.map f))
    (ad : Addr) (y : α) (hf : (f y).oneCell' = true) (hx : a.eval x = .slice (some ad) 1 1) (hy : w.cell? ad = some (f y)) (hl : xs.length < 2199023255552) (hB : B ≤ w.heap.size)
    (h : ∀ v' w', w'.ownsRow B e 1 v' (xs ++ [y]).length ((xs ++ [y]).map f) → w.grownBy w' v.ownBlock → (v'.ownBlock = v.ownBlock ∨ v'.ownBlock = some w.heap.size) → wpList P ops Q rest (a.put o.dst v') w') : wpList P ops Q (o :: rest) a w := by
  refine wpList_pushB hgd s x t ho B e z 1 bytes ht hinfo hz (by decide) hb8 (fun y => [f y]) (fun _ => rfl) v xs hs (by rw [← List.map_eq_flatMap]; exact hown) ad y (by simpa using hf) hx ?_ hl hB ?_
  · intro j u hj
    match j, hj with
    | 0, hj => simp at hj; subst hj; rw [Addr.add_zero']; exact hy
  · intro v' w' h1 h2 h3
    rw [← List.map_eq_flatMap] at h1
    exact h v' w' h1 h2 h3


end Go.Proofs.YtcfcmalaabmceaaGreatDoor

