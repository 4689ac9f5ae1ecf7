/- Texts that belong together, in one file. -/
import Derived.Test.YtdiafhbbmliefaaGreatDoorGTab27
import Derived.Deep.RegionLaw
import Derived.Deep.RegionHeld3
import Derived.Deep.AppendLies
import Derived.Test.YtdiafhbbmliefaaGreatDoorGTab20
/- The tables of recipes: the walk of drossref03.Wide. -/
namespace Go.Proofs.YtdiafhbbmliefaaGreatDoor
open Go.RowKit

theorem wpList_pushB {α : Type} {P : Program} {w : World} {ops : Array Oper} {rest : List Oper} {o : Oper} {a : Act} {Q : Exit → Act → World → Prop} (hgd : o.guard = none) (s x : Operand) (t : TypeId)
    (ho : o.op = .call { callee := .builtin .append, args := #[s, x], argTypes := #[t, t] })
    (B : Nat) (e : TypeId) (z : Value) (n bytes : Nat) (ht : P.underlying t = some (.slice e)) (hinfo : (P.info? e).map (fun i => (i.zero, i.size, i.bytes)) = some (some z, n, bytes)) (hz : z.cells.size = n) (hn : 0 < n) (hb8 : bytes ≤ 64)
    (c : α → List Value) (hc : ∀ y, (c y).length = n) (v : Value) (xs : List α) (hs : a.eval s = v) (hown : w.ownsRow B e n v xs.length (xs.flatMap c))
    (ad : Addr) (y : α) (hf : ∀ u ∈ c y, u.oneCell' = true) (hx : a.eval x = .slice (some ad) 1 1) (hy : ∀ j u, (c y)[j]? = some u → w.cell? (ad.add j) = some u) (hl : xs.length < 2199023255552) (hB : B ≤ w.heap.size)
    (h : ∀ v' w', w'.ownsRow B e n v' (xs ++ [y]).length ((xs ++ [y]).flatMap c) → w.grownBy w' v.ownBlock → (v'.ownBlock = v.ownBlock ∨ v'.ownBlock = some w.heap.size) → wpList P ops Q rest (a.put o.dst v') w') : wpList P ops Q (o :: rest) a w := by
  obtain ⟨i, hi, hz0, hz1, hz2⟩ := info_parts hinfo
  refine wpList_append_lies w hgd s x t ho B e i z n bytes ht hi hz0 hz1 hz2 hz hn v xs.length (xs.flatMap c) hs hown ad 1 1 (c y) hx (by rw [hc, Nat.one_mul]) hy hf (by omega) ?_ ?_ hB _ rfl ?_
  · unfold maxLen; omega
  · refine Nat.le_trans (Nat.mul_le_mul_left _ hb8) ?_; omega
  · intro g cap w' h1 h2 h3 _
    refine h _ w' ?_ h2 (h3.elim (fun e => .inl e.symm) fun e => .inr (by rw [e]; rfl))
    simpa using h1
/-- A row of a recipe: its slice, its length, its codes. -/
abbrev RcR := Value × Nat × (Nat → U8)
def RdU (w : World) (r : RcR) : Prop := ∃ ao cap, r.1 = .slice ao r.2.1 cap ∧ r.2.1 ≤ 140737488355328 ∧ ∀ i, i < r.2.1 → ∃ b off, ao = some ⟨b, off, none⟩ ∧ b < w.heap.size ∧ w.cell? ⟨b, off + i, none⟩ = some (enc8 (r.2.2 i))
theorem RdU.below {w w' : World} {r : RcR} (h : RdU w r) (hb : Below w.heap.size w w') : RdU w' r := by
  obtain ⟨ao, cap, h1, h2, h3⟩ := h
  refine ⟨ao, cap, h1, h2, fun i hi => ?_⟩
  obtain ⟨b, off, e, hlt, hc⟩ := h3 i hi
  exact ⟨b, off, e, Nat.lt_of_lt_of_le hlt hb.size, (hb.cell (p := ⟨b, off + i, none⟩) hlt).trans hc⟩
def cRc (r : RcR) : List Value := [r.1]
theorem cRc_length (r : RcR) : (cRc r).length = 1 := rfl
def RdRc (w : World) (v : Value) (rr : List RcR) : Prop := RdC cRc w v rr ∧ ∀ r ∈ rr, RdU w r
theorem RdRc.below {w w' : World} {v : Value} {rr : List RcR} (h : RdRc w v rr) (hb : Below w.heap.size w w') : RdRc w' v rr := ⟨RdC.below h.1 hb, fun r hr => (h.2 r hr).below hb⟩
theorem RdRc.split {w : World} {v : Value} {rr : List RcR} (h : RdRc w v rr) : ∃ ao cap, v = .slice ao rr.length cap ∧ rr.length ≤ 35184372088832 ∧
    ∀ (k : Nat) (r : RcR), rr[k]? = some r → (∃ b off, ao = some ⟨b, off, none⟩ ∧ ∀ wr, Below w.heap.size w wr → wr.cell? ⟨b, off + k, none⟩ = some r.1) ∧ ∀ wr, Below w.heap.size w wr → RdU wr r := by
  obtain ⟨⟨ao, cap, rfl, -, h2, h3⟩, h4⟩ := h
  refine ⟨ao, cap, rfl, h2, fun k r hr => ⟨?_, fun wr hn => (h4 r (List.mem_of_getElem? hr)).below hn⟩⟩
  obtain ⟨b, off, rfl, hb, hc⟩ := h3 (by have := (List.getElem?_eq_some_iff.1 hr).1; omega)
  exact ⟨b, off, rfl, fun wr hn => (hn.cell (p := ⟨b, off + k, none⟩) hb).trans (by have := hc _ _ (flat_at cRc_length rr k r 0 _ hr rfl); simpa using this)⟩
/-- The value of a cell of a recipe. -/
def codeR (r : RcR) (k : Nat) : Nat := if k < r.2.1 then (r.2.2 k).toNat % 12 else 0
def valsR (r : RcR) (n : Nat) : List V3 := (List.range n).map fun k => codeV (codeR r k)
theorem valsR_next (r : RcR) (n : Nat) : valsR r (n + 1) = valsR r n ++ [codeV (codeR r n)] := by unfold valsR; rw [List.range_succ, List.map_append]; rfl
theorem valsR_length (r : RcR) (n : Nat) : (valsR r n).length = n := by unfold valsR; simp
def nameN (n : Nat) : List ByteArray := [ByteArray.mk #[97], ByteArray.mk #[98], ByteArray.mk #[99], ByteArray.mk #[100], ByteArray.mk #[101], ByteArray.mk #[102], ByteArray.mk #[103], ByteArray.mk #[104]].take n
theorem nameN_length {n : Nat} (h : n ≤ 8) : (nameN n).length = n := by unfold nameN; rw [List.length_take]; simp; omega
/-- A slice that does not lie in a block. -/
def FarV (v : Value) (o : Option Nat) : Prop := ∀ a len cap, v = .slice (some a) len cap → 0 < len → o ≠ some a.block
theorem RdC.grown {α : Type} {c : α → List Value} {w w' : World} {v : Value} {xs : List α} {o : Option Nat} (h : RdC c w v xs) (hg : w.grownBy w' o) (hf : FarV v o) : RdC c w' v xs := by
  obtain ⟨ao, cap, rfl, h1, h2, h3⟩ := h
  refine ⟨ao, cap, rfl, h1, h2, fun hp => ?_⟩
  obtain ⟨b, off, rfl, hlt, hc⟩ := h3 hp
  refine ⟨b, off, rfl, Nat.lt_of_lt_of_le hlt hg.size, fun j u hu => ?_⟩
  exact (World.cell?_of_block (a := ⟨b, off + j, none⟩) (hg.block b hlt (fun e => hf _ _ _ rfl hp e.symm))).trans (hc j u hu)

theorem RdC.setFar {α : Type} {c : α → List Value} {w : World} {v u : Value} {xs : List α} {p : Addr} (h : RdC c w v xs) (hf : FarV v (some p.block)) : RdC c (w.setCell p u) v xs := by
  obtain ⟨ao, cap, rfl, h1, h2, h3⟩ := h
  refine ⟨ao, cap, rfl, h1, h2, fun hp => ?_⟩
  obtain ⟨b, off, rfl, hlt, hc⟩ := h3 hp
  have hb : p.block ≠ b := fun e => hf _ _ _ rfl hp (by rw [e])
  refine ⟨b, off, rfl, by simpa [World.setCell] using hlt, fun j u hu => ?_⟩
  exact (World.cell?_setCell_far w p ⟨b, off + j, none⟩ _ hb).trans (hc j u hu)
theorem cells_newR (w : World) (y : Row3) {t : TypeId} : ∀ j u, (cR y)[j]? = some u → (w.alloc (.cells #[.int .i64 y.1, y.2.1] t)).cell? (Addr.add ⟨w.heap.size, 0, none⟩ j) = some u := by
  intro j u hj
  have hj2 : j < 2 := (List.getElem?_eq_some_iff.1 hj).1
  rcases (show j = 0 ∨ j = 1 by omega) with rfl | rfl <;> (simp [cR] at hj; subst hj; simp [Addr.add])
theorem infoRow : (Tryz.prog.info? 44).map (fun i => (i.zero, i.size, i.bytes)) = some (some (.agg #[.int .i64 0, .slice none 0 0]), 2, 32) := by kernel_rfl
theorem undRows : Tryz.prog.underlying 46 = some (.slice 44) := by kernel_rfl
theorem infoStr : (Tryz.prog.info? 9).map (fun i => (i.zero, i.size, i.bytes)) = some (some (.string (ByteArray.mk #[])), 1, 16) := by kernel_rfl
theorem undStrs : Tryz.prog.underlying 28 = some (.slice 9) := by kernel_rfl

/-- A table whose slices lie in no block below B. -/
def FreT (B : Nat) (av tv : Value) (rs : List Row3) : Prop := ∀ j, j < B → FarV av (some j) ∧ FarV tv (some j) ∧ ∀ r ∈ rs, FarV r.2.1 (some j)
theorem set3w {W : World} {b : Nat} {x y z x' y' z' : Value} (h0 : W.cell? ⟨b, 0, none⟩ = some x') (h1 : W.cell? ⟨b, 1, none⟩ = some y') (h2 : W.cell? ⟨b, 2, none⟩ = some z') {W3 : World} (hW : ((W.setCell ⟨b, 0, none⟩ x).setCell ⟨b, 1, none⟩ y).setCell ⟨b, 2, none⟩ z = W3) :
    W3.cell? ⟨b, 0, none⟩ = some x ∧ W3.cell? ⟨b, 1, none⟩ = some y ∧ W3.cell? ⟨b, 2, none⟩ = some z := by
  subst hW
  refine ⟨?_, ?_, ?_⟩
  · rw [World.cell?_setCell_other _ _ _ _ (by simp), World.cell?_setCell_other _ _ _ _ (by simp)]; exact World.cell?_setCell_same _ _ _ h0
  · rw [World.cell?_setCell_other _ _ _ _ (by simp)]; exact World.cell?_setCell_same _ _ _ ((World.cell?_setCell_other _ _ _ _ (by simp)).trans h1)
  · exact World.cell?_setCell_same _ _ _ ((World.cell?_setCell_other _ _ _ _ (by simp)).trans ((World.cell?_setCell_other _ _ _ _ (by simp)).trans h2))
theorem RdC.set3 {α : Type} {c : α → List Value} {W : World} {v x y z : Value} {xs : List α} {b : Nat} (h : RdC c W v xs) (hf : FarV v (some b)) : RdC c (((W.setCell ⟨b, 0, none⟩ x).setCell ⟨b, 1, none⟩ y).setCell ⟨b, 2, none⟩ z) v xs :=
  RdC.setFar (p := ⟨b, 2, none⟩) (RdC.setFar (p := ⟨b, 1, none⟩) (RdC.setFar (p := ⟨b, 0, none⟩) h hf) hf) hf
theorem RdE.setFar {α : Type} {f : α → Value} {w : World} {v u : Value} {xs : List α} {p : Addr} (h : RdE f w v xs) (hf : FarV v (some p.block)) : RdE f (w.setCell p u) v xs := by
  obtain ⟨ao, cap, rfl, h1, h2, h3⟩ := h
  refine ⟨ao, cap, rfl, h1, h2, fun hp => ?_⟩
  obtain ⟨b, off, rfl, hlt, hc⟩ := h3 hp
  have hb : p.block ≠ b := fun e => hf _ _ _ rfl hp (by rw [e])
  refine ⟨b, off, rfl, by simpa [World.setCell] using hlt, fun j x hx => ?_⟩
  exact (World.cell?_setCell_far w p ⟨b, off + j, none⟩ _ hb).trans (hc j x hx)
theorem RdE.set3 {α : Type} {f : α → Value} {W : World} {v x y z : Value} {xs : List α} {b : Nat} (h : RdE f W v xs) (hf : FarV v (some b)) : RdE f (((W.setCell ⟨b, 0, none⟩ x).setCell ⟨b, 1, none⟩ y).setCell ⟨b, 2, none⟩ z) v xs :=
  RdE.setFar (p := ⟨b, 2, none⟩) (RdE.setFar (p := ⟨b, 1, none⟩) (RdE.setFar (p := ⟨b, 0, none⟩) h hf) hf) hf
theorem far_own {w : World} {B b n : Nat} {e : TypeId} {size : Nat} {v : Value} {xs : List Value} (h : w.ownsRow B e size v n xs) (hb : b < B) : FarV v (some b) := by
  intro a len cap e1 hl e2
  have hv : v.ownBlock = some a.block := by rw [e1]; rfl
  have := (h.lt _ hv).1
  simp at e2; omega


end Go.Proofs.YtdiafhbbmliefaaGreatDoor


/- The tables of recipes are valid. No program. -/
namespace Go.Proofs.YtdiafhbbmliefaaGreatDoor
open Go.RowKit
set_option linter.unusedSimpArgs false

theorem nm_ok : nameB (ByteArray.mk #[114]) = true ∧ (∀ s ∈ nameN 8, nameB s = true) := by
  refine ⟨?_, ?_⟩
  · unfold nameB; simp only [ByteArray.toList_eq]; decide +kernel
  · intro s hs
    unfold nameN at hs
    simp only [List.take_succ_cons, List.take_zero, List.mem_cons, List.not_mem_nil, or_false] at hs
    rcases hs with rfl | rfl | rfl | rfl | rfl | rfl | rfl | rfl <;> (unfold nameB; simp only [ByteArray.toList_eq]; decide +kernel)
theorem attrsBad_take {ats : List ByteArray} (h : attrsBad ats = false) (n : Nat) : attrsBad (ats.take n) = false := by
  unfold attrsBad at *
  rw [List.any_eq_false] at *
  intro i hi
  have hi' := List.mem_range.1 hi
  rw [List.length_take] at hi'
  have h1 := h i (List.mem_range.2 (by omega))
  unfold attrBad at *
  rw [List.take_take, show min i n = i by omega]
  have e : (ats.take n).getD i (ByteArray.mk #[]) = ats.getD i (ByteArray.mk #[]) := by
    rw [List.getD_eq_getElem?_getD, List.getD_eq_getElem?_getD, List.getElem?_take_of_lt (by omega)]
  rw [e]; exact h1
theorem nm_attrs (n : Nat) : attrsBad (nameN n) = false := by
  have h8 : attrsBad (nameN 8) = false := by
    have H := nm_ok.2
    have q : ∀ i, i < 8 → nameB ((nameN 8).getD i (ByteArray.mk #[])) = true := fun i hi => by
      apply H
      rw [List.getD_eq_getElem?_getD, List.getElem?_eq_getElem (by rw [nameN_length (by omega)]; exact hi)]
      exact List.getElem_mem _
    unfold attrsBad attrBad
    rw [nameN_length (by omega), List.any_eq_false]
    intro i hi
    have hi' := List.mem_range.1 hi
    rw [q i hi']
    unfold nameN eqT
    rcases (show i = 0 ∨ i = 1 ∨ i = 2 ∨ i = 3 ∨ i = 4 ∨ i = 5 ∨ i = 6 ∨ i = 7 by omega) with rfl | rfl | rfl | rfl | rfl | rfl | rfl | rfl <;> simp [ByteArray.toList_eq]
  have := attrsBad_take h8 n
  unfold nameN at *
  rw [List.take_take] at this
  by_cases h : n ≤ 8
  · rwa [show min n 8 = n by omega] at this
  · rw [show min n 8 = 8 by omega] at this
    rw [List.take_of_length_le (by simp; omega)]
    rw [List.take_of_length_le (by simp)] at this
    exact this
/-- The numbers are of 64 bits. -/
def NumR (rs : List Row3) : Prop := ∀ r ∈ rs, ∀ x ∈ r.2.2, -9223372036854775808 ≤ x.2.1 ∧ x.2.1 < 9223372036854775808

end Go.Proofs.YtdiafhbbmliefaaGreatDoor


/- The walk of drossref03.Table. -/
namespace Go.Proofs.YtdiafhbbmliefaaGreatDoor
open Go.RowKit
set_option linter.unusedVariables false

theorem RdT.set3 {W : World} {x y z av rv : Value} {t : T3} {b : Nat} (h : RdT W av rv t) (h1 : FarV av (some b)) (h2 : FarV rv (some b)) (h3 : ∀ r ∈ t.2.2, FarV r.2.1 (some b)) : RdT (((W.setCell ⟨b, 0, none⟩ x).setCell ⟨b, 1, none⟩ y).setCell ⟨b, 2, none⟩ z) av rv t :=
  ⟨RdE.set3 h.1 h1, RdC.set3 h.2.1 h2, fun r hr => RdC.set3 (h.2.2 r hr) (h3 r hr)⟩



end Go.Proofs.YtdiafhbbmliefaaGreatDoor


/- The law AgreeLarge. -/
namespace Go.Proofs.YtdiafhbbmliefaaGreatDoor
open Go.RowKit
set_option linter.unusedVariables false

def numV (n : Int) : V3 := (1, n, ByteArray.mk #[])
theorem numV_ok (n : Int) : badV (numV n) = false := by
  unfold badV validV numV
  rw [ByteArray.toList_eq]
  rfl
theorem rowsE_inc (m : Nat) : ∀ (rs : List Row3) (k : Nat) (last : Int), (∀ (j : Nat) (r : Row3), rs[j]? = some r → r.1 = (k : Int) + j + 1 ∧ r.2.2.length = m ∧ r.2.2.any badV = false) → last < (k : Int) + 1 → rowsE last m rs = 0 := by
  intro rs
  induction rs with
  | nil => intro k last _ _; rfl
  | cons r rs ih =>
    intro k last h hl
    obtain ⟨h1, h2, h3⟩ := h 0 r rfl
    unfold rowsE
    rw [if_neg (by rw [h1]; simp; omega), if_neg (by rw [h2]; simp), if_neg (by rw [h3]; simp)]
    refine ih (k + 1) r.1 (fun j r' hr' => ?_) (by rw [h1]; simp; omega)
    obtain ⟨a, b, c⟩ := h (j + 1) r' (by simpa using hr')
    exact ⟨by rw [a]; simp; omega, b, c⟩
theorem step_pushB {α : Type} {P : Program} {w : World} {ops : Array Oper} {o : Oper} {a : Act} {K : Act → World → Prop} {Q : Exit → Act → World → Prop} {E : Prop} (hgd : o.guard = none) (s x : Operand) (t : TypeId)
    (ho : o.op = .call { callee := .builtin .append, args := #[s, x], argTypes := #[t, t] })
    (B : Nat) (e : TypeId) (z : Value) (n bytes : Nat) (ht : P.underlying t = some (.slice e)) (hinfo : (P.info? e).map (fun i => (i.zero, i.size, i.bytes)) = some (some z, n, bytes)) (hz : z.cells.size = n) (hn : 0 < n) (hb8 : bytes ≤ 64)
    (c : α → List Value) (hc : ∀ y, (c y).length = n) (v : Value) (xs : List α) (hs : a.eval s = v) (hown : w.ownsRow B e n v xs.length (xs.flatMap c))
    (ad : Addr) (y : α) (hf : ∀ u ∈ c y, u.oneCell' = true) (hx : a.eval x = .slice (some ad) 1 1) (hy : ∀ j u, (c y)[j]? = some u → w.cell? (ad.add j) = some u) (hl : xs.length < 2199023255552) (hB : B ≤ w.heap.size)
    (h : ∀ v' w', w'.ownsRow B e n v' (xs ++ [y]).length ((xs ++ [y]).flatMap c) → w.grownBy w' v.ownBlock → (v'.ownBlock = v.ownBlock ∨ v'.ownBlock = some w.heap.size) → K (a.put o.dst v') w') :
    if Region.wanted o (yielded ops a.tmps) = true then Oper.wp P o a w K Q else E := by
  obtain ⟨i, hi, hz0, hz1, hz2⟩ := info_parts hinfo
  refine step_append_lies w hgd s x t ho B e i z n bytes ht hi hz0 hz1 hz2 hz hn v xs.length (xs.flatMap c) hs hown ad 1 1 (c y) hx (by rw [hc, Nat.one_mul]) hy hf (by omega) ?_ ?_ hB _ rfl ?_
  · unfold maxLen; omega
  · refine Nat.le_trans (Nat.mul_le_mul_left _ hb8) ?_; omega
  · intro g cap w' h1 h2 h3 _
    refine h _ w' ?_ h2 (h3.elim (fun e => .inl e.symm) fun e => .inr (by rw [e]; rfl))
    simpa using h1

end Go.Proofs.YtdiafhbbmliefaaGreatDoor


/- The law AgreeLarge: the walk. -/
namespace Go.Proofs.YtdiafhbbmliefaaGreatDoor
open Go.RowKit
set_option linter.unusedVariables false

attribute [local irreducible] Go.wpQuiet

end Go.Proofs.YtdiafhbbmliefaaGreatDoor

