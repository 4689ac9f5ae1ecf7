/- Texts that belong together, in one file. -/
import Derived.Deep.AppendLies
import Derived.Test.YtcfcmalaabmceaaGreatDoorApp0
import Derived.Test.YtcfcmalaabmceaaGreatDoorGFd
import Derived.RegionTactic
import Derived.Deep.RegionHeld3
import Derived.Test.YtcfcmalaabmceaaGreatDoorGPlain
import Derived.Test.YtcfcmalaabmceaaGreatDoorListD
import Derived.Test.YtcfcmalaabmceaaGreatDoorAfter
import Derived.Test.YtcfcmalaabmceaaGreatDoorGWalk
import Derived.Test.YtcfcmalaabmceaaGreatDoorCells
import Derived.Laws.StructEq
import Derived.Deep.QuietTactic
import Derived.BigQuiet
import Derived.Test.YtcfcmalaabmceaaGreatDoorGKm2
import Derived.Laws.OwnMore
/- 'append(out, ys...)' of a whole list onto a row of the call's own; parts of a list; the walks of slices.Grow and slices.Concat at dependencies. -/
namespace Go.Proofs.YtcfcmalaabmceaaGreatDoor
open Go.RowKit

section
variable {α : Type} {c : α → List Value} {n : Nat}
/-- The beginning and the end of a list. -/
theorem RdC.take {w : World} {b off len cap k : Nat} {xs : List α} (h : RdC c w (.slice (some ⟨b, off, none⟩) len cap) xs) (hk : k ≤ xs.length) : RdC c w (.slice (some ⟨b, off, none⟩) k cap) (xs.take k) := by
  obtain ⟨ao, cap', he, h1, h2, h3⟩ := h
  cases he
  refine ⟨_, _, by rw [List.length_take, Nat.min_eq_left hk], by rw [List.length_take]; omega, by rw [List.length_take]; omega, fun hp => ?_⟩
  obtain ⟨b', off', e, hb, hc'⟩ := h3 (by rw [List.length_take] at hp; omega)
  cases e
  refine ⟨b, off, rfl, hb, fun j u hu => hc' j u ?_⟩
  have : xs.flatMap c = (xs.take k).flatMap c ++ (xs.drop k).flatMap c := by rw [← List.flatMap_append, List.take_append_drop]
  rw [this, List.getElem?_append_left (List.getElem?_eq_some_iff.1 hu).1]; exact hu
theorem RdC.drop {w : World} {b off len cap k : Nat} {xs : List α} (hc : ∀ x, (c x).length = n) (h : RdC c w (.slice (some ⟨b, off, none⟩) len cap) xs) (hk : k ≤ xs.length) : RdC c w (.slice (if cap = k then some ⟨b, off, none⟩ else some ⟨b, off + k * n, none⟩) (len - k) (cap - k)) (xs.drop k) := by
  obtain ⟨ao, cap', he, h1, h2, h3⟩ := h
  cases he
  refine ⟨_, _, by rw [List.length_drop], by rw [List.length_drop]; omega, by rw [List.length_drop]; omega, fun hp => ?_⟩
  have hlt : k < xs.length := by rw [List.length_drop] at hp; omega
  obtain ⟨b', off', e, hb, hc'⟩ := h3 (by omega)
  cases e
  refine ⟨b, off + k * n, by rw [if_neg (by omega)], hb, fun j u hu => ?_⟩
  have e2 : xs.flatMap c = (xs.take k).flatMap c ++ (xs.drop k).flatMap c := by rw [← List.flatMap_append, List.take_append_drop]
  have := hc' (k * n + j) u (by
    rw [e2, List.getElem?_append_right (by rw [flat_length hc, List.length_take, Nat.min_eq_left hk]; omega), flat_length hc, List.length_take, Nat.min_eq_left hk, Nat.add_sub_cancel_left]; exact hu)
  rw [← Nat.add_assoc] at this; exact this
end


end Go.Proofs.YtcfcmalaabmceaaGreatDoor


/- The walks of slices.Concat at two lists of dependencies, and of cover's others, extraneous and redundant. -/
namespace Go.Proofs.YtcfcmalaabmceaaGreatDoor
open Go.RowKit

theorem RdC.form {α : Type} {c : α → List Value} {w : World} {v : Value} {xs : List α} (h : RdC c w v xs) : ∃ ao cap, v = .slice ao xs.length cap := by
  obtain ⟨ao, cap, rfl, _⟩ := h; exact ⟨ao, cap, rfl⟩


end Go.Proofs.YtcfcmalaabmceaaGreatDoor


/- The walks of cover's others, extraneous and redundant. -/
namespace Go.Proofs.YtcfcmalaabmceaaGreatDoor
open Go.RowKit


end Go.Proofs.YtcfcmalaabmceaaGreatDoor


/- The walks of cover's extraneous and redundant. -/
namespace Go.Proofs.YtcfcmalaabmceaaGreatDoor
open Go.RowKit



end Go.Proofs.YtcfcmalaabmceaaGreatDoor


/- slices.Contains and slices.Equal at dependencies. -/
namespace Go.Proofs.YtcfcmalaabmceaaGreatDoor
open Go.RowKit Go.Shelf Go.Lib





end Go.Proofs.YtcfcmalaabmceaaGreatDoor


/- The walks of cover's once and Split. -/
namespace Go.Proofs.YtcfcmalaabmceaaGreatDoor
open Go.RowKit



end Go.Proofs.YtcfcmalaabmceaaGreatDoor


/- A row of the call's own that grows while other rows of the call's own are read: what stays. No program. -/
namespace Go.Proofs.YtcfcmalaabmceaaGreatDoor
open Go.RowKit

/-- From the world wm on, with the row of vm: now wr, with the row of v; no other block of wm has changed. -/
structure Grow1 (wm : World) (vm : Value) (wr : World) (v : Value) : Prop where
  grown : wm.grownBy wr vm.ownBlock
  own : v.ownBlock = vm.ownBlock ∨ ∃ g, v.ownBlock = some g ∧ wm.heap.size ≤ g

theorem Grow1.refl (w : World) (v : Value) : Grow1 w v w v := ⟨World.grownBy.refl w _, .inl rfl⟩
theorem Grow1.size {wm wr : World} {vm v : Value} (h : Grow1 wm vm wr v) : wm.heap.size ≤ wr.heap.size := h.grown.size
theorem Grow1.below {wm wr w' : World} {vm v : Value} (h : Grow1 wm vm wr v) (hb : Below wr.heap.size wr w') : Grow1 wm vm w' v :=
  ⟨⟨hb.os.trans h.grown.os, hb.tape.trans h.grown.tape, hb.output.trans h.grown.output, Nat.le_trans h.grown.size hb.size, fun k hk hne => (hb.block k (Nat.lt_of_lt_of_le hk h.grown.size)).trans (h.grown.block k hk hne)⟩, h.own⟩
theorem Grow1.alloc {wm wr : World} {vm v : Value} (h : Grow1 wm vm wr v) (o : Obj) : Grow1 wm vm (wr.alloc o) v := h.below (below_alloc _ _)
theorem Grow1.drew {wm wr : World} {vm v : Value} (h : Grow1 wm vm wr v) : Grow1 wm vm wr.drew v := h.below (Below.refl _ _).drew
theorem Grow1.push {wm wr w1 : World} {vm v v' : Value} (h : Grow1 wm vm wr v) (hg : wr.grownBy w1 v.ownBlock) (ho : v'.ownBlock = v.ownBlock ∨ v'.ownBlock = some wr.heap.size) : Grow1 wm vm w1 v' := by
  refine ⟨⟨hg.os.trans h.grown.os, hg.tape.trans h.grown.tape, hg.output.trans h.grown.output, Nat.le_trans h.grown.size hg.size, fun k hk hne => ?_⟩, ?_⟩
  · refine (hg.block k (Nat.lt_of_lt_of_le hk h.grown.size) ?_).trans (h.grown.block k hk hne)
    rcases h.own with e | ⟨g, e, hl⟩
    · rw [e]; exact hne
    · rw [e]; intro e2; cases e2; omega
  · rcases ho with e | e
    · rw [e]; exact h.own
    · exact .inr ⟨_, e, h.grown.size⟩
theorem Grow1.cell {wm wr : World} {vm v : Value} (h : Grow1 wm vm wr v) (p : Addr) (hlt : p.block < wm.heap.size) (hne : some p.block ≠ vm.ownBlock) : wr.cell? p = wm.cell? p :=
  World.cell?_of_block (h.grown.block p.block hlt hne)
/-- Nothing below the row's base has changed. -/
theorem Grow1.of_below {B : Nat} {wm wr : World} {vm v : Value} {e : TypeId} {size n : Nat} {xs : List Value} {w : World} (h : Grow1 wm vm wr v) (hb : Below B w wm) (hown : wm.ownsRow B e size vm n xs) (hB : B ≤ wm.heap.size) : Below B w wr :=
  hb.grown h.grown hB (fun j hj => (hown.lt j hj).1)
/-- A row that lies elsewhere reads as before. -/
theorem Grow1.far {wm wr : World} {vm v : Value} {u : Value} {m : Nat} {e' : TypeId} {size' : Nat} {ys : List Value} {B' : Nat} (h : Grow1 wm vm wr v) (hu : wm.ownsRow B' e' size' u m ys) (hne : ∀ g, vm.ownBlock = some g → u.ownBlock = some g → False) : wr.ownsRow B' e' size' u m ys := by
  refine ⟨hu.1, ?_⟩
  rcases hu.2 with h' | ⟨g, cap, cur, hv, hg, hc, rest⟩
  · exact .inl h'
  · refine .inr ⟨g, cap, cur, hv, hg, (h.grown.block g (Array.getElem?_eq_some_iff.1 hc).1 ?_).trans hc, rest⟩
    intro e
    exact hne g e.symm (by rw [hv]; rfl)

section
variable {α : Type}
theorem step_pushCo {P : Program} {w : World} {ops : Array Oper} {o : Oper} {a : Act} {K : Act → World → Prop} {Q : Exit → Act → World → Prop} {E : Prop} (hgd : o.guard = none) (s x : Operand) (t : TypeId)
    (ho : o.op = .call { callee := .builtin .append, args := #[s, x], argTypes := #[t, t] })
    (B : Nat) (e : TypeId) (z : Value) (n bytes : Nat) (ht : P.underlying t = some (.slice e)) (hinfo : (P.info? e).map (fun i => (i.zero, i.size, i.bytes)) = some (some z, n, bytes)) (hz : z.cells.size = n) (hn : 0 < n) (hb8 : bytes ≤ 64)
    (c : α → List Value) (hc : ∀ y, (c y).length = n) (hf : ∀ y, ∀ u ∈ c y, u.oneCell' = true) (v : Value) (xs : List α) (hs : a.eval s = v) (hown : w.ownsRow B e n v xs.length (xs.flatMap c))
    (ad : Addr) (y : α) (hx : a.eval x = .slice (some ad) 1 1) (hy : ∀ j u, (c y)[j]? = some u → w.cell? (ad.add j) = some u) (hl : xs.length < 2199023255552) (hB : B ≤ w.heap.size)
    (h : ∀ v' w', w'.ownsRow B e n v' (xs ++ [y]).length ((xs ++ [y]).flatMap c) → w.grownBy w' v.ownBlock → (v'.ownBlock = v.ownBlock ∨ v'.ownBlock = some w.heap.size) → K (a.put o.dst v') w') :
    if Region.wanted o (yielded ops a.tmps) = true then Oper.wp P o a w K Q else E := by
  obtain ⟨i, hi, hz0, hz1, hz2⟩ := info_parts hinfo
  refine step_append_lies w hgd s x t ho B e i z n bytes ht hi hz0 hz1 hz2 hz hn v xs.length (xs.flatMap c) hs hown ad 1 1 (c y) hx (by rw [hc, Nat.one_mul]) hy (hf y) (by omega) ?_ ?_ hB _ rfl ?_
  · unfold maxLen; omega
  · refine Nat.le_trans (Nat.mul_le_mul_left _ hb8) ?_; omega
  · intro g cap w' h1 h2 h3 _
    refine h _ w' ?_ h2 (h3.elim (fun e => .inl e.symm) fun e => .inr (by rw [e]; rfl))
    simpa using h1
end


end Go.Proofs.YtcfcmalaabmceaaGreatDoor


/- The walk of cover's Split. -/
namespace Go.Proofs.YtcfcmalaabmceaaGreatDoor
open Go.RowKit



end Go.Proofs.YtcfcmalaabmceaaGreatDoor


/- The walk of cover's minimal. -/
namespace Go.Proofs.YtcfcmalaabmceaaGreatDoor
open Go.RowKit

theorem Grow1.stored {wm wr w' : World} {vm : Value} (h : Grow1 wm vm wr vm) (hg : wr.grownBy w' vm.ownBlock) : Grow1 wm vm w' vm := h.push hg (.inl rfl)


end Go.Proofs.YtcfcmalaabmceaaGreatDoor

