/- Texts that belong together, in one file. -/
import Derived.Test.YtciamnkalmihcaaDoorGrowQ
import Derived.Test.YtciamnkalmihcaaDoorFdV
import Derived.RegionTactic
import Derived.Deep.RegionHeld3
import Derived.Test.YtciamnkalmihcaaDoorGPlain
import Derived.Test.YtciamnkalmihcaaDoorFd2
import Derived.Test.YtciamnkalmihcaaDoorListD
import Derived.Test.YtciamnkalmihcaaDoorAfter
import Derived.Test.YtciamnkalmihcaaDoorEqQ
import Derived.Test.YtciamnkalmihcaaDoorGWalk
import Derived.Test.YtciamnkalmihcaaDoorCells
import Derived.Laws.StructEq
import Derived.Deep.QuietTactic
import Derived.BigQuiet
import Derived.Test.YtciamnkalmihcaaDoorTz
import Derived.Laws.OwnMore
/- 'append(out, ys...)' of a whole list onto a row of the call's own; parts of a list; the walks of slices.Grow and slices.Concat at dependencies. -/
namespace Go.Proofs.YtciamnkalmihcaaDoor
open Go.RowKit

section
variable {α : Type} {c : α → List Value} {n : Nat}
theorem run_append_nilC {P : Program} {w : World} (base : Nat) (t ty e : TypeId) (i : TypeInfo) (size : Nat) (ht : P.underlying t = some (.slice e)) (hi : P.info? e = some i)
    (v : Value) (n : Nat) (xs : List Value) (hown : w.ownsRow base e size v n xs) (cp : Nat) : (Builtin.append_ #[t, t] ty #[v, .slice none 0 cp]).run P w = .ok v w := by
  rcases hown.2 with ⟨rfl, rfl⟩ | ⟨g, cap, cur, rfl, _, _, hnc, _⟩
  · simp [Builtin.append_, run_underlying ht, sizeOf, typeInfo, hi, Builtin.lenOf, Builtin.firstCells]
  · simp [Builtin.append_, run_underlying ht, sizeOf, typeInfo, hi, Builtin.lenOf, Builtin.firstCells, hnc, storeCells]
theorem run_appC {P : Program} {w : World} (B : Nat) (t ty e : TypeId) (z : Value) (bytes : Nat) (ht : P.underlying t = some (.slice e)) (hinfo : (P.info? e).map (fun i => (i.zero, i.size, i.bytes)) = some (some z, n, bytes)) (hz : z.cells.size = n) (hn : 0 < n) (hb8 : bytes ≤ 64)
    (hc : ∀ y, (c y).length = n) (hf : ∀ y, ∀ u ∈ c y, u.oneCell' = true) (v : Value) (xs : List α) (hown : w.ownsRow B e n v xs.length (xs.flatMap c))
    (u : Value) (ys : List α) (hu : RdC c w u ys) (hl : xs.length + ys.length < 2199023255552) (hB : B ≤ w.heap.size) :
    ∃ v' w', (Builtin.append_ #[t, t] ty #[v, u]).run P w = .ok v' w' ∧ w'.ownsRow B e n v' (xs ++ ys).length ((xs ++ ys).flatMap c) ∧ w.grownBy w' v.ownBlock := by
  obtain ⟨i, hi, hz0, hz1, hz2⟩ := info_parts hinfo
  obtain ⟨ao, cap, rfl, h1, h2, h3⟩ := hu
  cases ao with
  | none =>
    have hy : ys = [] := by
      cases ys with
      | nil => rfl
      | cons x l => obtain ⟨b, off, h, _⟩ := h3 (by simp); cases h
    subst hy
    exact ⟨v, w, run_append_nilC B t ty e i n ht hi v _ _ hown cap, by simpa using hown, World.grownBy.refl w _⟩
  | some a =>
    have hlen := flat_length hc ys
    have hcells : ∀ (j : Nat) (u : Value), (ys.flatMap c)[j]? = some u → w.cell? (a.add j) = some u := by
      intro j u hu
      have hj : j < (ys.flatMap c).length := (List.getElem?_eq_some_iff.1 hu).1
      obtain ⟨b, off, e, _, hc'⟩ := h3 (by
        apply Nat.pos_of_ne_zero; intro h0
        rw [hlen, h0] at hj; simp at hj)
      cases e
      rw [Addr.add_lit]
      exact hc' j u hu
    obtain ⟨v', w', hrun, h5, h6, _⟩ := run_append_own (P := P) w B t ty e i z n bytes ht hi hz0 hz1 hz2 hz hn v xs.length (xs.flatMap c) hown a ys.length cap (ys.flatMap c) hlen hcells
      (fun u hu => by obtain ⟨y, _, hy⟩ := List.mem_flatMap.1 hu; exact hf y u hy) (by unfold maxLen; omega) (by refine Nat.le_trans (Nat.mul_le_mul_left _ hb8) ?_; omega) hB
    exact ⟨v', w', hrun, by simpa using h5, h6⟩
theorem wp_appC {P : Program} {w : World} {o : Oper} {a : Act} {K : Act → World → Prop} {Q : Exit → Act → World → Prop} (s x : Operand) (t : TypeId)
    (ho : o.op = .call { callee := .builtin .append, args := #[s, x], argTypes := #[t, t] })
    (B : Nat) (e : TypeId) (z : Value) (bytes : Nat) (ht : P.underlying t = some (.slice e)) (hinfo : (P.info? e).map (fun i => (i.zero, i.size, i.bytes)) = some (some z, n, bytes)) (hz : z.cells.size = n) (hn : 0 < n) (hb8 : bytes ≤ 64)
    (hc : ∀ y, (c y).length = n) (hf : ∀ y, ∀ u ∈ c y, u.oneCell' = true) (v : Value) (xs : List α) (hs : a.eval s = v) (hown : w.ownsRow B e n v xs.length (xs.flatMap c))
    (u : Value) (ys : List α) (hx : a.eval x = u) (hu : RdC c w u ys) (hl : xs.length + ys.length < 2199023255552) (hB : B ≤ w.heap.size)
    (h : ∀ v' w', w'.ownsRow B e n v' (xs ++ ys).length ((xs ++ ys).flatMap c) → w.grownBy w' v.ownBlock → K (a.put o.dst v') w') : o.wp P a w K Q := by
  obtain ⟨v', w', hrun, h2, h3⟩ := run_appC (P := P) B t o.type e z bytes ht hinfo hz hn hb8 hc hf v xs hown u ys hu hl hB
  unfold Oper.wp execOp
  simp only [ho, resolve, invoke, builtin, Sem.run_bind, Sem.run_pure, Result.andThen_ok, List.map_toArray, List.map_cons, List.map_nil, hs, hx, hrun]
  exact h v' w' h2 h3
/-- 'append(out, ys...)', out the call's own. -/
theorem wpList_appC {P : Program} {w : World} {ops : Array Oper} {rest : List Oper} {o : Oper} {a : Act} {Q : Exit → Act → World → Prop} (hgd : o.guard = none) (s x : Operand) (t : TypeId)
    (ho : o.op = .call { callee := .builtin .append, args := #[s, x], argTypes := #[t, t] })
    (B : Nat) (e : TypeId) (z : Value) (bytes : Nat) (ht : P.underlying t = some (.slice e)) (hinfo : (P.info? e).map (fun i => (i.zero, i.size, i.bytes)) = some (some z, n, bytes)) (hz : z.cells.size = n) (hn : 0 < n) (hb8 : bytes ≤ 64)
    (hc : ∀ y, (c y).length = n) (hf : ∀ y, ∀ u ∈ c y, u.oneCell' = true) (v : Value) (xs : List α) (hs : a.eval s = v) (hown : w.ownsRow B e n v xs.length (xs.flatMap c))
    (u : Value) (ys : List α) (hx : a.eval x = u) (hu : RdC c w u ys) (hl : xs.length + ys.length < 2199023255552) (hB : B ≤ w.heap.size)
    (h : ∀ v' w', w'.ownsRow B e n v' (xs ++ ys).length ((xs ++ ys).flatMap c) → w.grownBy w' v.ownBlock → wpList P ops Q rest (a.put o.dst v') w') : wpList P ops Q (o :: rest) a w :=
  wpList_plain hgd fun _ hK => wp_appC s x t ho B e z bytes ht hinfo hz hn hb8 hc hf v xs hs hown u ys hx hu hl hB fun v' w' h2 h3 => hK _ _ (h v' w' h2 h3)
theorem step_appC {P : Program} {w : World} {ops : Array Oper} {o : Oper} {a : Act} {K : Act → World → Prop} {Q : Exit → Act → World → Prop} {E : Prop} (hgd : o.guard = none) (s x : Operand) (t : TypeId)
    (ho : o.op = .call { callee := .builtin .append, args := #[s, x], argTypes := #[t, t] })
    (B : Nat) (e : TypeId) (z : Value) (bytes : Nat) (ht : P.underlying t = some (.slice e)) (hinfo : (P.info? e).map (fun i => (i.zero, i.size, i.bytes)) = some (some z, n, bytes)) (hz : z.cells.size = n) (hn : 0 < n) (hb8 : bytes ≤ 64)
    (hc : ∀ y, (c y).length = n) (hf : ∀ y, ∀ u ∈ c y, u.oneCell' = true) (v : Value) (xs : List α) (hs : a.eval s = v) (hown : w.ownsRow B e n v xs.length (xs.flatMap c))
    (u : Value) (ys : List α) (hx : a.eval x = u) (hu : RdC c w u ys) (hl : xs.length + ys.length < 2199023255552) (hB : B ≤ w.heap.size)
    (h : ∀ v' w', w'.ownsRow B e n v' (xs ++ ys).length ((xs ++ ys).flatMap c) → w.grownBy w' v.ownBlock → K (a.put o.dst v') w') :
    if Region.wanted o (yielded ops a.tmps) = true then Oper.wp P o a w K Q else E := by
  have hw : Region.wanted o (yielded ops a.tmps) = true := by simp [Region.wanted, hgd]
  rw [if_pos hw]
  exact wp_appC s x t ho B e z bytes ht hinfo hz hn hb8 hc hf v xs hs hown u ys hx hu hl hB h

/-- The beginning and the end of a list. -/
theorem RdC.take {w : World} {b off len cap k : Nat} {xs : List α} (h : RdC c w (.slice (some ⟨b, off, none⟩) len cap) xs) (hk : k ≤ xs.length) : RdC c w (.slice (some ⟨b, off, none⟩) k cap) (xs.take k) := by
  obtain ⟨ao, cap', he, h1, h2, h3⟩ := h
  cases he
  refine ⟨_, _, by rw [List.length_take, Nat.min_eq_left hk], by rw [List.length_take]; omega, by rw [List.length_take]; omega, fun hp => ?_⟩
  obtain ⟨b', off', e, hb, hc'⟩ := h3 (by rw [List.length_take] at hp; omega)
  cases e
  refine ⟨b, off, rfl, hb, fun j u hu => hc' j u ?_⟩
  have : xs.flatMap c = (xs.take k).flatMap c ++ (xs.drop k).flatMap c := by rw [← List.flatMap_append, List.take_append_drop]
  rw [this, List.getElem?_append_left (List.getElem?_eq_some_iff.1 hu).1]; exact hu
theorem RdC.drop {w : World} {b off len cap k : Nat} {xs : List α} (hc : ∀ x, (c x).length = n) (h : RdC c w (.slice (some ⟨b, off, none⟩) len cap) xs) (hk : k ≤ xs.length) : RdC c w (.slice (if cap = k then some ⟨b, off, none⟩ else some ⟨b, off + k * n, none⟩) (len - k) (cap - k)) (xs.drop k) := by
  obtain ⟨ao, cap', he, h1, h2, h3⟩ := h
  cases he
  refine ⟨_, _, by rw [List.length_drop], by rw [List.length_drop]; omega, by rw [List.length_drop]; omega, fun hp => ?_⟩
  have hlt : k < xs.length := by rw [List.length_drop] at hp; omega
  obtain ⟨b', off', e, hb, hc'⟩ := h3 (by omega)
  cases e
  refine ⟨b, off + k * n, by rw [if_neg (by omega)], hb, fun j u hu => ?_⟩
  have e2 : xs.flatMap c = (xs.take k).flatMap c ++ (xs.drop k).flatMap c := by rw [← List.flatMap_append, List.take_append_drop]
  have := hc' (k * n + j) u (by
    rw [e2, List.getElem?_append_right (by rw [flat_length hc, List.length_take, Nat.min_eq_left hk]; omega), flat_length hc, List.length_take, Nat.min_eq_left hk, Nat.add_sub_cancel_left]; exact hu)
  rw [← Nat.add_assoc] at this; exact this
end

/-- slices.Grow of the nil slice. -/
theorem grow_any (k : Nat) (hk : k < 1099511627776) (w : World) :
    Calls Tryd.prog 58 #[.slice none 0 0, .int .i64 k] w fun e w' => ∃ v', e = .returned v' ∧ w'.ownsRow w.heap.size 34 2 v' 0 [] ∧ Below w.heap.size w w' := by
  by_cases h0 : k = 0
  · subst h0
    exact (Any8.slices_Grow_room Tryd.growQ none 0 0 0 w (by omega) (by omega) (by omega) (by omega)).mono fun e w' ⟨he, hw⟩ => ⟨_, he, by rw [hw]; exact World.ownsRow_nil _ _ _ _, by rw [hw]; exact Below.refl _ _⟩
  · obtain ⟨i, hi, hz0, hz1, hz2⟩ := info_parts infoFD
    have h := Any8.slices_Grow_grow Tryd.growQ i (.agg #[.int .u32 0, .int .u32 0]) hi hz0 (by omega) none 0 0 k [] w (by omega) (by omega) (by rw [hz2]; omega) (by omega) (by simp) (by simp) (by simp)
    have hcap : grownCap w (0 + k) 0 34 ≤ maxLen := grownCap_le_maxLen w _ _ _ (by unfold maxLen; omega)
    have hge : 0 + k ≤ grownCap w (0 + k) 0 34 := grownCap_ge w _ _ _
    have h' : Calls Tryd.prog 58 #[.slice none 0 0, .int .i64 k] w fun e w' => e = .returned (.slice (some ⟨w.heap.size, 0, none⟩) 0 (grownCap w (0 + k) 0 34)) ∧
      w' = w.drew.alloc (.cells (([] : List Value).toArray ++ Builtin.zeroCells (Value.agg #[.int .u32 0, .int .u32 0]).cells (0 + k - 0) ++ Builtin.zeroCells (Value.agg #[.int .u32 0, .int .u32 0]).cells (grownCap w (0 + k) 0 34 - (0 + k))) 34) := h
    clear h
    generalize grownCap w (0 + k) 0 34 = G at *
    refine h'.mono fun e w' ⟨he, hw⟩ => ?_
    have hsz : (([] : List Value).toArray ++ Builtin.zeroCells (Value.agg #[.int .u32 0, .int .u32 0]).cells (0 + k - 0) ++ Builtin.zeroCells (Value.agg #[.int .u32 0, .int .u32 0]).cells (G - (0 + k))).size = G * 2 := by
      rw [Array.size_append, Array.size_append, size_zeroCells, size_zeroCells, show (Value.agg #[.int .u32 0, .int .u32 0]).cells.size = 2 from rfl]
      simp; omega
    generalize ([] : List Value).toArray ++ Builtin.zeroCells (Value.agg #[.int .u32 0, .int .u32 0]).cells (0 + k - 0) ++ Builtin.zeroCells (Value.agg #[.int .u32 0, .int .u32 0]).cells (G - (0 + k)) = cs at *
    subst hw
    refine ⟨_, he, ⟨by simp, .inr ⟨w.heap.size, G, cs, rfl, Nat.le_refl _, ?_, Nat.zero_le _, hcap, hsz, by simp⟩⟩, (Below.refl _ w).drew.alloc (Nat.le_refl _) _⟩
    show (w.heap.push (.cells cs 34))[w.heap.size]? = _
    simp

end Go.Proofs.YtciamnkalmihcaaDoor


/- The walks of slices.Concat at two lists of dependencies, and of cover's others, extraneous and redundant. -/
namespace Go.Proofs.YtciamnkalmihcaaDoor
open Go.RowKit

theorem RdC.form {α : Type} {c : α → List Value} {w : World} {v : Value} {xs : List α} (h : RdC c w v xs) : ∃ ao cap, v = .slice ao xs.length cap := by
  obtain ⟨ao, cap, rfl, _⟩ := h; exact ⟨ao, cap, rfl⟩

/-- Concat of two lists. -/
theorem concat_any (xs ys : List F) (v u : Value) (b : Nat) (w : World) (h0 : w.cell? ⟨b, 0, none⟩ = some v) (h1 : w.cell? ⟨b, 1, none⟩ = some u) (hv : RdF w v xs) (hu : RdF w u ys) (hl : xs.length + ys.length < 1099511627776) :
    Calls Tryd.prog 42 #[.slice (some ⟨b, 0, none⟩) 2 2] w fun e w' => ∃ v', e = .returned v' ∧ w'.ownsRow w.heap.size 34 2 v' (xs ++ ys).length ((xs ++ ys).flatMap cF) ∧ Below w.heap.size w w' := by
  have hb := World.block_lt_of_cell? _ _ h0
  have CE := hid (fun (W : World) (h : Below w.heap.size w W) => And.intro ((h.cell (p := ⟨b, 0, none⟩) hb).trans h0) ((h.cell (p := ⟨b, 1, none⟩) hb).trans h1))
  have RV := hid (fun (W : World) (h : Below w.heap.size w W) => hv.below h)
  have RU := hid (fun (W : World) (h : Below w.heap.size w W) => hu.below h)
  have GR := hid (fun (W : World) => grow_any (xs.length + ys.length) hl W)
  obtain ⟨ao, cap, rfl⟩ := hv.form
  obtain ⟨bo, cbp, rfl⟩ := hu.form
  clear hv hu hb
  go_enter Tryd.func42, Tryd.ntmps42
  go_wp2_with fail
  go_loop [3, 11] (fun t i => ∃ k : Nat, k ≤ 2 ∧ i = .int .i64 k ∧ t = .int .i64 ((if 1 ≤ k then xs.length else 0) + (if 2 ≤ k then ys.length else 0) : Nat)) (fun _ i => 2 - (intOf i).toNat)
  case atStart => exact ⟨0, by omega, rfl, rfl⟩
  case round =>
    obtain ⟨k, hk, rfl, rfl⟩ := hrel
    rcases (show k = 0 ∨ k = 1 ∨ k = 2 by omega) with rfl | rfl | rfl
    · have hx : ((if 1 ≤ 0 then xs.length else 0) + (if 2 ≤ 0 then ys.length else 0) : Nat) = 0 := by simp
      rw [hx]
      clear hx
      go_wp2_with fail
      go_round
      case rel => exact ⟨1, by omega, rfl, by simp⟩
      case measure => simp [intOf]
    · have hx : ((if 1 ≤ 1 then xs.length else 0) + (if 2 ≤ 1 then ys.length else 0) : Nat) = xs.length := by simp
      rw [hx]
      clear hx
      have hn : ¬ ((xs.length : Int) + (ys.length : Int) < 0) := by omega
      go_wp2_with fail
      go_round
      case rel => exact ⟨2, by omega, rfl, by simp⟩
      case measure => simp [intOf]
    · have hx : ((if 1 ≤ 2 then xs.length else 0) + (if 2 ≤ 2 then ys.length else 0) : Nat) = xs.length + ys.length := by simp
      rw [hx]
      clear hx
      go_wp2_with fail
      refine (GR.out w).mono ?_
      rintro e w1 ⟨v1, rfl, ho1, hb1⟩
      have HO := hid ho1
      have B1 := hid hb1
      clear ho1 hb1 h0 h1
      go_wp2_with fail
      go_loopw [6, 27] (fun o i wr => ∃ k : Nat, k ≤ 2 ∧ i = .int .i64 k ∧ wr.ownsRow w.heap.size 34 2 o ((if 1 ≤ k then xs else []) ++ (if 2 ≤ k then ys else [])).length (((if 1 ≤ k then xs else []) ++ (if 2 ≤ k then ys else [])).flatMap cF) ∧ Below w.heap.size w wr) (fun _ i _ => 2 - (intOf i).toNat)
      case atStart => exact ⟨0, by omega, rfl, by simpa using HO.out, B1.out⟩
      case round =>
        obtain ⟨k, hk, rfl, hown, hnx⟩ := hrel
        have hsz := hnx.size
        obtain ⟨c0, c1⟩ := CE.out wr hnx
        have V := hid (RV.out wr hnx)
        have U := hid (RU.out wr hnx)
        rcases (show k = 0 ∨ k = 1 ∨ k = 2 by omega) with rfl | rfl | rfl
        · simp at hown
          have hown' : wr.ownsRow w.heap.size 34 2 u6 ([] : List F).length (([] : List F).flatMap cF) := by simpa using hown
          clear hown
          go_wp2_with (at_builtin; refine wpList_appC rfl _ _ 27 rfl w.heap.size 34 (.agg #[.int .u32 0, .int .u32 0]) 8 undFDs infoFD rfl (by decide) (by decide) cF_length cF_one _ [] rfl hown' _ xs rfl V.out (by simp; omega) hsz ?_)
          intro v' w2 ho2 hgrow
          have hb2 := hnx.grown hgrow hsz (fun j hj => (hown'.lt j hj).1)
          clear hgrow hown' hnx c0 c1
          go_wp2_with fail
          go_roundw
          case rel => exact ⟨1, by omega, rfl, by simpa using ho2, hb2⟩
          case measure => simp [intOf]
        · have hown' : wr.ownsRow w.heap.size 34 2 u6 xs.length (xs.flatMap cF) := by simpa using hown
          clear hown
          go_wp2_with (at_builtin; refine wpList_appC rfl _ _ 27 rfl w.heap.size 34 (.agg #[.int .u32 0, .int .u32 0]) 8 undFDs infoFD rfl (by decide) (by decide) cF_length cF_one _ xs rfl hown' _ ys rfl U.out (by omega) hsz ?_)
          intro v' w2 ho2 hgrow
          have hb2 := hnx.grown hgrow hsz (fun j hj => (hown'.lt j hj).1)
          clear hgrow hown' hnx c0 c1
          go_wp2_with fail
          go_roundw
          case rel => exact ⟨2, by omega, rfl, by simpa using ho2, hb2⟩
          case measure => simp [intOf]
        · have hown' : wr.ownsRow w.heap.size 34 2 u6 (xs ++ ys).length ((xs ++ ys).flatMap cF) := by simpa using hown
          clear hown
          go_wp2_with fail
          go_ret
          exact ⟨_, rfl, hown', hnx⟩

end Go.Proofs.YtciamnkalmihcaaDoor


/- The walks of cover's others, extraneous and redundant. -/
namespace Go.Proofs.YtciamnkalmihcaaDoor
open Go.RowKit


end Go.Proofs.YtciamnkalmihcaaDoor


/- The walks of cover's extraneous and redundant. -/
namespace Go.Proofs.YtciamnkalmihcaaDoor
open Go.RowKit



end Go.Proofs.YtciamnkalmihcaaDoor


/- slices.Contains and slices.Equal at dependencies. -/
namespace Go.Proofs.YtciamnkalmihcaaDoor
open Go.RowKit Go.Shelf Go.Lib

theorem eqlF : EqlAt Tryd.prog 34 (fun x : F => .agg (cF x).toArray) (fun x y => decide (x = y)) := by
  refine ⟨fun x y w => ?_, GuardAt.agg _ (by kernel_rfl)⟩
  have u3 := Tryd.underlying25
  have a3 := Tryd.isAgg25
  have z3 := Tryd.sizeOf25
  have hS : Tryd.prog.underlying 34 = some (.struct (Tryd.prog.fieldsOf 34)) := by kernel_rfl
  have hp : Tryd.prog.stoodInHeld 34 = false := by kernel_rfl
  simp only [cF, enc_eq]
  rw [run_eql_struct, show (10000 : Nat) = 9999 + 1 from rfl, run_equalIn_agg w 9999 34 _ _ hS hp]
  simp only [Program.fieldsOf, Tryd.underlying34]
  go_simp
  obtain ⟨x1, x2⟩ := x
  obtain ⟨y1, y2⟩ := y
  by_cases h1 : x1 = y1 <;> by_cases h2 : x2 = y2 <;> simp [h1, h2]
theorem neqF : NeqAt Tryd.prog 34 (fun x : F => .agg (cF x).toArray) (fun x y => decide (x = y)) := by
  refine ⟨fun x y w => ?_, GuardAt.agg _ (by kernel_rfl)⟩
  have u3 := Tryd.underlying25
  have a3 := Tryd.isAgg25
  have z3 := Tryd.sizeOf25
  have hS : Tryd.prog.underlying 34 = some (.struct (Tryd.prog.fieldsOf 34)) := by kernel_rfl
  have hp : Tryd.prog.stoodInHeld 34 = false := by kernel_rfl
  simp only [cF, enc_eq]
  rw [run_neq_struct, show (10000 : Nat) = 9999 + 1 from rfl, run_equalIn_agg w 9999 34 _ _ hS hp]
  simp only [Program.fieldsOf, Tryd.underlying34]
  go_simp
  obtain ⟨x1, x2⟩ := x
  obtain ⟨y1, y2⟩ := y
  by_cases h1 : x1 = y1 <;> by_cases h2 : x2 = y2 <;> simp [h1, h2]

theorem any_mem (xs : List F) (x : F) : (xs.any fun y => decide (x = y)) = decide (x ∈ xs) := by
  rw [Bool.eq_iff_iff, List.any_eq_true, decide_eq_true_iff]
  constructor
  · rintro ⟨y, hy, h⟩
    rw [decide_eq_true_iff] at h; rw [h]; exact hy
  · intro h; exact ⟨x, h, by simp⟩
theorem get!_of {α : Type} [Inhabited α] {xs : List α} {j : Nat} (h : j < xs.length) : xs[j]? = some xs[j]! := by
  rw [List.getElem!_eq_getElem?_getD, List.getElem?_eq_getElem h]; rfl


theorem allEq_dec (xs ys : List F) (h : xs.length = ys.length) : Lib.allEq (fun x y : F => decide (x = y)) xs ys = decide (xs = ys) := by
  induction xs generalizing ys with
  | nil => cases ys with
    | nil => rfl
    | cons y ys => simp at h
  | cons x xs ih => cases ys with
    | nil => simp at h
    | cons y ys =>
      simp only [Lib.allEq]
      rw [ih ys (by simpa using h)]
      by_cases h1 : x = y <;> by_cases h2 : xs = ys <;> simp [h1, h2]
theorem equalF_any (xs ys : List F) (v u : Value) (w : World) (hv : RdF w v xs) (hu : RdF w u ys) :
    Calls Tryd.prog 15 #[v, u] w fun e w' => e = .returned (.bool (decide (xs = ys))) ∧ ∃ q, w' = w.drewN q := by
  obtain ⟨ao, cap, rfl, h1, h2, h3⟩ := hv
  obtain ⟨bo, cbp, rfl, g1, g2, g3⟩ := hu
  by_cases hl : xs.length = ys.length
  · by_cases h0 : 0 < xs.length
    · obtain ⟨b, off, rfl, hb, hc⟩ := h3 h0
      obtain ⟨b', off', rfl, hb', hc'⟩ := g3 (by omega)
      have h := AnyQ.slices_Equal Tryd.equalQ 2 Tryd.isAgg34 Tryd.sizeOf34 cF cF_length _ neqF b off xs.length cap b' off' ys.length cbp xs ys w (Nat.le_refl _) (Nat.le_refl _) (by omega) (by omega)
        (fun j hj i v hi => by
          have := hc (j * 2 + i) v (flat_at cF_length xs j _ i v (get!_of hj) hi)
          rwa [← Nat.add_assoc] at this)
        (fun j hj i v hi => by
          have := hc' (j * 2 + i) v (flat_at cF_length ys j _ i v (get!_of hj) hi)
          rwa [← Nat.add_assoc] at this)
      rw [List.take_length, List.take_length, allEq_dec xs ys hl] at h
      exact h
    · have hx : xs = [] := List.eq_nil_of_length_eq_zero (by omega)
      have hy : ys = [] := List.eq_nil_of_length_eq_zero (by omega)
      subst hx; subst hy
      clear h3 g3 h0 h1 h2 g1 g2 hl
      go_enter Tryd.func15, Tryd.ntmps15
      go_wp2_with fail
      go_loop [13] (fun i => i = .int .i64 0) (fun _ => 0)
      case atStart => rfl
      case round =>
        subst hrel
        go_wp2_with fail
        go_ret
        exact ⟨rfl, 0, rfl⟩
  · have hne : ((xs.length : Int) != (ys.length : Int)) = true := by simp; omega
    go_enter Tryd.func15, Tryd.ntmps15
    go_wp2
    go_ret
    refine ⟨ret_bool ?_, 0, rfl⟩
    symm; rw [decide_eq_false_iff_not]
    rintro rfl; exact hl rfl

end Go.Proofs.YtciamnkalmihcaaDoor


/- The walks of cover's once and Split. -/
namespace Go.Proofs.YtciamnkalmihcaaDoor
open Go.RowKit

theorem onceStep_yes {out : List F} {x : F} (h : decide (x ∈ out) = true) : onceStep out x = out := by unfold onceStep; rw [if_pos (of_decide_eq_true h)]
theorem onceStep_no {out : List F} {x : F} (h : decide (x ∈ out) = false) : onceStep out x = out ++ [x] := by unfold onceStep; rw [if_neg (of_decide_eq_false h)]


end Go.Proofs.YtciamnkalmihcaaDoor


/- A row of the call's own that grows while other rows of the call's own are read: what stays. No program. -/
namespace Go.Proofs.YtciamnkalmihcaaDoor
open Go.RowKit

/-- From the world wm on, with the row of vm: now wr, with the row of v; no other block of wm has changed. -/
structure Grow1 (wm : World) (vm : Value) (wr : World) (v : Value) : Prop where
  grown : wm.grownBy wr vm.ownBlock
  own : v.ownBlock = vm.ownBlock ∨ ∃ g, v.ownBlock = some g ∧ wm.heap.size ≤ g

theorem Grow1.refl (w : World) (v : Value) : Grow1 w v w v := ⟨World.grownBy.refl w _, .inl rfl⟩
theorem Grow1.size {wm wr : World} {vm v : Value} (h : Grow1 wm vm wr v) : wm.heap.size ≤ wr.heap.size := h.grown.size
theorem Grow1.below {wm wr w' : World} {vm v : Value} (h : Grow1 wm vm wr v) (hb : Below wr.heap.size wr w') : Grow1 wm vm w' v :=
  ⟨⟨hb.os.trans h.grown.os, hb.tape.trans h.grown.tape, hb.output.trans h.grown.output, Nat.le_trans h.grown.size hb.size, fun k hk hne => (hb.block k (Nat.lt_of_lt_of_le hk h.grown.size)).trans (h.grown.block k hk hne)⟩, h.own⟩
theorem Grow1.alloc {wm wr : World} {vm v : Value} (h : Grow1 wm vm wr v) (o : Obj) : Grow1 wm vm (wr.alloc o) v := h.below (below_alloc _ _)
theorem Grow1.drew {wm wr : World} {vm v : Value} (h : Grow1 wm vm wr v) : Grow1 wm vm wr.drew v := h.below (Below.refl _ _).drew
theorem Grow1.push {wm wr w1 : World} {vm v v' : Value} (h : Grow1 wm vm wr v) (hg : wr.grownBy w1 v.ownBlock) (ho : v'.ownBlock = v.ownBlock ∨ v'.ownBlock = some wr.heap.size) : Grow1 wm vm w1 v' := by
  refine ⟨⟨hg.os.trans h.grown.os, hg.tape.trans h.grown.tape, hg.output.trans h.grown.output, Nat.le_trans h.grown.size hg.size, fun k hk hne => ?_⟩, ?_⟩
  · refine (hg.block k (Nat.lt_of_lt_of_le hk h.grown.size) ?_).trans (h.grown.block k hk hne)
    rcases h.own with e | ⟨g, e, hl⟩
    · rw [e]; exact hne
    · rw [e]; intro e2; cases e2; omega
  · rcases ho with e | e
    · rw [e]; exact h.own
    · exact .inr ⟨_, e, h.grown.size⟩
theorem Grow1.cell {wm wr : World} {vm v : Value} (h : Grow1 wm vm wr v) (p : Addr) (hlt : p.block < wm.heap.size) (hne : some p.block ≠ vm.ownBlock) : wr.cell? p = wm.cell? p :=
  World.cell?_of_block (h.grown.block p.block hlt hne)
/-- Nothing below the row's base has changed. -/
theorem Grow1.of_below {B : Nat} {wm wr : World} {vm v : Value} {e : TypeId} {size n : Nat} {xs : List Value} {w : World} (h : Grow1 wm vm wr v) (hb : Below B w wm) (hown : wm.ownsRow B e size vm n xs) (hB : B ≤ wm.heap.size) : Below B w wr :=
  hb.grown h.grown hB (fun j hj => (hown.lt j hj).1)
/-- A row that lies elsewhere reads as before. -/
theorem Grow1.far {wm wr : World} {vm v : Value} {u : Value} {m : Nat} {e' : TypeId} {size' : Nat} {ys : List Value} {B' : Nat} (h : Grow1 wm vm wr v) (hu : wm.ownsRow B' e' size' u m ys) (hne : ∀ g, vm.ownBlock = some g → u.ownBlock = some g → False) : wr.ownsRow B' e' size' u m ys := by
  refine ⟨hu.1, ?_⟩
  rcases hu.2 with h' | ⟨g, cap, cur, hv, hg, hc, rest⟩
  · exact .inl h'
  · refine .inr ⟨g, cap, cur, hv, hg, (h.grown.block g (Array.getElem?_eq_some_iff.1 hc).1 ?_).trans hc, rest⟩
    intro e
    exact hne g e.symm (by rw [hv]; rfl)

section
variable {α : Type}
theorem wpList_pushCo {P : Program} {w : World} {ops : Array Oper} {rest : List Oper} {o : Oper} {a : Act} {Q : Exit → Act → World → Prop} (hgd : o.guard = none) (s x : Operand) (t : TypeId)
    (ho : o.op = .call { callee := .builtin .append, args := #[s, x], argTypes := #[t, t] })
    (B : Nat) (e : TypeId) (z : Value) (n bytes : Nat) (ht : P.underlying t = some (.slice e)) (hinfo : (P.info? e).map (fun i => (i.zero, i.size, i.bytes)) = some (some z, n, bytes)) (hz : z.cells.size = n) (hn : 0 < n) (hb8 : bytes ≤ 64)
    (c : α → List Value) (hc : ∀ y, (c y).length = n) (hf : ∀ y, ∀ u ∈ c y, u.oneCell' = true) (v : Value) (xs : List α) (hs : a.eval s = v) (hown : w.ownsRow B e n v xs.length (xs.flatMap c))
    (ad : Addr) (y : α) (hx : a.eval x = .slice (some ad) 1 1) (hy : ∀ j u, (c y)[j]? = some u → w.cell? (ad.add j) = some u) (hl : xs.length < 2199023255552) (hB : B ≤ w.heap.size)
    (h : ∀ v' w', w'.ownsRow B e n v' (xs ++ [y]).length ((xs ++ [y]).flatMap c) → w.grownBy w' v.ownBlock → (v'.ownBlock = v.ownBlock ∨ v'.ownBlock = some w.heap.size) → wpList P ops Q rest (a.put o.dst v') w') : wpList P ops Q (o :: rest) a w := by
  obtain ⟨i, hi, hz0, hz1, hz2⟩ := info_parts hinfo
  refine wpList_append_lies w hgd s x t ho B e i z n bytes ht hi hz0 hz1 hz2 hz hn v xs.length (xs.flatMap c) hs hown ad 1 1 (c y) hx (by rw [hc, Nat.one_mul]) hy (hf y) (by omega) ?_ ?_ hB _ rfl ?_
  · unfold maxLen; omega
  · refine Nat.le_trans (Nat.mul_le_mul_left _ hb8) ?_; omega
  · intro g cap w' h1 h2 h3 _
    refine h _ w' ?_ h2 (h3.elim (fun e => .inl e.symm) fun e => .inr (by rw [e]; rfl))
    simpa using h1
theorem step_pushCo {P : Program} {w : World} {ops : Array Oper} {o : Oper} {a : Act} {K : Act → World → Prop} {Q : Exit → Act → World → Prop} {E : Prop} (hgd : o.guard = none) (s x : Operand) (t : TypeId)
    (ho : o.op = .call { callee := .builtin .append, args := #[s, x], argTypes := #[t, t] })
    (B : Nat) (e : TypeId) (z : Value) (n bytes : Nat) (ht : P.underlying t = some (.slice e)) (hinfo : (P.info? e).map (fun i => (i.zero, i.size, i.bytes)) = some (some z, n, bytes)) (hz : z.cells.size = n) (hn : 0 < n) (hb8 : bytes ≤ 64)
    (c : α → List Value) (hc : ∀ y, (c y).length = n) (hf : ∀ y, ∀ u ∈ c y, u.oneCell' = true) (v : Value) (xs : List α) (hs : a.eval s = v) (hown : w.ownsRow B e n v xs.length (xs.flatMap c))
    (ad : Addr) (y : α) (hx : a.eval x = .slice (some ad) 1 1) (hy : ∀ j u, (c y)[j]? = some u → w.cell? (ad.add j) = some u) (hl : xs.length < 2199023255552) (hB : B ≤ w.heap.size)
    (h : ∀ v' w', w'.ownsRow B e n v' (xs ++ [y]).length ((xs ++ [y]).flatMap c) → w.grownBy w' v.ownBlock → (v'.ownBlock = v.ownBlock ∨ v'.ownBlock = some w.heap.size) → K (a.put o.dst v') w') :
    if Region.wanted o (yielded ops a.tmps) = true then Oper.wp P o a w K Q else E := by
  obtain ⟨i, hi, hz0, hz1, hz2⟩ := info_parts hinfo
  refine step_append_lies w hgd s x t ho B e i z n bytes ht hi hz0 hz1 hz2 hz hn v xs.length (xs.flatMap c) hs hown ad 1 1 (c y) hx (by rw [hc, Nat.one_mul]) hy (hf y) (by omega) ?_ ?_ hB _ rfl ?_
  · unfold maxLen; omega
  · refine Nat.le_trans (Nat.mul_le_mul_left _ hb8) ?_; omega
  · intro g cap w' h1 h2 h3 _
    refine h _ w' ?_ h2 (h3.elim (fun e => .inl e.symm) fun e => .inr (by rw [e]; rfl))
    simpa using h1
end

theorem range_next {n k : Nat} (h : k < n) : (List.range n)[k]? = some k := by rw [List.getElem?_range h]

end Go.Proofs.YtciamnkalmihcaaDoor


/- The walk of cover's Split. -/
namespace Go.Proofs.YtciamnkalmihcaaDoor
open Go.RowKit

theorem splitX_length (x : F) : (splitX x).length ≤ 32 := by unfold splitX; rw [List.length_map]; exact memN_length _ _
theorem flatSplit_length (fs : List F) : (fs.flatMap splitX).length ≤ 32 * fs.length := by
  induction fs with
  | nil => simp
  | cons f fs ih => rw [List.flatMap_cons, List.length_append, List.length_cons]; have := splitX_length f; omega
theorem flatSplit_next {fs : List F} {k : Nat} {f : F} (h : fs[k]? = some f) : (fs.take (k + 1)).flatMap splitX = (fs.take k).flatMap splitX ++ splitX f := by
  rw [take_next h, List.flatMap_append]; simp
def sideX (x : F) (a : Nat) : F := (x.1, bit a)


end Go.Proofs.YtciamnkalmihcaaDoor


/- The walk of cover's minimal. -/
namespace Go.Proofs.YtciamnkalmihcaaDoor
open Go.RowKit

theorem Grow1.stored {wm wr w' : World} {vm : Value} (h : Grow1 wm vm wr vm) (hg : wr.grownBy w' vm.ownBlock) : Grow1 wm vm w' vm := h.push hg (.inl rfl)
theorem flat_set {xs : List F} {i : Nat} {x : F} (h : xs[i]? = some x) (s : S) : (xs.flatMap cF).set (i * 2) (enc s) = (xs.set i (s, x.2)).flatMap cF := by
  induction xs generalizing i with
  | nil => simp at h
  | cons y ys ih =>
    cases i with
    | zero => simp at h; subst h; simp [cF]
    | succ i =>
      have h' : ys[i]? = some x := by simpa using h
      have := ih h'
      rw [List.set_cons_succ, List.flatMap_cons, List.flatMap_cons, ← this, show (i + 1) * 2 = i * 2 + 2 by omega]
      simp [cF]
theorem own_form {w : World} {B : Nat} {e : TypeId} {size n : Nat} {v : Value} {xs : List Value} (h : w.ownsRow B e size v n xs) (hn : 0 < n) : ∃ g cap, v = .slice (some ⟨g, 0, none⟩) n cap := by
  rcases h.2 with ⟨_, h0⟩ | ⟨g, cap, cur, hv, _⟩
  · omega
  · exact ⟨g, cap, hv⟩
theorem trimN_next {l : List F} {i j a : Nat} {ms : List Nat} (h : ms[j]? = some a) : trimN l i (ms.take (j + 1)) = trimStep i (trimN l i (ms.take j)) a := by
  unfold trimN; rw [take_next h, List.foldl_append]; rfl
theorem lhsN_at {l : List F} {i : Nat} {x : F} (h : l[i]? = some x) : lhsN l i = memN x.1 32 := by unfold lhsN; simp [List.getD, h]
theorem of_ownsN {w : World} {B n : Nat} {e : TypeId} {v : Value} {xs : List F} (hn : xs.length = n) (h : w.ownsRow B e 2 v n (xs.flatMap cF)) (hl : n ≤ 35184372088832) : RdF w v xs := by
  subst hn; exact RdC.of_owns cF_length h hl
theorem cells_own {w : World} {B n g cap i : Nat} {e : TypeId} {xs : List F} {x : F} (h : w.ownsRow B e 2 (.slice (some ⟨g, 0, none⟩) n cap) n (xs.flatMap cF)) (hn : xs.length = n) (hx : xs[i]? = some x) :
    w.cell? ⟨g, i * 2, none⟩ = some (.int .u32 (iv x.1)) ∧ w.cell? ⟨g, i * 2 + 1, none⟩ = some (.int .u32 (iv x.2)) := by
  have hi := (List.getElem?_eq_some_iff.1 hx).1
  obtain ⟨h1, h2⟩ := flatF_at hx
  exact ⟨(h.cellAt _ (by omega)).trans h1, (h.cellAt _ (by omega)).trans h2⟩
def lenOf : Value → Nat
  | .slice _ n _ => n
  | _ => 0
theorem dropS_length : ∀ (n : Nat) (l : List F) (i : Nat), l.length - i ≤ n → (dropS l i).length ≤ l.length := by
  intro n
  induction n with
  | zero => intro l i h; rw [dropS_end (by omega)]; exact Nat.le_refl _
  | succ n ih =>
    intro l i h
    by_cases hlt : i < l.length
    · cases hr : redB l i with
      | true =>
        rw [dropS_yes hlt hr]
        have := others_length hlt
        have := ih (othersF l i) i (by omega); omega
      | false => rw [dropS_no hlt hr]; exact ih l (i + 1) (by omega)
    · rw [dropS_end hlt]; exact Nat.le_refl _


end Go.Proofs.YtciamnkalmihcaaDoor

