/- Texts that belong together, in one file. -/
import Derived.Test.YtgahpgmagfngfaaGreatDoorGrowQ
import Derived.Test.YtgahpgmagfngfaaGreatDoorApp0
import Derived.Test.YtgahpgmagfngfaaGreatDoorGFd
import Derived.RegionTactic
import Derived.Deep.RegionHeld3
import Derived.Test.YtgahpgmagfngfaaGreatDoorGPlain
import Derived.Test.YtgahpgmagfngfaaGreatDoorListD
import Derived.Test.YtgahpgmagfngfaaGreatDoorAfter
import Derived.Test.YtgahpgmagfngfaaGreatDoorEqQ
import Derived.Test.YtgahpgmagfngfaaGreatDoorGWalk
import Derived.Test.YtgahpgmagfngfaaGreatDoorCells
import Derived.Laws.StructEq
import Derived.Deep.QuietTactic
import Derived.BigQuiet
import Derived.Test.YtgahpgmagfngfaaGreatDoorGKm2
import Derived.Laws.OwnMore
/- 'append(out, ys...)' of a whole list onto a row of the call's own; parts of a list; the walks of slices.Grow and slices.Concat at dependencies. -/
namespace Go.Proofs.YtgahpgmagfngfaaGreatDoor
open Go.RowKit

section
variable {α : Type} {c : α → List Value} {n : Nat}
/-- The beginning and the end of a list. -/
theorem RdC.take {w : World} {b off len cap k : Nat} {xs : List α} (h : RdC c w (.slice (some ⟨b, off, none⟩) len cap) xs) (hk : k ≤ xs.length) : RdC c w (.slice (some ⟨b, off, none⟩) k cap) (xs.take k) := by
  obtain ⟨ao, cap', he, h1, h2, h3⟩ := h
  cases he
  refine ⟨_, _, by rw [List.length_take, Nat.min_eq_left hk], by rw [List.length_take]; omega, by rw [List.length_take]; omega, fun hp => ?_⟩
  obtain ⟨b', off', e, hb, hc'⟩ := h3 (by rw [List.length_take] at hp; omega)
  cases e
  refine ⟨b, off, rfl, hb, fun j u hu => hc' j u ?_⟩
  have : xs.flatMap c = (xs.take k).flatMap c ++ (xs.drop k).flatMap c := by rw [← List.flatMap_append, List.take_append_drop]
  rw [this, List.getElem?_append_left (List.getElem?_eq_some_iff.1 hu).1]; exact hu
theorem RdC.drop {w : World} {b off len cap k : Nat} {xs : List α} (hc : ∀ x, (c x).length = n) (h : RdC c w (.slice (some ⟨b, off, none⟩) len cap) xs) (hk : k ≤ xs.length) : RdC c w (.slice (if cap = k then some ⟨b, off, none⟩ else some ⟨b, off + k * n, none⟩) (len - k) (cap - k)) (xs.drop k) := by
  obtain ⟨ao, cap', he, h1, h2, h3⟩ := h
  cases he
  refine ⟨_, _, by rw [List.length_drop], by rw [List.length_drop]; omega, by rw [List.length_drop]; omega, fun hp => ?_⟩
  have hlt : k < xs.length := by rw [List.length_drop] at hp; omega
  obtain ⟨b', off', e, hb, hc'⟩ := h3 (by omega)
  cases e
  refine ⟨b, off + k * n, by rw [if_neg (by omega)], hb, fun j u hu => ?_⟩
  have e2 : xs.flatMap c = (xs.take k).flatMap c ++ (xs.drop k).flatMap c := by rw [← List.flatMap_append, List.take_append_drop]
  have := hc' (k * n + j) u (by
    rw [e2, List.getElem?_append_right (by rw [flat_length hc, List.length_take, Nat.min_eq_left hk]; omega), flat_length hc, List.length_take, Nat.min_eq_left hk, Nat.add_sub_cancel_left]; exact hu)
  rw [← Nat.add_assoc] at this; exact this
end

/-- slices.Grow of the nil slice. -/
theorem grow_any (k : Nat) (hk : k < 1099511627776) (w : World) :
    Calls Tryz.prog 183 #[.slice none 0 0, .int .i64 k] w fun e w' => ∃ v', e = .returned v' ∧ w'.ownsRow w.heap.size 57 2 v' 0 [] ∧ Below w.heap.size w w' := by
  by_cases h0 : k = 0
  · subst h0
    exact (Any8.slices_Grow_room Tryz.growQ none 0 0 0 w (by omega) (by omega) (by omega) (by omega)).mono fun e w' ⟨he, hw⟩ => ⟨_, he, by rw [hw]; exact World.ownsRow_nil _ _ _ _, by rw [hw]; exact Below.refl _ _⟩
  · obtain ⟨i, hi, hz0, hz1, hz2⟩ := info_parts infoFD
    have h := Any8.slices_Grow_grow Tryz.growQ i (.agg #[.int .u32 0, .int .u32 0]) hi hz0 (by omega) none 0 0 k [] w (by omega) (by omega) (by rw [hz2]; omega) (by omega) (by simp) (by simp) (by simp)
    have hcap : grownCap w (0 + k) 0 57 ≤ maxLen := grownCap_le_maxLen w _ _ _ (by unfold maxLen; omega)
    have hge : 0 + k ≤ grownCap w (0 + k) 0 57 := grownCap_ge w _ _ _
    have h' : Calls Tryz.prog 183 #[.slice none 0 0, .int .i64 k] w fun e w' => e = .returned (.slice (some ⟨w.heap.size, 0, none⟩) 0 (grownCap w (0 + k) 0 57)) ∧
      w' = w.drew.alloc (.cells (([] : List Value).toArray ++ Builtin.zeroCells (Value.agg #[.int .u32 0, .int .u32 0]).cells (0 + k - 0) ++ Builtin.zeroCells (Value.agg #[.int .u32 0, .int .u32 0]).cells (grownCap w (0 + k) 0 57 - (0 + k))) 57) := h
    clear h
    generalize grownCap w (0 + k) 0 57 = G at *
    refine h'.mono fun e w' ⟨he, hw⟩ => ?_
    have hsz : (([] : List Value).toArray ++ Builtin.zeroCells (Value.agg #[.int .u32 0, .int .u32 0]).cells (0 + k - 0) ++ Builtin.zeroCells (Value.agg #[.int .u32 0, .int .u32 0]).cells (G - (0 + k))).size = G * 2 := by
      rw [Array.size_append, Array.size_append, size_zeroCells, size_zeroCells, show (Value.agg #[.int .u32 0, .int .u32 0]).cells.size = 2 from rfl]
      simp; omega
    generalize ([] : List Value).toArray ++ Builtin.zeroCells (Value.agg #[.int .u32 0, .int .u32 0]).cells (0 + k - 0) ++ Builtin.zeroCells (Value.agg #[.int .u32 0, .int .u32 0]).cells (G - (0 + k)) = cs at *
    subst hw
    refine ⟨_, he, ⟨by simp, .inr ⟨w.heap.size, G, cs, rfl, Nat.le_refl _, ?_, Nat.zero_le _, hcap, hsz, by simp⟩⟩, (Below.refl _ w).drew.alloc (Nat.le_refl _) _⟩
    show (w.heap.push (.cells cs 57))[w.heap.size]? = _
    simp

end Go.Proofs.YtgahpgmagfngfaaGreatDoor


/- The walks of slices.Concat at two lists of dependencies, and of cover's others, extraneous and redundant. -/
namespace Go.Proofs.YtgahpgmagfngfaaGreatDoor
open Go.RowKit

theorem RdC.form {α : Type} {c : α → List Value} {w : World} {v : Value} {xs : List α} (h : RdC c w v xs) : ∃ ao cap, v = .slice ao xs.length cap := by
  obtain ⟨ao, cap, rfl, _⟩ := h; exact ⟨ao, cap, rfl⟩

/-- Concat of two lists. -/
theorem concat_any (xs ys : List F) (v u : Value) (b : Nat) (w : World) (h0 : w.cell? ⟨b, 0, none⟩ = some v) (h1 : w.cell? ⟨b, 1, none⟩ = some u) (hv : RdF w v xs) (hu : RdF w u ys) (hl : xs.length + ys.length < 1099511627776) :
    Calls Tryz.prog 161 #[.slice (some ⟨b, 0, none⟩) 2 2] w fun e w' => ∃ v', e = .returned v' ∧ w'.ownsRow w.heap.size 57 2 v' (xs ++ ys).length ((xs ++ ys).flatMap cF) ∧ Below w.heap.size w w' := by
  have hb := World.block_lt_of_cell? _ _ h0
  have CE := hid (fun (W : World) (h : Below w.heap.size w W) => And.intro ((h.cell (p := ⟨b, 0, none⟩) hb).trans h0) ((h.cell (p := ⟨b, 1, none⟩) hb).trans h1))
  have RV := hid (fun (W : World) (h : Below w.heap.size w W) => hv.below h)
  have RU := hid (fun (W : World) (h : Below w.heap.size w W) => hu.below h)
  have GR := hid (fun (W : World) => grow_any (xs.length + ys.length) hl W)
  obtain ⟨ao, cap, rfl⟩ := hv.form
  obtain ⟨bo, cbp, rfl⟩ := hu.form
  clear hv hu hb
  go_enter Tryz.func161, Tryz.ntmps161
  go_wp2_with fail
  go_loop [3, 11] (fun t i => ∃ k : Nat, k ≤ 2 ∧ i = .int .i64 k ∧ t = .int .i64 ((if 1 ≤ k then xs.length else 0) + (if 2 ≤ k then ys.length else 0) : Nat)) (fun _ i => 2 - (intOf i).toNat)
  case atStart => exact ⟨0, by omega, rfl, rfl⟩
  case round =>
    obtain ⟨k, hk, rfl, rfl⟩ := hrel
    rcases (show k = 0 ∨ k = 1 ∨ k = 2 by omega) with rfl | rfl | rfl
    · have hx : ((if 1 ≤ 0 then xs.length else 0) + (if 2 ≤ 0 then ys.length else 0) : Nat) = 0 := by simp
      rw [hx]
      clear hx
      go_wp2_with fail
      go_round
      case rel => exact ⟨1, by omega, rfl, by simp⟩
      case measure => simp [intOf]
    · have hx : ((if 1 ≤ 1 then xs.length else 0) + (if 2 ≤ 1 then ys.length else 0) : Nat) = xs.length := by simp
      rw [hx]
      clear hx
      have hn : ¬ ((xs.length : Int) + (ys.length : Int) < 0) := by omega
      go_wp2_with fail
      go_round
      case rel => exact ⟨2, by omega, rfl, by simp⟩
      case measure => simp [intOf]
    · have hx : ((if 1 ≤ 2 then xs.length else 0) + (if 2 ≤ 2 then ys.length else 0) : Nat) = xs.length + ys.length := by simp
      rw [hx]
      clear hx
      go_wp2_with fail
      refine (GR.out w).mono ?_
      rintro e w1 ⟨v1, rfl, ho1, hb1⟩
      have HO := hid ho1
      have B1 := hid hb1
      clear ho1 hb1 h0 h1
      go_wp2_with fail
      go_loopw [6, 27] (fun o i wr => ∃ k : Nat, k ≤ 2 ∧ i = .int .i64 k ∧ wr.ownsRow w.heap.size 57 2 o ((if 1 ≤ k then xs else []) ++ (if 2 ≤ k then ys else [])).length (((if 1 ≤ k then xs else []) ++ (if 2 ≤ k then ys else [])).flatMap cF) ∧ Below w.heap.size w wr) (fun _ i _ => 2 - (intOf i).toNat)
      case atStart => exact ⟨0, by omega, rfl, by simpa using HO.out, B1.out⟩
      case round =>
        obtain ⟨k, hk, rfl, hown, hnx⟩ := hrel
        have hsz := hnx.size
        obtain ⟨c0, c1⟩ := CE.out wr hnx
        have V := hid (RV.out wr hnx)
        have U := hid (RU.out wr hnx)
        rcases (show k = 0 ∨ k = 1 ∨ k = 2 by omega) with rfl | rfl | rfl
        · simp at hown
          have hown' : wr.ownsRow w.heap.size 57 2 u6 ([] : List F).length (([] : List F).flatMap cF) := by simpa using hown
          clear hown
          go_wp2_with (at_builtin; refine wpList_appC rfl _ _ 58 rfl w.heap.size 57 (.agg #[.int .u32 0, .int .u32 0]) 8 undFDs infoFD rfl (by decide) (by decide) cF_length cF_one _ [] rfl hown' _ xs rfl V.out (by simp; omega) hsz ?_)
          intro v' w2 ho2 hgrow
          have hb2 := hnx.grown hgrow hsz (fun j hj => (hown'.lt j hj).1)
          clear hgrow hown' hnx c0 c1
          go_wp2_with fail
          go_roundw
          case rel => exact ⟨1, by omega, rfl, by simpa using ho2, hb2⟩
          case measure => simp [intOf]
        · have hown' : wr.ownsRow w.heap.size 57 2 u6 xs.length (xs.flatMap cF) := by simpa using hown
          clear hown
          go_wp2_with (at_builtin; refine wpList_appC rfl _ _ 58 rfl w.heap.size 57 (.agg #[.int .u32 0, .int .u32 0]) 8 undFDs infoFD rfl (by decide) (by decide) cF_length cF_one _ xs rfl hown' _ ys rfl U.out (by omega) hsz ?_)
          intro v' w2 ho2 hgrow
          have hb2 := hnx.grown hgrow hsz (fun j hj => (hown'.lt j hj).1)
          clear hgrow hown' hnx c0 c1
          go_wp2_with fail
          go_roundw
          case rel => exact ⟨2, by omega, rfl, by simpa using ho2, hb2⟩
          case measure => simp [intOf]
        · have hown' : wr.ownsRow w.heap.size 57 2 u6 (xs ++ ys).length ((xs ++ ys).flatMap cF) := by simpa using hown
          clear hown
          go_wp2_with fail
          go_ret
          exact ⟨_, rfl, hown', hnx⟩

end Go.Proofs.YtgahpgmagfngfaaGreatDoor


/- The walks of cover's others, extraneous and redundant. -/
namespace Go.Proofs.YtgahpgmagfngfaaGreatDoor
open Go.RowKit

set_option maxRecDepth 100000 in
theorem others_any (fs : List F) (i : Nat) (hi : i < fs.length) (v : Value) (w : World) (hv : RdF w v fs) (hl : fs.length < 1099511627776) :
    Calls Tryz.prog 134 #[v, .int .i64 i] w fun e w' => ∃ v', e = .returned v' ∧ w'.ownsRow w.heap.size 57 2 v' (othersF fs i).length ((othersF fs i).flatMap cF) ∧ Below w.heap.size w w' := by
  obtain ⟨ao, cap, rfl, h1, h2, h3⟩ := hv
  obtain ⟨b, off, rfl, hb, hc⟩ := h3 (by omega)
  have hv : RdF w (.slice (some ⟨b, off, none⟩) fs.length cap) fs := ⟨_, cap, rfl, h1, h2, fun _ => ⟨b, off, rfl, hb, hc⟩⟩
  have V1 := hid (hv.take (k := i) (by omega))
  have V2 := hid (hv.drop cF_length (k := i + 1) (by omega))
  have hlen : (fs.take i).length + (fs.drop (i + 1)).length < 1099511627776 := by simp; omega
  have CC := hid (fun (x y : Value) (W : World) (h0 : W.cell? ⟨w.heap.size, 0, none⟩ = some x) (h1 : W.cell? ⟨w.heap.size, 1, none⟩ = some y) (hx : RdF W x (fs.take i)) (hy : RdF W y (fs.drop (i + 1))) => concat_any (fs.take i) (fs.drop (i + 1)) x y w.heap.size W h0 h1 hx hy hlen)
  have CCE := hid (show fs.take i ++ fs.drop (i + 1) = othersF fs i from rfl)
  have i0 : (0 : Int) ≤ (i : Int) := by omega
  have i1 : (i : Int) < (fs.length : Int) := by omega
  have i2 : (i : Int) ≤ (cap : Int) := by omega
  have i3 : (fs.length : Int) ≤ (cap : Int) := by omega
  have i4 : (i : Int) + 1 ≤ (fs.length : Int) := by omega
  have i5 : (i : Int) + 1 ≤ (cap : Int) := by omega
  have i6 : (0 : Int) ≤ (i : Int) + 1 := by omega
  have hw := IntWalk.i64_in ((i : Int) + 1) (by omega)
  have i7 : ((i : Int) + 1).toNat = i + 1 := by omega
  clear h3 hc hv hlen
  by_cases hcap : cap = i + 1
  · subst hcap
    rw [if_pos rfl, show fs.length - (i + 1) = 0 by omega, Nat.sub_self] at V2
    have i2 : (i : Int) ≤ (i : Int) + 1 := by omega
    have i3 : (fs.length : Int) ≤ (i : Int) + 1 := by omega
    clear i5
    have hsub : fs.length - (i + 1) = 0 := by omega
    go_enter Tryz.func134, Tryz.ntmps134
    go_wp2_with fail
    go_region_held3 (fun W => Below w.heap.size w W)
      (first | exact (Below.refl _ _).drew | exact (below_alloc _ _).drew | assumption)
      (first
        | (go_at_call 161; refine (CC.out _ _ _ (by simp) (by simp) (V1.out.below (below_alloc _ _).drew) (V2.out.below (below_alloc _ _).drew)).mono ?_; rintro e w2 ⟨v2, rfl, ho2, hb2⟩; have hL : Below w.heap.size w w2 := (below_alloc _ _).drew.trans (hb2.mono (by simp))))
    have HL := hid hL
    have HO := hid (own_mono ho2 (show w.heap.size ≤ _ by simp))
    clear hL ho2 hw
    rw [CCE.out] at HO
    go_wp2_with fail
    go_ret
    exact ⟨_, rfl, HO.out, HL.out⟩
  · rw [if_neg hcap] at V2
    go_enter Tryz.func134, Tryz.ntmps134
    go_wp2_with fail
    go_region_held3 (fun W => Below w.heap.size w W)
      (first | exact (Below.refl _ _).drew | exact (below_alloc _ _).drew | assumption)
      (first
        | (go_at_call 161; refine (CC.out _ _ _ (by simp) (by simp) (V1.out.below (below_alloc _ _).drew) (V2.out.below (below_alloc _ _).drew)).mono ?_; rintro e w2 ⟨v2, rfl, ho2, hb2⟩; have hL : Below w.heap.size w w2 := (below_alloc _ _).drew.trans (hb2.mono (by simp))))
    have HL := hid hL
    have HO := hid (own_mono ho2 (show w.heap.size ≤ _ by simp))
    clear hL ho2 hw
    rw [CCE.out] at HO
    go_wp2_with fail
    go_ret
    exact ⟨_, rfl, HO.out, HL.out⟩

end Go.Proofs.YtgahpgmagfngfaaGreatDoor


/- The walks of cover's extraneous and redundant. -/
namespace Go.Proofs.YtgahpgmagfngfaaGreatDoor
open Go.RowKit

theorem extraneous_any (fs : List F) (x : F) (a : Nat) (ha : a < 32) (v : Value) (w : World) (hv : RdF w v fs) :
    Calls Tryz.prog 131 #[v, .agg #[enc x.1, enc x.2], .int .i64 a] w fun e w' => e = .returned (.bool (extrB fs x a)) ∧ Below w.heap.size w w' := by
  have hb := below_alloc w (.cells #[enc x.1, enc x.2] 57)
  have C := hid (fun i : After (w.alloc (.cells #[enc x.1, enc x.2] 57)) => Calls.after i (implies_any fs (x.1 &&& ~~~ (1#32 <<< a), x.2) v i.world ((hv.below hb).below i.below)))
  obtain ⟨ao, cap, rfl, -⟩ := hv.split
  have e : extrB fs x a = impS fs (x.1 &&& ~~~ (1#32 <<< a), x.2) := rfl
  rw [e]
  have B := hid hb
  clear e hb hv
  generalize impS fs (x.1 &&& ~~~ (1#32 <<< a), x.2) = r at *
  have e0 : ∀ i : After (w.alloc (.cells #[enc x.1, enc x.2] 57)), i.world.cell? ⟨w.heap.size, 0, none⟩ = some (.int .u32 (iv x.1)) := fun i => After.cell (by simp [enc]) i
  have e1 : ∀ i : After (w.alloc (.cells #[enc x.1, enc x.2] 57)), i.world.cell? ⟨w.heap.size, 1, none⟩ = some (.int .u32 (iv x.2)) := fun i => After.cell (by simp [enc]) i
  have a0 : (0 : Int) ≤ (a : Int) := by omega
  unfold enc at *
  go_enter Tryz.func131, Tryz.ntmps131
  go_wp2_with fail
  refine wp_region_after (by kernel_rfl) (by kernel_rfl) ?_
  repeat (any_goals (quiet_step (exact C.out _)))
  refine wpQuiet_nil ?_
  intro wq hq
  have BQ := hid (B.out.trans (hq.mono B.out.size))
  clear hq
  go_wp2_with fail
  go_ret
  exact ⟨rfl, BQ.out⟩

theorem redundant_any (fs : List F) (i : Nat) (hi : i < fs.length) (v : Value) (w : World) (hv : RdF w v fs) (hl : fs.length < 1099511627776) :
    Calls Tryz.prog 133 #[v, .int .i64 i] w fun e w' => e = .returned (.bool (redB fs i)) ∧ Below w.heap.size w w' := by
  have C1 := hid (fun (W : World) (hb : Below w.heap.size w W) => others_any fs i hi v W (hv.below hb) hl)
  obtain ⟨f, hf⟩ := get_some hi
  have C2 := hid (fun (u : Value) (W : World) (hu : RdF W u (othersF fs i)) => implies_any (othersF fs i) f u W hu)
  rw [redB_at hf]
  have hol := others_length hi
  obtain ⟨ao, cap, rfl, -, hc⟩ := hv.split
  obtain ⟨b, off, rfl, hfc⟩ := hc i f hf
  have HS := hid (fun (W : World) (h : Below w.heap.size w W) => And.intro h (hfc W h))
  have hlt : (i : Int) < (fs.length : Int) := by omega
  have hi0 : (0 : Int) ≤ (i : Int) := by omega
  have RO := hid (fun (u : Value) (W : World) (B : Nat) (h : W.ownsRow B 57 2 u (othersF fs i).length ((othersF fs i).flatMap cF)) => RdC.of_owns cF_length h (by omega))
  clear hv hc hfc hf hol hi
  generalize othersF fs i = gs at *
  generalize impS gs f = r at *
  simp only [enc_eq] at C2
  go_enter Tryz.func133, Tryz.ntmps133
  go_wp2_with fail
  go_region_held3 (fun W => Below w.heap.size w W ∧ W.cell? ⟨b, off + i * 2, none⟩ = some (.int .u32 (iv f.1)) ∧ W.cell? ⟨b, off + i * 2 + 1, none⟩ = some (.int .u32 (iv f.2)))
    (first | exact HS.out _ (Below.refl _ _).drew | exact HS.out _ (by assumption))
    (first
      | (go_at_call 134; have hS := And.left ‹Below w.heap.size w _ ∧ _ ∧ _›; refine (C1.out _ hS).mono ?_; rintro e w2 ⟨v2, rfl, ho2, hb2⟩; have hL := later hS hb2; have hr2 := RO.out _ _ _ ho2; clear hb2 hS ho2)
      | (go_at_call 159; have hS := And.left ‹Below w.heap.size w _ ∧ _ ∧ _›; refine (C2.out _ _ (by assumption)).mono ?_; rintro e w3 ⟨rfl, hb3⟩; have hL := later hS hb3; clear hb3 hS))
  all_goals
    have HL := hid hL
    clear hL
    go_wp2_with fail
    go_ret
    exact ⟨rfl, HL.out⟩

end Go.Proofs.YtgahpgmagfngfaaGreatDoor


/- slices.Contains and slices.Equal at dependencies. -/
namespace Go.Proofs.YtgahpgmagfngfaaGreatDoor
open Go.RowKit Go.Shelf Go.Lib

theorem eqlF : EqlAt Tryz.prog 57 (fun x : F => .agg (cF x).toArray) (fun x y => decide (x = y)) := by
  refine ⟨fun x y w => ?_, GuardAt.agg _ (by kernel_rfl)⟩
  have u3 := Tryz.underlying55
  have a3 := Tryz.isAgg55
  have z3 := Tryz.sizeOf55
  have hS : Tryz.prog.underlying 57 = some (.struct (Tryz.prog.fieldsOf 57)) := by kernel_rfl
  have hp : Tryz.prog.stoodInHeld 57 = false := by kernel_rfl
  simp only [cF, enc_eq]
  rw [run_eql_struct, show (10000 : Nat) = 9999 + 1 from rfl, run_equalIn_agg w 9999 57 _ _ hS hp]
  simp only [Program.fieldsOf, Tryz.underlying57]
  go_simp
  obtain ⟨x1, x2⟩ := x
  obtain ⟨y1, y2⟩ := y
  by_cases h1 : x1 = y1 <;> by_cases h2 : x2 = y2 <;> simp [h1, h2]

theorem any_mem (xs : List F) (x : F) : (xs.any fun y => decide (x = y)) = decide (x ∈ xs) := by
  rw [Bool.eq_iff_iff, List.any_eq_true, decide_eq_true_iff]
  constructor
  · rintro ⟨y, hy, h⟩
    rw [decide_eq_true_iff] at h; rw [h]; exact hy
  · intro h; exact ⟨x, h, by simp⟩
theorem get!_of {α : Type} [Inhabited α] {xs : List α} {j : Nat} (h : j < xs.length) : xs[j]? = some xs[j]! := by
  rw [List.getElem!_eq_getElem?_getD, List.getElem?_eq_getElem h]; rfl

theorem containsF_any (xs : List F) (x : F) (v : Value) (w : World) (hv : RdF w v xs) :
    Calls Tryz.prog 160 #[v, .agg #[enc x.1, enc x.2]] w fun e w' => e = .returned (.bool (decide (x ∈ xs))) ∧ Below w.heap.size w w' := by
  obtain ⟨ao, cap, rfl, h1, h2, h3⟩ := hv
  by_cases h0 : 0 < xs.length
  · obtain ⟨b, off, rfl, hb, hc⟩ := h3 h0
    have h := AnyQ.slices_Contains Tryz.containsQ 2 Tryz.isAgg57 Tryz.sizeOf57 cF cF_length _ eqlF b off xs.length cap xs x w (Nat.le_refl _) (by omega)
      (fun j hj i v hi => by
        have hx := get!_of hj
        have := hc (j * 2 + i) v (flat_at cF_length xs j _ i v hx hi)
        rwa [← Nat.add_assoc] at this)
    rw [List.take_length, any_mem] at h
    exact h
  · have hx : xs = [] := List.eq_nil_of_length_eq_zero (by omega)
    subst hx
    clear h3 h0 h1 h2
    have I : ∀ W : World, Calls Tryz.prog 182 #[.slice ao 0 cap, .agg #[enc x.1, enc x.2]] W fun e w' => e = .returned (.int .i64 (-1)) ∧ Below W.heap.size W w' := by
      intro W
      have hb := hid (below_alloc W (.cells #[enc x.1, enc x.2] 57))
      simp only [enc_eq] at hb ⊢
      go_enter Tryz.func182, Tryz.ntmps182
      go_wp2_with fail
      go_loop [8] (fun i => i = .int .i64 0) (fun _ => 0)
      case atStart => rfl
      case round =>
        subst hrel
        go_wp2_with fail
        go_ret
        exact ⟨rfl, hb.out⟩
    have II := hid I
    have hb := hid (below_alloc w (.cells #[enc x.1, enc x.2] 57))
    clear I
    simp only [enc_eq] at II hb ⊢
    go_enter Tryz.func160, Tryz.ntmps160
    go_wp2_with fail
    refine (II.out _).mono ?_
    rintro e w1 ⟨rfl, hb1⟩
    have B := hid (hb.out.trans (hb1.mono hb.out.size))
    clear hb1
    go_wp2_with fail
    go_ret
    exact ⟨rfl, B.out⟩


end Go.Proofs.YtgahpgmagfngfaaGreatDoor


/- The walks of cover's once and Split. -/
namespace Go.Proofs.YtgahpgmagfngfaaGreatDoor
open Go.RowKit

theorem onceStep_yes {out : List F} {x : F} (h : decide (x ∈ out) = true) : onceStep out x = out := by unfold onceStep; rw [if_pos (of_decide_eq_true h)]
theorem onceStep_no {out : List F} {x : F} (h : decide (x ∈ out) = false) : onceStep out x = out ++ [x] := by unfold onceStep; rw [if_neg (of_decide_eq_false h)]

theorem once_any (fs : List F) (v : Value) (w : World) (hv : RdF w v fs) (hl : fs.length < 1099511627776) :
    Calls Tryz.prog 132 #[v] w fun e w' => ∃ v', e = .returned v' ∧ w'.ownsRow w.heap.size 57 2 v' (onceF fs).length ((onceF fs).flatMap cF) ∧ Below w.heap.size w w' := by
  obtain ⟨ao, cap, rfl, -, hc⟩ := hv.split
  have FC := hid hc
  clear hv hc
  go_enter Tryz.func132, Tryz.ntmps132
  go_wp2_with fail
  go_loopw [3, 8] (fun o i wr => ∃ k : Nat, k ≤ fs.length ∧ i = .int .i64 k ∧ wr.ownsRow w.heap.size 57 2 o (onceF (fs.take k)).length ((onceF (fs.take k)).flatMap cF) ∧ Below w.heap.size w wr) (fun _ i _ => fs.length - (intOf i).toNat)
  case atStart => exact ⟨0, Nat.zero_le _, rfl, World.ownsRow_nil _ _ _ _, Below.refl _ _⟩
  case round =>
    obtain ⟨k, hk, rfl, hown, hnx⟩ := hrel
    have hsz := hnx.size
    have hol : (onceF (fs.take k)).length ≤ k := Nat.le_trans (onceF_length _) (by simp; omega)
    by_cases hlt : k < fs.length
    · obtain ⟨f, hf⟩ := get_some hlt
      obtain ⟨b, off, rfl, hfc⟩ := FC.out k f hf
      obtain ⟨e0, e1⟩ := hfc wr hnx
      have N := hid (onceF_next hf)
      have C := hid (fun (W : World) (h : RdF W u3 (onceF (fs.take k))) => containsF_any (onceF (fs.take k)) f u3 W h)
      clear hfc hf
      generalize onceF (fs.take k) = out at *
      have hb1 := below_alloc wr (.cells #[enc f.1, enc f.2] 57)
      have R1 := hid ((RdC.of_owns cF_length hown (by omega)).below hb1)
      have ho1 := own_below hown hb1
      have hn1 := hnx.trans (hb1.mono hsz)
      have hc0 : (wr.alloc (.cells #[enc f.1, enc f.2] 57)).cell? ⟨wr.heap.size, 0, none⟩ = some (.int .u32 (iv f.1)) := by simp [enc]
      have hc1 : (wr.alloc (.cells #[enc f.1, enc f.2] 57)).cell? ⟨wr.heap.size, 1, none⟩ = some (.int .u32 (iv f.2)) := by simp [enc]
      have H2 := hid (held2 hc0 hc1)
      simp only [enc_eq] at C R1 ho1 hn1 H2
      cases hq : decide (f ∈ out) with
      | true =>
        have N2 := hid (N.out.trans (onceStep_yes hq))
        rw [hq] at C
        clear hq N hb1 hc0 hc1
        go_wp2_with fail
        refine (C.out _ R1.out).mono ?_
        rintro e w2 ⟨rfl, hb2⟩
        have ho2 := own_below ho1 hb2
        have hn2 := hn1.trans (hb2.mono hn1.size)
        clear hb2 ho1 hn1 hown hnx e0 e1
        go_wp2_with fail
        go_roundw
        case rel => exact ⟨k + 1, by omega, by go_num, by rw [N2.out]; exact ho2, hn2⟩
        case measure => simp [intOf]; omega
      | false =>
        have N2 := hid (N.out.trans (onceStep_no hq))
        rw [hq] at C
        clear hq N hb1 hc0 hc1
        go_wp2_with fail
        refine (C.out _ R1.out).mono ?_
        rintro e w2 ⟨rfl, hb2⟩
        obtain ⟨-, e2, e3⟩ := H2.out w2 hb2
        have ho2 := own_below ho1 hb2
        have hn2 := hn1.trans (hb2.mono hn1.size)
        have hs2 := hn2.size
        clear hb2 ho1 hn1 hown hnx e0 e1
        go_wp2_with (at_builtin; refine wpList_pushC rfl _ _ 58 rfl w.heap.size 57 (.agg #[.int .u32 0, .int .u32 0]) 2 8 undFDs infoFD rfl (by decide) (by decide) cF cF_length cF_one _ out rfl (ho2.alloc _) ⟨w2.heap.size, 0, none⟩ f rfl (cells_newF _ _) (by omega) (by simp; omega) ?_)
        intro v' w3 hown' hgrow
        have hb3 : Below w.heap.size w w3 := below_push hn2 hs2 ho2 hgrow
        clear hgrow ho2 hn2 e2 e3
        go_wp2_with fail
        go_roundw
        case rel => exact ⟨k + 1, by omega, by go_num, by rw [N2.out]; simpa using hown', hb3⟩
        case measure => simp [intOf]; omega
    · rw [take_all hlt] at hown
      go_wp2_with fail
      go_ret
      exact ⟨_, rfl, hown, hnx⟩

end Go.Proofs.YtgahpgmagfngfaaGreatDoor


/- A row of the call's own that grows while other rows of the call's own are read: what stays. No program. -/
namespace Go.Proofs.YtgahpgmagfngfaaGreatDoor
open Go.RowKit

/-- From the world wm on, with the row of vm: now wr, with the row of v; no other block of wm has changed. -/
structure Grow1 (wm : World) (vm : Value) (wr : World) (v : Value) : Prop where
  grown : wm.grownBy wr vm.ownBlock
  own : v.ownBlock = vm.ownBlock ∨ ∃ g, v.ownBlock = some g ∧ wm.heap.size ≤ g

theorem Grow1.refl (w : World) (v : Value) : Grow1 w v w v := ⟨World.grownBy.refl w _, .inl rfl⟩
theorem Grow1.size {wm wr : World} {vm v : Value} (h : Grow1 wm vm wr v) : wm.heap.size ≤ wr.heap.size := h.grown.size
theorem Grow1.below {wm wr w' : World} {vm v : Value} (h : Grow1 wm vm wr v) (hb : Below wr.heap.size wr w') : Grow1 wm vm w' v :=
  ⟨⟨hb.os.trans h.grown.os, hb.tape.trans h.grown.tape, hb.output.trans h.grown.output, Nat.le_trans h.grown.size hb.size, fun k hk hne => (hb.block k (Nat.lt_of_lt_of_le hk h.grown.size)).trans (h.grown.block k hk hne)⟩, h.own⟩
theorem Grow1.alloc {wm wr : World} {vm v : Value} (h : Grow1 wm vm wr v) (o : Obj) : Grow1 wm vm (wr.alloc o) v := h.below (below_alloc _ _)
theorem Grow1.drew {wm wr : World} {vm v : Value} (h : Grow1 wm vm wr v) : Grow1 wm vm wr.drew v := h.below (Below.refl _ _).drew
theorem Grow1.push {wm wr w1 : World} {vm v v' : Value} (h : Grow1 wm vm wr v) (hg : wr.grownBy w1 v.ownBlock) (ho : v'.ownBlock = v.ownBlock ∨ v'.ownBlock = some wr.heap.size) : Grow1 wm vm w1 v' := by
  refine ⟨⟨hg.os.trans h.grown.os, hg.tape.trans h.grown.tape, hg.output.trans h.grown.output, Nat.le_trans h.grown.size hg.size, fun k hk hne => ?_⟩, ?_⟩
  · refine (hg.block k (Nat.lt_of_lt_of_le hk h.grown.size) ?_).trans (h.grown.block k hk hne)
    rcases h.own with e | ⟨g, e, hl⟩
    · rw [e]; exact hne
    · rw [e]; intro e2; cases e2; omega
  · rcases ho with e | e
    · rw [e]; exact h.own
    · exact .inr ⟨_, e, h.grown.size⟩
theorem Grow1.cell {wm wr : World} {vm v : Value} (h : Grow1 wm vm wr v) (p : Addr) (hlt : p.block < wm.heap.size) (hne : some p.block ≠ vm.ownBlock) : wr.cell? p = wm.cell? p :=
  World.cell?_of_block (h.grown.block p.block hlt hne)
/-- Nothing below the row's base has changed. -/
theorem Grow1.of_below {B : Nat} {wm wr : World} {vm v : Value} {e : TypeId} {size n : Nat} {xs : List Value} {w : World} (h : Grow1 wm vm wr v) (hb : Below B w wm) (hown : wm.ownsRow B e size vm n xs) (hB : B ≤ wm.heap.size) : Below B w wr :=
  hb.grown h.grown hB (fun j hj => (hown.lt j hj).1)
/-- A row that lies elsewhere reads as before. -/
theorem Grow1.far {wm wr : World} {vm v : Value} {u : Value} {m : Nat} {e' : TypeId} {size' : Nat} {ys : List Value} {B' : Nat} (h : Grow1 wm vm wr v) (hu : wm.ownsRow B' e' size' u m ys) (hne : ∀ g, vm.ownBlock = some g → u.ownBlock = some g → False) : wr.ownsRow B' e' size' u m ys := by
  refine ⟨hu.1, ?_⟩
  rcases hu.2 with h' | ⟨g, cap, cur, hv, hg, hc, rest⟩
  · exact .inl h'
  · refine .inr ⟨g, cap, cur, hv, hg, (h.grown.block g (Array.getElem?_eq_some_iff.1 hc).1 ?_).trans hc, rest⟩
    intro e
    exact hne g e.symm (by rw [hv]; rfl)

section
variable {α : Type}
theorem step_pushCo {P : Program} {w : World} {ops : Array Oper} {o : Oper} {a : Act} {K : Act → World → Prop} {Q : Exit → Act → World → Prop} {E : Prop} (hgd : o.guard = none) (s x : Operand) (t : TypeId)
    (ho : o.op = .call { callee := .builtin .append, args := #[s, x], argTypes := #[t, t] })
    (B : Nat) (e : TypeId) (z : Value) (n bytes : Nat) (ht : P.underlying t = some (.slice e)) (hinfo : (P.info? e).map (fun i => (i.zero, i.size, i.bytes)) = some (some z, n, bytes)) (hz : z.cells.size = n) (hn : 0 < n) (hb8 : bytes ≤ 64)
    (c : α → List Value) (hc : ∀ y, (c y).length = n) (hf : ∀ y, ∀ u ∈ c y, u.oneCell' = true) (v : Value) (xs : List α) (hs : a.eval s = v) (hown : w.ownsRow B e n v xs.length (xs.flatMap c))
    (ad : Addr) (y : α) (hx : a.eval x = .slice (some ad) 1 1) (hy : ∀ j u, (c y)[j]? = some u → w.cell? (ad.add j) = some u) (hl : xs.length < 2199023255552) (hB : B ≤ w.heap.size)
    (h : ∀ v' w', w'.ownsRow B e n v' (xs ++ [y]).length ((xs ++ [y]).flatMap c) → w.grownBy w' v.ownBlock → (v'.ownBlock = v.ownBlock ∨ v'.ownBlock = some w.heap.size) → K (a.put o.dst v') w') :
    if Region.wanted o (yielded ops a.tmps) = true then Oper.wp P o a w K Q else E := by
  obtain ⟨i, hi, hz0, hz1, hz2⟩ := info_parts hinfo
  refine step_append_lies w hgd s x t ho B e i z n bytes ht hi hz0 hz1 hz2 hz hn v xs.length (xs.flatMap c) hs hown ad 1 1 (c y) hx (by rw [hc, Nat.one_mul]) hy (hf y) (by omega) ?_ ?_ hB _ rfl ?_
  · unfold maxLen; omega
  · refine Nat.le_trans (Nat.mul_le_mul_left _ hb8) ?_; omega
  · intro g cap w' h1 h2 h3 _
    refine h _ w' ?_ h2 (h3.elim (fun e => .inl e.symm) fun e => .inr (by rw [e]; rfl))
    simpa using h1
end


end Go.Proofs.YtgahpgmagfngfaaGreatDoor


/- The walk of cover's Split. -/
namespace Go.Proofs.YtgahpgmagfngfaaGreatDoor
open Go.RowKit

theorem splitX_length (x : F) : (splitX x).length ≤ 32 := by unfold splitX; rw [List.length_map]; exact memN_length _ _
theorem flatSplit_length (fs : List F) : (fs.flatMap splitX).length ≤ 32 * fs.length := by
  induction fs with
  | nil => simp
  | cons f fs ih => rw [List.flatMap_cons, List.length_append, List.length_cons]; have := splitX_length f; omega
theorem flatSplit_next {fs : List F} {k : Nat} {f : F} (h : fs[k]? = some f) : (fs.take (k + 1)).flatMap splitX = (fs.take k).flatMap splitX ++ splitX f := by
  rw [take_next h, List.flatMap_append]; simp
def sideX (x : F) (a : Nat) : F := (x.1, bit a)

set_option maxHeartbeats 800000 in
set_option maxRecDepth 100000 in
theorem split_any (fs : List F) (v : Value) (w : World) (hT : Tab w) (hv : RdF w v fs) (hl : fs.length < 34359738368) :
    Calls Tryz.prog 129 #[v] w fun e w' => ∃ v', e = .returned v' ∧ w'.ownsRow w.heap.size 57 2 v' (splitF fs).length ((splitF fs).flatMap cF) ∧ Below w.heap.size w w' := by
  have ME := hid (fun (s : S) (W : World) (h : Below w.heap.size w W) => amembers_any s W (hT.below h))
  obtain ⟨ao, cap, rfl, -, hc⟩ := hv.split
  have FC := hid hc
  have ON := hid (fun (u : Value) (W : World) (hu : RdF W u (fs.flatMap splitX)) => once_any (fs.flatMap splitX) u W hu (by have := flatSplit_length fs; omega))
  have ONE := hid (show onceF (fs.flatMap splitX) = splitF fs from rfl)
  clear hv hc hT
  simp only [enc_eq] at ME
  go_enter Tryz.func129, Tryz.ntmps129
  go_wp2_with fail
  go_loopw [3, 10] (fun o i wr => ∃ k : Nat, k ≤ fs.length ∧ i = .int .i64 k ∧ wr.ownsRow w.heap.size 57 2 o ((fs.take k).flatMap splitX).length (((fs.take k).flatMap splitX).flatMap cF) ∧ Below w.heap.size w wr) (fun _ i _ => fs.length - (intOf i).toNat)
  case atStart => exact ⟨0, Nat.zero_le _, rfl, World.ownsRow_nil _ _ _ _, Below.refl _ _⟩
  case round =>
    obtain ⟨k, hk, rfl, hown, hnx⟩ := hrel
    obtain ⟨wo, rfl⟩ : ∃ wo : World, wo = wr := ⟨_, rfl⟩
    have hsz := hnx.size
    have hol : ((fs.take k).flatMap splitX).length ≤ 32 * k := Nat.le_trans (flatSplit_length _) (by simp; omega)
    by_cases hlt : k < fs.length
    · obtain ⟨f, hf⟩ := get_some hlt
      obtain ⟨b, off, rfl, hfc⟩ := FC.out k f hf
      obtain ⟨e0, e1⟩ := hfc wo hnx
      have N := hid (flatSplit_next hf)
      have NS := hid (show splitX f = (memN (f.2 &&& ~~~ f.1) 32).map (sideX f) from rfl)
      clear hfc hf
      generalize (fs.take k).flatMap splitX = out at *
      have hb1 := below_alloc wo (.cells #[.int .u32 (iv f.1), .int .u32 (iv f.2)] 57)
      have hc0 : (wo.alloc (.cells #[.int .u32 (iv f.1), .int .u32 (iv f.2)] 57)).cell? ⟨wo.heap.size, 0, none⟩ = some (.int .u32 (iv f.1)) := by simp
      have M := hid (ME.out (f.2 &&& ~~~ f.1) (wo.alloc (.cells #[.int .u32 (iv f.1), .int .u32 (iv f.2)] 57)) (hnx.trans (hb1.mono hsz)))
      have HB := hid hb1
      have HC0 := hid hc0
      clear hb1 hc0
      go_wp2_with fail
      refine M.out.mono ?_
      rintro e w2 ⟨v2, rfl, ho2, hb2⟩
      have hbo := later HB.out hb2
      have hmo := own_below hown hbo
      have hbm := hnx.trans (hbo.mono hsz)
      have hcx : w2.cell? ⟨wo.heap.size, 0, none⟩ = some (.int .u32 (iv f.1)) := (hb2.cell (p := ⟨wo.heap.size, 0, none⟩) (by simp)).trans HC0.out
      have hlx : wo.heap.size < w2.heap.size := by have := hb2.size; simp at this; omega
      have hne : ∀ g, u3.ownBlock = some g → g < wo.heap.size := fun g hg => (hown.lt g hg).2
      have HX := hid (fun (W : World) (x : Value) (h : Grow1 w2 u3 W x) => (h.cell ⟨wo.heap.size, 0, none⟩ hlx (fun e => Nat.lt_irrefl _ (hne _ e.symm))).trans hcx)
      have hml : ∀ a ∈ memN (f.2 &&& ~~~ f.1) 32, a < 32 := fun a ha => (mem_memN.1 ha).1
      have hmn := memN_length (f.2 &&& ~~~ f.1) 32
      have HML := hid hml
      generalize memN (f.2 &&& ~~~ f.1) 32 = ms at *
      have HMS := hid (fun (W : World) (x : Value) (h : Grow1 w2 u3 W x) => RdE.of_owns (h.far ho2 (fun g h1 h2 => by have := hne g h1; have := (ho2.lt g h2).1; simp at this; omega)) (by omega))
      obtain ⟨mo, mcap, rfl, -, -⟩ := (RdE.of_owns ho2 (by omega)).split
      have HO := hid hmo
      have HBM := hid hbm
      clear hown hnx hmo hbm hbo hb2 ho2 hcx hlx hne hml HC0 HB M e0 e1
      have hs2 := HBM.out.size
      go_wp2_with fail
      go_loopw [3, 21] (fun o i wr => ∃ j : Nat, j ≤ ms.length ∧ i = .int .i64 j ∧ wr.ownsRow w.heap.size 57 2 o (out ++ (ms.take j).map (sideX f)).length ((out ++ (ms.take j).map (sideX f)).flatMap cF) ∧ Grow1 w2 u3 wr o) (fun _ i _ => ms.length - (intOf i).toNat)
      case atStart => exact ⟨0, Nat.zero_le _, rfl, by simpa using HO.out, Grow1.refl _ _⟩
      case round =>
        obtain ⟨j, hj, rfl, hown, hG⟩ := hrel
        have hsr := hG.size
        have hll : (out ++ (ms.take j).map (sideX f)).length ≤ out.length + j := by simp; omega
        by_cases hjl : j < ms.length
        · obtain ⟨a, ha⟩ := get_some hjl
          have ha32 := HML.out a (List.mem_of_getElem? ha)
          obtain ⟨mo', mcap', he, -, hmc⟩ := (HMS.out _ _ hG).split
          cases he
          obtain ⟨g, goff, rfl, hmd⟩ := hmc j a ha
          have em := hmd wr (Below.refl _ _)
          have T := hid (show out ++ (ms.take (j + 1)).map (sideX f) = (out ++ (ms.take j).map (sideX f)) ++ [sideX f a] by rw [take_next ha, List.map_append, List.append_assoc]; rfl)
          have a0 : (0 : Int) ≤ (a : Int) := by omega
          have hem : wr.cell? ⟨g, goff + j, none⟩ = some (.int .i64 (a : Int)) := em
          clear hmc hmd ha em
          generalize out ++ (ms.take j).map (sideX f) = ys at *
          go_wp2_with fail
          go_region_held3 (fun W => W.cell? ⟨wo.heap.size, 0, none⟩ = some (.int .u32 (iv f.1)))
            (first | exact HX.out _ _ hG.drew | exact HX.out _ _ (hG.alloc _).drew | exact HX.out _ _ (by assumption))
            ((refine step_pushCo (by rfl) _ _ 58 (by rfl) w.heap.size 57 (.agg #[.int .u32 0, .int .u32 0]) 2 8 undFDs infoFD rfl (by decide) (by decide) cF cF_length cF_one _ ys (by rfl) ((hown.alloc _).drew) ⟨wr.heap.size, 0, none⟩ (sideX f a) (by rfl) (cells_newFd _ (sideX f a)) (by omega) (by simp; omega) ?_; intro v' w3 hown' hgrow hob; have hG3 := (hG.alloc _).drew.push hgrow hob))
          clear hgrow hown hG hem hob
          go_wp2_with fail
          go_roundw
          case rel => exact ⟨j + 1, by omega, by go_num, by rw [T.out]; simpa using hown', hG3⟩
          case measure => simp [intOf]; omega
        · rw [take_all hjl, ← NS.out, ← N.out] at hown
          have hbw := hG.of_below HBM.out HO.out hs2
          clear hG HX HMS
          go_wp2_with fail
          go_roundw
          case rel => exact ⟨k + 1, by omega, by go_num, hown, hbw⟩
          case measure => simp [intOf]; omega
    · rw [take_all hlt] at hown hol
      have R := hid (RdC.of_owns cF_length hown (by omega))
      clear hown
      go_wp2_with fail
      refine (ON.out _ _ R.out).mono ?_
      rintro e w2 ⟨v2, rfl, ho2, hb2⟩
      have B2 := hid (hnx.trans (hb2.mono hsz))
      have O2 := hid (own_mono ho2 hsz)
      rw [ONE.out] at O2
      clear ho2 hb2 hnx
      go_wp2_with fail
      go_ret
      exact ⟨_, rfl, O2.out, B2.out⟩

end Go.Proofs.YtgahpgmagfngfaaGreatDoor


/- The walk of cover's minimal. -/
namespace Go.Proofs.YtgahpgmagfngfaaGreatDoor
open Go.RowKit

theorem Grow1.stored {wm wr w' : World} {vm : Value} (h : Grow1 wm vm wr vm) (hg : wr.grownBy w' vm.ownBlock) : Grow1 wm vm w' vm := h.push hg (.inl rfl)
theorem flat_set {xs : List F} {i : Nat} {x : F} (h : xs[i]? = some x) (s : S) : (xs.flatMap cF).set (i * 2) (enc s) = (xs.set i (s, x.2)).flatMap cF := by
  induction xs generalizing i with
  | nil => simp at h
  | cons y ys ih =>
    cases i with
    | zero => simp at h; subst h; simp [cF]
    | succ i =>
      have h' : ys[i]? = some x := by simpa using h
      have := ih h'
      rw [List.set_cons_succ, List.flatMap_cons, List.flatMap_cons, ← this, show (i + 1) * 2 = i * 2 + 2 by omega]
      simp [cF]
theorem own_form {w : World} {B : Nat} {e : TypeId} {size n : Nat} {v : Value} {xs : List Value} (h : w.ownsRow B e size v n xs) (hn : 0 < n) : ∃ g cap, v = .slice (some ⟨g, 0, none⟩) n cap := by
  rcases h.2 with ⟨_, h0⟩ | ⟨g, cap, cur, hv, _⟩
  · omega
  · exact ⟨g, cap, hv⟩
theorem trimN_next {l : List F} {i j a : Nat} {ms : List Nat} (h : ms[j]? = some a) : trimN l i (ms.take (j + 1)) = trimStep i (trimN l i (ms.take j)) a := by
  unfold trimN; rw [take_next h, List.foldl_append]; rfl
theorem lhsN_at {l : List F} {i : Nat} {x : F} (h : l[i]? = some x) : lhsN l i = memN x.1 32 := by unfold lhsN; simp [List.getD, h]
theorem of_ownsN {w : World} {B n : Nat} {e : TypeId} {v : Value} {xs : List F} (hn : xs.length = n) (h : w.ownsRow B e 2 v n (xs.flatMap cF)) (hl : n ≤ 35184372088832) : RdF w v xs := by
  subst hn; exact RdC.of_owns cF_length h hl
theorem cells_own {w : World} {B n g cap i : Nat} {e : TypeId} {xs : List F} {x : F} (h : w.ownsRow B e 2 (.slice (some ⟨g, 0, none⟩) n cap) n (xs.flatMap cF)) (hn : xs.length = n) (hx : xs[i]? = some x) :
    w.cell? ⟨g, i * 2, none⟩ = some (.int .u32 (iv x.1)) ∧ w.cell? ⟨g, i * 2 + 1, none⟩ = some (.int .u32 (iv x.2)) := by
  have hi := (List.getElem?_eq_some_iff.1 hx).1
  obtain ⟨h1, h2⟩ := flatF_at hx
  exact ⟨(h.cellAt _ (by omega)).trans h1, (h.cellAt _ (by omega)).trans h2⟩
def lenOf : Value → Nat
  | .slice _ n _ => n
  | _ => 0
theorem dropS_length : ∀ (n : Nat) (l : List F) (i : Nat), l.length - i ≤ n → (dropS l i).length ≤ l.length := by
  intro n
  induction n with
  | zero => intro l i h; rw [dropS_end (by omega)]; exact Nat.le_refl _
  | succ n ih =>
    intro l i h
    by_cases hlt : i < l.length
    · cases hr : redB l i with
      | true =>
        rw [dropS_yes hlt hr]
        have := others_length hlt
        have := ih (othersF l i) i (by omega); omega
      | false => rw [dropS_no hlt hr]; exact ih l (i + 1) (by omega)
    · rw [dropS_end hlt]; exact Nat.le_refl _

set_option maxHeartbeats 1600000 in
set_option maxRecDepth 100000 in
theorem minimal_any (fs : List F) (v : Value) (w : World) (hT : Tab w) (hv : RdF w v fs) (hl : fs.length < 1073741824) :
    Calls Tryz.prog 88 #[v] w fun e w' => ∃ v', e = .returned v' ∧ w'.ownsRow w.heap.size 57 2 v' (minF fs).length ((minF fs).flatMap cF) ∧ Below w.heap.size w w' := by
  have ME := hid (fun (s : S) (W : World) (h : Below w.heap.size w W) => amembers_any s W (hT.below h))
  have SP := hid (split_any fs v w hT hv (by omega))
  have SL := hid (show (splitF fs).length ≤ 32 * fs.length from Nat.le_trans (onceF_length _) (flatSplit_length _))
  have MD := hid (show dropS (onceF (trimF (splitF fs) (splitF fs).length)) 0 = minF fs from rfl)
  obtain ⟨ao, cap, rfl⟩ := hv.form
  clear hv hT
  simp only [enc_eq] at ME
  go_enter Tryz.func88, Tryz.ntmps88
  go_wp2_with fail
  refine SP.out.mono ?_
  rintro e w1 ⟨v1, rfl, ho1, hb1⟩
  have O1 := hid ho1
  have B1 := hid hb1
  have hsl := SL.out
  generalize splitF fs = l0 at *
  obtain ⟨lo, lcap, rfl⟩ := (show RdF w1 v1 l0 from RdC.of_owns cF_length ho1 (by omega)).form
  clear ho1 hb1 SP
  have EX := hid (fun (l : List F) (x : F) (a : Nat) (ha : a < 32) (u : Value) (W : World) (h : RdF W u l) => extraneous_any l x a ha u W h)
  have ON := hid (fun (l : List F) (u : Value) (W : World) (h : RdF W u l) (hh : l.length < 1099511627776) => once_any l u W h hh)
  have RE := hid (fun (l : List F) (i : Nat) (hi : i < l.length) (u : Value) (W : World) (h : RdF W u l) (hh : l.length < 1099511627776) => redundant_any l i hi u W h hh)
  have OT := hid (fun (l : List F) (i : Nat) (hi : i < l.length) (u : Value) (W : World) (h : RdF W u l) (hh : l.length < 1099511627776) => others_any l i hi u W h hh)
  go_wp2_with fail
  go_loopw [12] (fun i wr => ∃ k : Nat, k ≤ l0.length ∧ i = .int .i64 k ∧ wr.ownsRow w.heap.size 57 2 (.slice lo l0.length lcap) l0.length ((trimF l0 k).flatMap cF) ∧ Below w.heap.size w wr) (fun i _ => l0.length - (intOf i).toNat)
  case atStart => exact ⟨0, Nat.zero_le _, rfl, O1.out, B1.out⟩
  case round =>
    obtain ⟨k, hk, rfl, hown, hnx⟩ := hrel
    obtain ⟨wo, rfl⟩ : ∃ wo : World, wo = wr := ⟨_, rfl⟩
    have hsz := hnx.size
    have hlk := trimF_length l0 k
    by_cases hlt : k < l0.length
    · obtain ⟨x, hx⟩ := get_some (show k < (trimF l0 k).length by omega)
      obtain ⟨g, gcap, he⟩ := own_form hown (by omega)
      cases he
      obtain ⟨e0, e1⟩ := cells_own hown hlk hx
      have M := hid (ME.out x.1 wo hnx)
      have TN := hid (show trimF l0 (k + 1) = trimN (trimF l0 k) k (memN x.1 32) by rw [← lhsN_at hx]; rfl)
      have hml : ∀ a ∈ memN x.1 32, a < 32 := fun a ha => (mem_memN.1 ha).1
      have hmn := memN_length x.1 32
      have HML := hid hml
      clear hx hml
      generalize memN x.1 32 = ms at *
      go_wp2_with fail
      refine M.out.mono ?_
      rintro e w2 ⟨v2, rfl, ho2, hb2⟩
      have hmo := own_below hown hb2
      have HBM := hid (hnx.trans (hb2.mono hsz))
      have hgo : g < wo.heap.size := (hown.lt g rfl).2
      have hgw : w.heap.size ≤ g := (hown.lt g rfl).1
      have HMS := hid (fun (W : World) (h : Grow1 w2 (.slice (some ⟨g, 0, none⟩) l0.length lcap) W (.slice (some ⟨g, 0, none⟩) l0.length lcap)) => RdE.of_owns (h.far ho2 (fun g' h1 h2 => by cases h1; have := (ho2.lt g h2).1; omega)) (by omega))
      obtain ⟨mo, mcap, rfl, -, -⟩ := (RdE.of_owns ho2 (by omega)).split
      have HO := hid hmo
      clear hown hnx hmo hb2 ho2 M e0 e1
      have hs2 := HBM.out.size
      go_wp2_with fail
      go_loopw [22] (fun i wr => ∃ j : Nat, j ≤ ms.length ∧ i = .int .i64 j ∧ wr.ownsRow w.heap.size 57 2 (.slice (some ⟨g, 0, none⟩) l0.length lcap) l0.length ((trimN (trimF l0 k) k (ms.take j)).flatMap cF) ∧ Grow1 w2 (.slice (some ⟨g, 0, none⟩) l0.length lcap) wr (.slice (some ⟨g, 0, none⟩) l0.length lcap)) (fun i _ => ms.length - (intOf i).toNat)
      case atStart => exact ⟨0, Nat.zero_le _, rfl, HO.out, Grow1.refl _ _⟩
      case round =>
        obtain ⟨j, hj, rfl, hown, hG⟩ := hrel
        have hll : (trimN (trimF l0 k) k (ms.take j)).length = l0.length := (trimN_length _ _ _).trans hlk
        by_cases hjl : j < ms.length
        · obtain ⟨a, ha⟩ := get_some hjl
          have ha32 := HML.out a (List.mem_of_getElem? ha)
          have TS := hid (trimN_next (l := trimF l0 k) (i := k) ha)
          obtain ⟨mo', mcap', he, -, hmc⟩ := (HMS.out _ hG).split
          cases he
          obtain ⟨gm, goff, rfl, hmd⟩ := hmc j a ha
          have hem : wr.cell? ⟨gm, goff + j, none⟩ = some (.int .i64 (a : Int)) := hmd wr (Below.refl _ _)
          clear hmc hmd ha
          generalize trimN (trimF l0 k) k (ms.take j) = L at *
          obtain ⟨y, hy⟩ := get_some (show k < L.length by omega)
          obtain ⟨c0, c1⟩ := cells_own hown hll hy
          have E := hid (EX.out L y a ha32 _ wr (of_ownsN hll hown (by omega)))
          have a0 : (0 : Int) ≤ (a : Int) := by omega
          have k1 : (k : Int) < (l0.length : Int) := by omega
          have k0 : (0 : Int) ≤ (k : Int) := by omega
          cases hq : extrB L y a with
          | true =>
            rw [hq] at E
            have TS2 := hid (TS.out.trans (trimStep_yes hy hq))
            have FS := hid (flat_set hy (y.1 &&& ~~~ (1#32 <<< a)))
            simp only [enc_eq] at E FS
            clear hq TS
            go_wp2_with fail
            refine E.out.mono ?_
            rintro e w3 ⟨rfl, hb3⟩
            have hown3 := own_below hown hb3
            have hG3 := hG.below hb3
            obtain ⟨c0, c1⟩ := cells_own hown3 hll hy
            have hfz : w3.frozen? ⟨g, k * 2, none⟩ = false := hown3.frozenAt _
            clear hb3 hown hG hem hy
            go_wp2_with fail
            go_still_tail 10, (by kernel_rfl)
            have ST := hown3.stored (k * 2) (.int .u32 (iv (y.1 &&& ~~~ (1#32 <<< a))))
            rw [FS.out] at ST
            have S1 := hid ST.1
            have S2 := hid (hG3.stored ST.2)
            clear ST hown3 hG3
            go_wp2_with fail
            go_roundw
            case rel => exact ⟨j + 1, by omega, by go_num, by rw [TS2.out]; exact S1.out.drew, S2.out.drew⟩
            case measure => simp [intOf]; omega
          | false =>
            rw [hq] at E
            have TS2 := hid (TS.out.trans (trimStep_no hy hq))
            simp only [enc_eq] at E
            clear hq TS
            go_wp2_with fail
            refine E.out.mono ?_
            rintro e w3 ⟨rfl, hb3⟩
            have hown3 := own_below hown hb3
            have hG3 := hG.below hb3
            clear hb3 hown hG hem hy c0 c1
            go_wp2_with fail
            go_roundw
            case rel => exact ⟨j + 1, by omega, by go_num, by rw [TS2.out]; exact hown3, hG3⟩
            case measure => simp [intOf]; omega
        · rw [take_all hjl, ← TN.out] at hown
          have hbw := hG.of_below HBM.out HO.out hs2
          clear hG HMS
          go_wp2_with fail
          go_roundw
          case rel => exact ⟨k + 1, by omega, by go_num, hown, hbw⟩
          case measure => simp [intOf]; omega
    · obtain rfl : k = l0.length := by omega
      have R := hid (of_ownsN hlk hown (by omega))
      have OO := hid (ON.out _ _ wo R.out (by omega))
      have hol := onceF_length (trimF l0 l0.length)
      clear hown R
      generalize onceF (trimF l0 l0.length) = l1 at *
      go_wp2_with fail
      refine OO.out.mono ?_
      rintro e w2 ⟨v2, rfl, ho2, hb2⟩
      have B2 := hid (hnx.trans (hb2.mono hsz))
      have O2 := hid (own_mono ho2 hsz)
      clear ho2 hb2 hnx
      go_wp2_with fail
      go_loopw [3, 7] (fun u i wr => ∃ (l : List F) (i' : Nat), i' ≤ l.length ∧ l.length ≤ l1.length ∧ i = .int .i64 i' ∧ lenOf u = l.length ∧ wr.ownsRow w.heap.size 57 2 u l.length (l.flatMap cF) ∧ Hid (dropS l i' = minF fs) ∧ Below w.heap.size w wr) (fun u i _ => lenOf u - (intOf i).toNat)
      case atStart =>
        refine ⟨l1, 0, Nat.zero_le _, Nat.le_refl _, rfl, ?_, O2.out, hid MD.out, B2.out⟩
        obtain ⟨ao, cap, rfl⟩ := (show RdF w2 v2 l1 from RdC.of_owns cF_length O2.out (by omega)).form
        rfl
      case round =>
        obtain ⟨l, i, hil, hll1, rfl, hlo, hown, D, hnx⟩ := hrel
        have hsz := hnx.size
        have R := hid (show RdF wr u3 l from RdC.of_owns cF_length hown (by omega))
        obtain ⟨uo, ucap, rfl⟩ := R.out.form
        by_cases hlt : i < l.length
        · have RD := hid (RE.out l i hlt _ wr R.out (by omega))
          have hol := others_length hlt
          cases hq : redB l i with
          | true =>
            rw [hq] at RD
            have D2 := hid ((dropS_yes hlt hq).symm.trans D.out)
            clear hq D
            go_wp2_with fail
            refine RD.out.mono ?_
            rintro e w3 ⟨rfl, hb3⟩
            have hn3 := hnx.trans (hb3.mono hsz)
            have hs3 := hn3.size
            have OTH := hid (OT.out l i hlt _ w3 (R.out.below hb3) (by omega))
            clear hb3 hnx hown
            go_wp2_with fail
            refine OTH.out.mono ?_
            rintro e w4 ⟨v4, rfl, ho4, hb4⟩
            have hn4 := hn3.trans (hb4.mono hs3)
            have hv4 : lenOf v4 = (othersF l i).length := by
              obtain ⟨ao, cap, rfl⟩ := (show RdF w4 v4 (othersF l i) from RdC.of_owns cF_length ho4 (by omega)).form
              rfl
            have O4 := hid (own_mono ho4 hs3)
            have HV := hid hv4
            have HOL := hid hol
            clear ho4 hb4 hn3 hv4
            go_wp2_with fail
            go_roundw
            case rel => exact ⟨othersF l i, i, by rw [HOL.out]; omega, by rw [HOL.out]; omega, rfl, HV.out, O4.out, D2, hn4⟩
            case measure => rw [HV.out, HOL.out]; simp [intOf, lenOf]; omega
          | false =>
            rw [hq] at RD
            have D2 := hid ((dropS_no hlt hq).symm.trans D.out)
            clear hq D hol
            go_wp2_with fail
            refine RD.out.mono ?_
            rintro e w3 ⟨rfl, hb3⟩
            have hn3 := hnx.trans (hb3.mono hsz)
            have ho3 := own_below hown hb3
            clear hb3 hnx hown
            go_wp2_with fail
            go_roundw
            case rel => exact ⟨l, i + 1, by omega, hll1, by go_num, rfl, ho3, D2, hn3⟩
            case measure => simp [intOf, lenOf]; omega
        · have D2 := hid ((dropS_end hlt).symm.trans D.out)
          clear D
          go_wp2_with fail
          go_ret
          rw [← D2.out]
          exact ⟨_, rfl, hown, hnx⟩

end Go.Proofs.YtgahpgmagfngfaaGreatDoor

