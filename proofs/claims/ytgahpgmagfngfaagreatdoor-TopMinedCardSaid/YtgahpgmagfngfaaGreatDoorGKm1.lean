/- Texts that belong together, in one file. -/
import Derived.Test.YtgahpgmagfngfaaGreatDoorStrC
import Derived.Test.YtgahpgmagfngfaaGreatDoorGSort
import Derived.Test.YtgahpgmagfngfaaGreatDoorGTab27
import Derived.Test.YtgahpgmagfngfaaGreatDoorAfter
import Derived.StillTailTactics
import Derived.Test.YtgahpgmagfngfaaGreatDoorGPlain
import Derived.Test.YtgahpgmagfngfaaGreatDoorCells
import Derived.Test.YtgahpgmagfngfaaGreatDoorBase
import Derived.Maps.OwnOps
import Derived.Maps.OwnSet
import Derived.Maps.Views
import Derived.Test.YtgahpgmagfngfaaGreatDoorGTab14
import Derived.Test.YtgahpgmagfngfaaGreatDoorGTab20
import Derived.Test.YtgahpgmagfngfaaGreatDoorGTab30
/- The walks of value.Compare and of keymine's agree. -/
namespace Go.Proofs.YtgahpgmagfngfaaGreatDoor
open Go.RowKit
set_option linter.unusedVariables false

theorem compareBytes_zero : ∀ (a b : List UInt8), Lib.compareBytes a b = 0 ↔ a = b := by
  intro a
  induction a with
  | nil => intro b; cases b <;> simp [Lib.compareBytes]
  | cons x a ih =>
    intro b
    cases b with
    | nil => simp [Lib.compareBytes]
    | cons y b =>
      unfold Lib.compareBytes
      by_cases h1 : x < y
      · rw [if_pos h1]
        refine ⟨fun h => absurd h (by decide), fun h => ?_⟩
        simp only [List.cons.injEq] at h
        rw [h.1] at h1
        exact absurd h1 (UInt8.lt_irrefl _)
      · rw [if_neg h1]
        by_cases h2 : y < x
        · rw [if_pos h2]
          refine ⟨fun h => absurd h (by decide), fun h => ?_⟩
          simp only [List.cons.injEq] at h
          rw [h.1] at h2
          exact absurd h2 (UInt8.lt_irrefl _)
        · rw [if_neg h2, ih]
          have : x = y := UInt8.le_antisymm (UInt8.not_lt.1 h2) (UInt8.not_lt.1 h1)
          rw [this]; simp
def vcmp (x y : V3) : Int := if cmpI x.1 y.1 ≠ 0 then cmpI x.1 y.1 else if cmpI x.2.1 y.2.1 ≠ 0 then cmpI x.2.1 y.2.1 else Lib.compareBytes x.2.2.data.toList y.2.2.data.toList
theorem cmpI_zero (x y : Int) : cmpI x y = 0 ↔ x = y := by
  unfold cmpI
  by_cases h1 : x < y
  · rw [if_pos h1]; constructor
    · intro h; exact absurd h (by decide)
    · intro h; omega
  · rw [if_neg h1]
    by_cases h2 : y < x
    · rw [if_pos h2]; constructor
      · intro h; exact absurd h (by decide)
      · intro h; omega
    · rw [if_neg h2]; constructor
      · intro _; omega
      · intro _; rfl
theorem vcmp_zero (x y : V3) : (vcmp x y == 0) = eqV x y := by
  rw [Bool.eq_iff_iff, beq_iff_eq, eqV_iff, ByteArray.toList_eq, ByteArray.toList_eq]
  unfold vcmp
  by_cases h1 : x.1 = y.1
  · rw [if_neg (by rw [ne_eq, Classical.not_not, cmpI_zero]; exact h1)]
    by_cases h2 : x.2.1 = y.2.1
    · rw [if_neg (by rw [ne_eq, Classical.not_not, cmpI_zero]; exact h2), compareBytes_zero]
      exact ⟨fun h => ⟨h1, h2, h⟩, fun h => h.2.2⟩
    · have h2' : cmpI x.2.1 y.2.1 ≠ 0 := fun h => h2 ((cmpI_zero _ _).1 h)
      rw [if_pos h2']
      exact ⟨fun h => absurd h h2', fun h => absurd h.2.1 h2⟩
  · have h1' : cmpI x.1 y.1 ≠ 0 := fun h => h1 ((cmpI_zero _ _).1 h)
    rw [if_pos h1']
    exact ⟨fun h => absurd h h1', fun h => absurd h.1 h1⟩

theorem cmpI64_any (x y : Int) (w : World) :
    Calls Tryz.prog 147 #[.int .i64 x, .int .i64 y] w fun e w' => e = .returned (.int .i64 (cmpI x y)) ∧ w = w' := by
  have hx : ((x : Int) != x) = false := by simp
  have hy : ((y : Int) != y) = false := by simp
  rcases (show x < y ∨ (¬ x < y ∧ y < x) ∨ (¬ x < y ∧ ¬ y < x) by omega) with h | ⟨h1, h2⟩ | ⟨h1, h2⟩
  · have e : cmpI x y = -1 := by simp [cmpI, h]
    rw [e]; clear e
    go_enter Tryz.func147, Tryz.ntmps147
    go_wp2
    go_ret
    exact ⟨rfl, rfl⟩
  · have e : cmpI x y = 1 := by simp [cmpI, h1, h2]
    rw [e]; clear e
    go_enter Tryz.func147, Tryz.ntmps147
    go_wp2
    go_ret
    exact ⟨rfl, rfl⟩
  · have e : cmpI x y = 0 := by simp [cmpI, h1, h2]
    rw [e]; clear e
    go_enter Tryz.func147, Tryz.ntmps147
    go_wp2
    go_ret
    exact ⟨rfl, rfl⟩
/-- cmp.Or of three numbers. -/
theorem or3_any (x y z : Int) (b : Nat) (w : World) (h0 : w.cell? ⟨b, 0, none⟩ = some (.int .i64 x)) (h1 : w.cell? ⟨b, 1, none⟩ = some (.int .i64 y)) (h2 : w.cell? ⟨b, 2, none⟩ = some (.int .i64 z)) :
    Calls Tryz.prog 42 #[.slice (some ⟨b, 0, none⟩) 3 3] w fun e w' => e = .returned (.int .i64 (if x ≠ 0 then x else if y ≠ 0 then y else z)) ∧ w = w' := by
  obtain ⟨r, hr⟩ : ∃ r, (if x ≠ 0 then x else if y ≠ 0 then y else z) = r := ⟨_, rfl⟩
  rw [hr]
  have R := hid hr
  clear hr
  go_enter Tryz.func42, Tryz.ntmps42
  go_wp2_with fail
  go_loop [8] (fun i => ∃ k : Nat, k ≤ 3 ∧ i = .int .i64 k ∧ Hid ((1 ≤ k → x = 0) ∧ (2 ≤ k → y = 0) ∧ (3 ≤ k → z = 0))) (fun i => 3 - (intOf i).toNat)
  case atStart => exact ⟨0, by omega, rfl, hid ⟨by omega, by omega, by omega⟩⟩
  case round =>
    obtain ⟨k, hk, rfl, H⟩ := hrel
    rcases (show k = 0 ∨ k = 1 ∨ k = 2 ∨ k = 3 by omega) with rfl | rfl | rfl | rfl
    · cases hx : (x != (0 : Int)) with
      | true =>
        go_wp2_with fail
        go_ret
        exact ⟨by rw [← R.out, if_pos (by simpa using hx)]; rfl, rfl⟩
      | false =>
        have X := hid (show x = 0 by simpa using hx)
        go_wp2_with fail
        go_round
        case rel => exact ⟨1, by omega, rfl, hid ⟨fun _ => X.out, by omega, by omega⟩⟩
        case measure => simp [intOf]
    · cases hy : (y != (0 : Int)) with
      | true =>
        go_wp2_with fail
        go_ret
        exact ⟨by rw [← R.out, if_neg (by rw [H.out.1 (by omega)]; simp), if_pos (by simpa using hy)]; rfl, rfl⟩
      | false =>
        have Y := hid (show y = 0 by simpa using hy)
        go_wp2_with fail
        go_round
        case rel => exact ⟨2, by omega, rfl, hid ⟨fun _ => H.out.1 (by omega), fun _ => Y.out, by omega⟩⟩
        case measure => simp [intOf]
    · cases hz : (z != (0 : Int)) with
      | true =>
        go_wp2_with fail
        go_ret
        exact ⟨by rw [← R.out, if_neg (by rw [H.out.1 (by omega)]; simp), if_neg (by rw [H.out.2.1 (by omega)]; simp)]; rfl, rfl⟩
      | false =>
        have Z := hid (show z = 0 by simpa using hz)
        go_wp2_with fail
        go_round
        case rel => exact ⟨3, by omega, rfl, hid ⟨fun _ => H.out.1 (by omega), fun _ => H.out.2.1 (by omega), fun _ => Z.out⟩⟩
        case measure => simp [intOf]
    · go_wp2_with fail
      go_ret
      exact ⟨by rw [← R.out, if_neg (by rw [H.out.1 (by omega)]; simp), if_neg (by rw [H.out.2.1 (by omega)]; simp), H.out.2.2 (by omega)]; rfl, rfl⟩

set_option maxRecDepth 100000 in
theorem vcompare_any (x y : V3) (w : World) :
    Calls Tryz.prog 108 #[.agg #[.int .i64 x.1, .int .i64 x.2.1, .string x.2.2], .agg #[.int .i64 y.1, .int .i64 y.2.1, .string y.2.2]] w fun e w' => e = .returned (.int .i64 (vcmp x y)) ∧ Below w.heap.size w w' := by
  obtain ⟨x1, x2, x3⟩ := x
  obtain ⟨y1, y2, y3⟩ := y
  have VC := hid (show vcmp (x1, x2, x3) (y1, y2, y3) = if cmpI x1 y1 ≠ 0 then cmpI x1 y1 else if cmpI x2 y2 ≠ 0 then cmpI x2 y2 else Lib.compareBytes x3.data.toList y3.data.toList from rfl)
  have K1 := hid (fun (W : World) => cmpInt_any x1 y1 W)
  have K2 := hid (fun (W : World) => cmpI64_any x2 y2 W)
  have K3 := hid (fun (W : World) => (show Calls Tryz.prog 148 #[.string x3, .string y3] W fun e w' => e = .returned (.int .i64 (Lib.compareBytes x3.data.toList y3.data.toList)) ∧ w' = W from Any.strings_Compare Tryz.strC x3 y3 W))
  show Calls _ _ _ _ fun e w' => e = .returned (.int .i64 (vcmp (x1, x2, x3) (y1, y2, y3))) ∧ _
  generalize vcmp (x1, x2, x3) (y1, y2, y3) = r at *
  generalize cmpI x1 y1 = c1 at *
  generalize cmpI x2 y2 = c2 at *
  generalize Lib.compareBytes x3.data.toList y3.data.toList = c3 at *
  have hb00 := below_alloc w (.cells #[.int .i64 x1, .int .i64 x2, .string x3] 89)
  have hb01 := below_alloc (w.alloc (.cells #[.int .i64 x1, .int .i64 x2, .string x3] 89)) (.cells #[.int .i64 y1, .int .i64 y2, .string y3] 89)
  have hb0 := hb00.trans (hb01.mono hb00.size)
  have C3 := cells3 (w := w) (a := .int .i64 x1) (b := .int .i64 x2) (c := .string x3) (t := 89) _ hb01
  have D3 := cells3 (w := w.alloc (.cells #[.int .i64 x1, .int .i64 x2, .string x3] 89)) (a := .int .i64 y1) (b := .int .i64 y2) (c := .string y3) (t := 89) _ (Below.refl _ _)
  rw [show (w.alloc (.cells #[.int .i64 x1, .int .i64 x2, .string x3] 89)).heap.size = w.heap.size + 1 by simp] at D3
  obtain ⟨w0, hw0⟩ : ∃ w0 : World, (w.alloc (.cells #[.int .i64 x1, .int .i64 x2, .string x3] 89)).alloc (.cells #[.int .i64 y1, .int .i64 y2, .string y3] 89) = w0 := ⟨_, rfl⟩
  rw [hw0] at hb0 C3 D3
  have B0 := hid hb0
  have W0 := hid hw0
  obtain ⟨e0, e1, e2⟩ := C3
  obtain ⟨f0, f1, f2⟩ := D3
  have OR := hid (or3_any c1 c2 c3 w0.heap.size ((w0.alloc (.cells #[.int .i64 c1, .int .i64 c2, .int .i64 c3] 3)).drew) (by rw [World.cell?_drew]; simp) (by rw [World.cell?_drew]; simp) (by rw [World.cell?_drew]; simp))
  have BQ := hid (show Below w.heap.size w ((w0.alloc (.cells #[.int .i64 c1, .int .i64 c2, .int .i64 c3] 3)).drew) from (hb0.alloc hb0.size _).drew)
  rw [← VC.out] at OR
  clear hb0 hw0 hb00 hb01 VC
  go_enter Tryz.func108, Tryz.ntmps108
  go_wp2_with fail
  rw [W0.out]
  go_wp2_with fail
  refine wp_region_still_tail 15 (by kernel_rfl) (by kernel_rfl) ?_
  simp only [List.take_succ_cons, List.take_zero, List.drop_succ_cons, List.drop_zero]
  repeat still_step
  still_call ((K1.out _).mono (fun _ _ h => ⟨h.1, h.2.symm⟩))
  repeat still_step
  still_call ((K2.out _).mono (fun _ _ h => ⟨h.1, h.2.symm⟩))
  repeat still_step
  still_call (K3.out _)
  repeat still_step
  refine wpStill_nil ?_
  go_wp2_with fail
  refine OR.out.mono ?_
  rintro e w' ⟨rfl, rfl⟩
  go_wp2_with fail
  go_ret
  exact ⟨rfl, BQ.out⟩

attribute [local irreducible] Go.wpQuiet
set_option maxHeartbeats 1600000 in
set_option maxRecDepth 100000 in
theorem kagree_any (i j : Int) (xs ys : List V3) (u v : Value) (w : World) (hu : RdV w u xs) (hv : RdV w v ys) (hl : ys.length = xs.length) (h32 : xs.length ≤ 32) :
    Calls Tryz.prog 71 #[.agg #[.int .i64 i, u], .agg #[.int .i64 j, v]] w fun e w' => e = .returned (.int .u32 (iv (rowsS xs ys xs.length))) ∧ Below w.heap.size w w' := by
  have hb1 := below_alloc w (.cells #[.int .i64 i, u] 87)
  have C1 := hid (fun W h => cells2 (w := w) (a := .int .i64 i) (b := u) (t := 87) W h)
  obtain ⟨w1, hw1⟩ : ∃ w1 : World, w.alloc (.cells #[.int .i64 i, u] 87) = w1 := ⟨_, rfl⟩
  rw [hw1] at hb1 C1
  have hs1 : w1.heap.size = w.heap.size + 1 := by rw [← hw1]; simp
  have hb2 := below_alloc w1 (.cells #[.int .i64 j, v] 87)
  have C2 := hid (fun W h => cells2 (w := w1) (a := .int .i64 j) (b := v) (t := 87) W h)
  obtain ⟨w2, hw2⟩ : ∃ w2 : World, w1.alloc (.cells #[.int .i64 j, v] 87) = w2 := ⟨_, rfl⟩
  rw [hw2] at hb2 C2
  have B2 := hid (hb1.trans (hb2.mono hb1.size))
  have CC := hid (fun (W : World) (h : Below w2.heap.size w2 W) => (⟨(C1.out W (hb2.trans (h.mono hb2.size))).2, by have := (C2.out W h).2; rwa [hs1] at this⟩ : W.cell? ⟨w.heap.size, 1, none⟩ = some u ∧ W.cell? ⟨w.heap.size + 1, 1, none⟩ = some v))
  have WW := hid (show (w.alloc (.cells #[.int .i64 i, u] 87)).alloc (.cells #[.int .i64 j, v] 87) = w2 by rw [hw1, hw2])
  have U := hid (RdC.below hu B2.out)
  have V := hid (RdC.below hv B2.out)
  clear hb1 hb2 C1 C2 hw1 hw2 hs1 hu hv
  obtain ⟨uo, ucap, rfl, hul, huc⟩ := RdV.split U.out
  obtain ⟨vo, vcap, rfl, hvl, hvc⟩ := RdV.split V.out
  have UC := hid huc
  have VC := hid hvc
  clear huc hvc
  obtain ⟨c1, d1⟩ := CC.out w2 (Below.refl _ _)
  rw [hl] at CC d1 V WW ⊢
  go_enter Tryz.func71, Tryz.ntmps71
  go_wp2_with fail
  rw [WW.out]
  go_wp2_with fail
  go_loopw [5, 11] (fun s i wr => ∃ k : Nat, k ≤ xs.length ∧ i = .int .i64 k ∧ s = .int .u32 (iv (rowsS xs ys k)) ∧ Below w2.heap.size w2 wr) (fun _ i _ => xs.length - (intOf i).toNat)
  case atStart => exact ⟨0, Nat.zero_le _, rfl, rfl, Below.refl _ _⟩
  case round =>
    obtain ⟨k, hk, rfl, rfl, hnx⟩ := hrel
    have hsz := hnx.size
    by_cases hlt : k < xs.length
    · obtain ⟨x, hx⟩ := get_some hlt
      obtain ⟨y, hy⟩ := get_some (show k < ys.length by omega)
      obtain ⟨b, off, rfl, hd⟩ := UC.out k x hx
      obtain ⟨b', off', rfl, hd'⟩ := VC.out k y hy
      have RS := hid (rowsS_at hx hy)
      have hba := below_alloc wr (.cells #[.int .i64 x.1, .int .i64 x.2.1, .string x.2.2] 89)
      have NX := hid (hnx.trans (hba.mono hsz))
      obtain ⟨e0, e1, e2⟩ := hd wr hnx
      have hx3 := cells3 (w := wr) (a := .int .i64 x.1) (b := .int .i64 x.2.1) (c := .string x.2.2) (t := 89) _ (Below.refl _ _)
      obtain ⟨wa, hwa⟩ : ∃ wa : World, wr.alloc (.cells #[.int .i64 x.1, .int .i64 x.2.1, .string x.2.2] 89) = wa := ⟨_, rfl⟩
      rw [hwa] at hx3 NX
      have WA := hid hwa
      obtain ⟨g0, g1, g2⟩ := hx3
      obtain ⟨f0, f1, f2⟩ := hd' _ NX.out
      obtain ⟨c1', d1'⟩ := CC.out _ NX.out
      have k0 : (0 : Int) ≤ (k : Int) := by omega
      have k1 : k < 32 := by omega
      have CV := hid (fun z : After wa => Calls.after z (vcompare_any x y z.world))
      have VZ := vcmp_zero x y
      have m0 : ∀ z : After wa, z.world.cell? ⟨wr.heap.size, 0, none⟩ = some (.int .i64 x.1) := fun z => After.cell g0 z
      have m1 : ∀ z : After wa, z.world.cell? ⟨wr.heap.size, 1, none⟩ = some (.int .i64 x.2.1) := fun z => After.cell g1 z
      have m2 : ∀ z : After wa, z.world.cell? ⟨wr.heap.size, 2, none⟩ = some (.string x.2.2) := fun z => After.cell g2 z
      have m3 : ∀ z : After wa, z.world.cell? ⟨w.heap.size + 1, 1, none⟩ = some (.slice (some ⟨b', off', none⟩) xs.length vcap) := fun z => After.cell d1' z
      have m4 : ∀ z : After wa, z.world.cell? ⟨b', off' + k * 3, none⟩ = some (.int .i64 y.1) := fun z => After.cell f0 z
      have m5 : ∀ z : After wa, z.world.cell? ⟨b', off' + k * 3 + 1, none⟩ = some (.int .i64 y.2.1) := fun z => After.cell f1 z
      have m6 : ∀ z : After wa, z.world.cell? ⟨b', off' + k * 3 + 2, none⟩ = some (.string y.2.2) := fun z => After.cell f2 z
      generalize vcmp x y = vc at *
      clear hd hd' hx hy hnx hba c1 d1 hwa g0 g1 g2 f0 f1 f2 c1' d1'
      cases hq : eqV x y with
      | true =>
        rw [hq] at VZ
        rw [hq, if_pos rfl] at RS
        go_wp2_with fail
        rw [WA.out]
        refine wp_region_after (by kernel_rfl) (by kernel_rfl) ?_
        repeat (any_goals (quiet_step (first | exact CV.out _)))
        refine wpQuiet_nil ?_
        intro wq hbq
        have NQ := hid (NX.out.trans (hbq.mono NX.out.size))
        clear hbq m0 m1 m2 m3 m4 m5 m6 CV
        go_wp2_with fail
        go_roundw
        case rel => exact ⟨k + 1, by omega, by go_num, by rw [RS.out], NQ.out⟩
        case measure => simp [intOf]; omega
      | false =>
        rw [hq] at VZ
        rw [hq, if_neg (by simp)] at RS
        go_wp2_with fail
        rw [WA.out]
        refine wp_region_after (by kernel_rfl) (by kernel_rfl) ?_
        repeat (any_goals (quiet_step (first | exact CV.out _)))
        refine wpQuiet_nil ?_
        intro wq hbq
        have NQ := hid (NX.out.trans (hbq.mono NX.out.size))
        clear hbq m0 m1 m2 m3 m4 m5 m6 CV
        go_wp2_with fail
        go_roundw
        case rel => exact ⟨k + 1, by omega, by go_num, by rw [RS.out], NQ.out⟩
        case measure => simp [intOf]; omega
    · have hk2 : k = xs.length := by omega
      have HN := hid hnx
      clear hnx
      go_wp2_with fail
      go_ret
      exact ⟨by rw [hk2]; rfl, B2.out.trans (HN.out.mono B2.out.size)⟩

end Go.Proofs.YtgahpgmagfngfaaGreatDoor


/- The walk of attrset.Subsets: all subsets of a set, in order. -/
namespace Go.Proofs.YtgahpgmagfngfaaGreatDoor
open Go.RowKit


set_option maxHeartbeats 400000 in
theorem asubsets_any (s : S) (w : World) :
    Calls Tryz.prog 67 #[enc s] w fun e w' => ∃ v' ys, e = .returned v' ∧ w'.ownsRow w.heap.size 55 1 v' ys.length (ys.map enc) ∧ SubsP s ys ∧ ys.length ≤ 4294967297 ∧ Below w.heap.size w w' := by
  have C := hid (asize_any s w)
  obtain ⟨p, hpe⟩ : ∃ p, pop s = p := ⟨_, rfl⟩
  rw [hpe] at C
  have HPE := hid hpe
  clear hpe
  by_cases hp : 12 < p
  · have h12 : ((p : Int) > 12) := by omega
    have HP := hid hp
    clear hp
    simp only [enc_eq] at C ⊢
    go_enter Tryz.func67, Tryz.ntmps67
    go_wp2_with fail
    refine (C.out).mono ?_
    rintro e w' ⟨rfl, q, rfl⟩
    go_wp2_with fail
    go_ret
    exact ⟨_, [], rfl, World.ownsRow_nil _ _ _ _, ⟨fun _ => rfl, fun h => absurd HP.out (by rw [HPE.out] at h; omega)⟩, by simp, below_drewN _ _ _⟩
  · have h12 : decide ((p : Int) > 12) = false := by simp; omega
    have HP := hid hp
    clear hp
    have O := hid (fun (xs : List S) (v : Value) (W : World) (hv : RdE enc W v xs) (h : xs.length < 17592186044416) => aorder_any xs v W hv h)
    simp only [enc_eq] at C ⊢
    go_enter Tryz.func67, Tryz.ntmps67
    go_wp2_with fail
    refine (C.out).mono ?_
    rintro e w' ⟨rfl, q, rfl⟩
    go_wp2_with fail
    go_loopw [3, 4] (fun u i wr => ∃ (x : S) (xs : List S), i = .int .u32 (iv x) ∧ wr.ownsRow w.heap.size 55 1 u xs.length (xs.map enc) ∧ Hid (sub x s) ∧ Hid (∀ y, y ∈ xs ↔ sub y s ∧ x.toNat ≤ y.toNat) ∧ xs.length + x.toNat ≤ 4294967296 ∧ Below w.heap.size w wr) (fun _ i _ => (intOf i).toNat)
    case atStart =>
      refine ⟨s, [s], rfl, ?_, hid (sub_refl s), hid (fun y => ?_), by have := s.isLt; simp; omega, (below_drewN _ _ _).alloc (by simp) _⟩
      · have := World.ownsRow_lit (size := 1) (e := 55) (base := w.heap.size) (w.drewN q) #[enc s] 1 (by simp) (by decide) (by simp)
        simpa [enc_eq] using this
      · rw [List.mem_singleton]
        constructor
        · rintro rfl; exact ⟨sub_refl _, Nat.le_refl _⟩
        · rintro ⟨h1, h2⟩
          have := sub_toNat h1
          exact BitVec.eq_of_toNat_eq (by omega)
    case round =>
      obtain ⟨x, xs, rfl, hown, SX, M, hlen, hnx⟩ := hrel
      have hsz := hnx.size
      cases hx : (x != 0#32) with
      | true =>
        have h0 : x ≠ 0#32 := by simpa using hx
        have hless := fall_less (s := s) h0
        have M2 := hid (show ∀ y, y ∈ xs ++ [(x - 1#32) &&& s] ↔ sub y s ∧ ((x - 1#32) &&& s).toNat ≤ y.toNat by
          intro y
          rw [List.mem_append, List.mem_singleton, M.out y]
          constructor
          · rintro (⟨h1, h2⟩ | rfl)
            · exact ⟨h1, by omega⟩
            · exact ⟨and_sub_right _ _, Nat.le_refl _⟩
          · rintro ⟨h1, h2⟩
            rcases (fall_next SX.out h0 h1).1 h2 with h | h
            · exact .inr h
            · exact .inl ⟨h1, h⟩)
        have S2 := hid (and_sub_right (x - 1#32) s)
        have hlt := x.isLt
        clear M SX h0
        go_wp2_with (at_builtin; refine wpList_push rfl _ _ 59 rfl w.heap.size 55 (.int .u32 0) 4 undSets infoSet rfl (by decide) enc (fun _ => rfl) _ xs rfl (hown.alloc _) ⟨wr.heap.size, 0, none⟩ ((x-1#32)&&&s) rfl cell_new (by omega) (by simp; omega) ?_)
        intro v' w1 hown' hgrow
        have hb1 := below_push hnx hsz hown hgrow
        clear hgrow hown hnx
        go_wp2_with fail
        go_roundw
        case rel => exact ⟨(x - 1#32) &&& s, xs ++ [(x - 1#32) &&& s], rfl, by simpa using hown', S2, M2, by rw [List.length_append, List.length_singleton]; omega, hb1⟩
        case measure => simp only [intOf, iv]; omega
      | false =>
        have h0 : x = 0#32 := by simpa using hx
        have P := hid (show IsOrd [] (fun _ : S => False) from ⟨by simp, by simp⟩)
        have M2 := hid (show ∀ y, y ∈ xs ↔ sub y s by
          intro y
          rw [M.out y, h0]
          exact ⟨fun h => h.1, fun h => ⟨h, by simp⟩⟩)
        have RD := hid (RdE.of_owns hown (by omega))
        clear M SX hown h0
        go_wp2_with fail
        refine (O.out xs _ _ RD.out (by omega)).mono ?_
        rintro e w2 ⟨v', ys, rfl, hown2, ho, hle, hb2⟩
        have B := hid (hnx.trans (hb2.mono hnx.size))
        have HO := hid ho
        have OW := hid (own_mono hown2 hsz)
        clear hb2 ho hown2
        go_wp2_with fail
        go_ret
        exact ⟨_, ys, rfl, OW.out, ⟨fun h => absurd h (by rw [HPE.out]; exact HP.out), fun _ => HO.out.congr M2.out⟩, by omega, B.out⟩

end Go.Proofs.YtgahpgmagfngfaaGreatDoor


/- The walks of keymine's check, sets and uniques. -/
namespace Go.Proofs.YtgahpgmagfngfaaGreatDoor
open Go.RowKit
set_option linter.unusedVariables false

/-! The error of a table and a set. -/
def kE (t : T3) (s : S) (small : Bool) : Int := if tabE t ≠ 0 then tabE t else if 200 < t.2.2.length ∨ (small = true ∧ 12 < t.2.1.length) then 3 else if (s >>> min t.2.1.length 32 != 0#32) = true then 1 else 0
set_option maxHeartbeats 1600000 in
set_option maxRecDepth 100000 in
theorem kcheck_any (t : T3) (av rv : Value) (s : S) (small : Bool) (w : World) (ht : RdT w av rv t) :
    Calls Tryz.prog 32 #[.agg #[.string t.1, av, rv], .int .u32 (iv s), .bool small] w fun e w' => e = .returned (.int .i64 (kE t s small)) ∧ Below w.heap.size w w' := by
  have hb0 := below_alloc w (.cells #[.string t.1, av, rv] 48)
  have C3 := hid (fun W h => cells3 (w := w) (a := .string t.1) (b := av) (c := rv) (t := 48) W h)
  have T0 := hid (ht.below hb0)
  obtain ⟨w0, hw0⟩ : ∃ w0 : World, w.alloc (.cells #[.string t.1, av, rv] 48) = w0 := ⟨_, rfl⟩
  rw [hw0] at hb0 C3 T0
  have B0 := hid hb0
  have W0 := hid hw0
  have hsz0 := hb0.size
  clear hb0 hw0
  have TV := hid (fun (W : World) (h : Below w0.heap.size w0 W) => tvalid_any t av rv W (T0.out.below h))
  obtain ⟨t00, t01, t02⟩ := C3.out _ (Below.refl _ _)
  have KE := hid (show kE t s small = if tabE t ≠ 0 then tabE t else if 200 < t.2.2.length ∨ (small = true ∧ 12 < t.2.1.length) then 3 else if (s >>> min t.2.1.length 32 != 0#32) = true then 1 else 0 from rfl)
  have D0 := hid (Below.refl w0.heap.size w0)
  obtain ⟨nm, ats, rs⟩ := t
  obtain ⟨ao, acap, hva, -⟩ := T0.out.1.split
  obtain ⟨ro, rcap, hvr, -⟩ := RdR.split T0.out.2
  simp only at hva hvr KE TV
  subst hva hvr
  generalize kE (nm, ats, rs) s small = ke at *
  generalize tabE (nm, ats, rs) = te at *
  have a0 : (0 : Int) ≤ (ats.length : Int) := by omega
  clear ht T0
  by_cases h0 : te = 0
  · subst h0
    rw [if_neg (by simp)] at KE
    by_cases h1 : 200 < rs.length
    · rw [if_pos (.inl h1)] at KE
      have i1 : decide ((200 : Int) < (rs.length : Int)) = true := by rw [decide_eq_true_iff]; omega
      have H1 := hid h1
      clear h1
      go_enter Tryz.func32, Tryz.ntmps32
      go_wp2_with fail
      rw [W0.out]
      go_wp2_with fail
      refine (TV.out _ D0.out).mono ?_
      rintro e w1 ⟨rfl, hb1⟩
      have D1 := hid (D0.out.trans (hb1.mono D0.out.size))
      obtain ⟨t10, t11, t12⟩ := C3.out _ D1.out
      clear hb1 t00 t01 t02
      go_wp2_with fail
      go_ret
      exact ⟨ret_int KE.out.symm, B0.out.trans (D1.out.mono hsz0)⟩
    · have i1 : decide ((200 : Int) < (rs.length : Int)) = false := by rw [decide_eq_false_iff_not]; omega
      by_cases h2 : small = true ∧ 12 < ats.length
      · rw [if_pos (.inr h2)] at KE
        have i2 : decide ((12 : Int) < (ats.length : Int)) = true := by rw [decide_eq_true_iff]; omega
        have h3 := h2.1
        subst h3
        have H1 := hid h1
        clear h1 h2
        go_enter Tryz.func32, Tryz.ntmps32
        go_wp2_with fail
        rw [W0.out]
        go_wp2_with fail
        refine (TV.out _ D0.out).mono ?_
        rintro e w1 ⟨rfl, hb1⟩
        have D1 := hid (D0.out.trans (hb1.mono D0.out.size))
        obtain ⟨t10, t11, t12⟩ := C3.out _ D1.out
        clear hb1 t00 t01 t02
        go_wp2_with fail
        go_ret
        exact ⟨ret_int KE.out.symm, B0.out.trans (D1.out.mono hsz0)⟩
      · rw [if_neg (by intro h; rcases h with h | h; exact h1 h; exact h2 h)] at KE
        have H1 := hid h1
        clear h1
        cases hq : (s >>> min ats.length 32 != 0#32) with
        | true =>
          rw [hq, if_pos rfl] at KE
          cases small with
          | true =>
            have i2 : decide ((12 : Int) < (ats.length : Int)) = false := by rw [decide_eq_false_iff_not]; intro h; exact h2 ⟨rfl, by omega⟩
            clear h2
            go_enter Tryz.func32, Tryz.ntmps32
            go_wp2_with fail
            rw [W0.out]
            go_wp2_with fail
            refine (TV.out _ D0.out).mono ?_
            rintro e w1 ⟨rfl, hb1⟩
            have D1 := hid (D0.out.trans (hb1.mono D0.out.size))
            obtain ⟨t10, t11, t12⟩ := C3.out _ D1.out
            clear hb1 t00 t01 t02
            go_wp2_with fail
            go_ret
            exact ⟨ret_int KE.out.symm, B0.out.trans (D1.out.mono hsz0)⟩
          | false =>
            clear h2
            go_enter Tryz.func32, Tryz.ntmps32
            go_wp2_with fail
            rw [W0.out]
            go_wp2_with fail
            refine (TV.out _ D0.out).mono ?_
            rintro e w1 ⟨rfl, hb1⟩
            have D1 := hid (D0.out.trans (hb1.mono D0.out.size))
            obtain ⟨t10, t11, t12⟩ := C3.out _ D1.out
            clear hb1 t00 t01 t02
            go_wp2_with fail
            go_ret
            exact ⟨ret_int KE.out.symm, B0.out.trans (D1.out.mono hsz0)⟩
        | false =>
          rw [hq, if_neg (by simp)] at KE
          cases small with
          | true =>
            have i2 : decide ((12 : Int) < (ats.length : Int)) = false := by rw [decide_eq_false_iff_not]; intro h; exact h2 ⟨rfl, by omega⟩
            clear h2
            go_enter Tryz.func32, Tryz.ntmps32
            go_wp2_with fail
            rw [W0.out]
            go_wp2_with fail
            refine (TV.out _ D0.out).mono ?_
            rintro e w1 ⟨rfl, hb1⟩
            have D1 := hid (D0.out.trans (hb1.mono D0.out.size))
            obtain ⟨t10, t11, t12⟩ := C3.out _ D1.out
            clear hb1 t00 t01 t02
            go_wp2_with fail
            go_ret
            exact ⟨ret_int KE.out.symm, B0.out.trans (D1.out.mono hsz0)⟩
          | false =>
            clear h2
            go_enter Tryz.func32, Tryz.ntmps32
            go_wp2_with fail
            rw [W0.out]
            go_wp2_with fail
            refine (TV.out _ D0.out).mono ?_
            rintro e w1 ⟨rfl, hb1⟩
            have D1 := hid (D0.out.trans (hb1.mono D0.out.size))
            obtain ⟨t10, t11, t12⟩ := C3.out _ D1.out
            clear hb1 t00 t01 t02
            go_wp2_with fail
            go_ret
            exact ⟨ret_int KE.out.symm, B0.out.trans (D1.out.mono hsz0)⟩
  · rw [if_pos h0] at KE
    have hne : (te != (0 : Int)) = true := by simpa using h0
    have KE2 := KE.out
    subst KE2
    clear KE h0
    go_enter Tryz.func32, Tryz.ntmps32
    go_wp2_with fail
    rw [W0.out]
    go_wp2_with fail
    refine (TV.out _ D0.out).mono ?_
    rintro e w1 ⟨rfl, hb1⟩
    have D1 := hid (D0.out.trans (hb1.mono D0.out.size))
    obtain ⟨t10, t11, t12⟩ := C3.out _ D1.out
    clear hb1 t00 t01 t02
    go_wp2_with fail
    go_ret
    exact ⟨rfl, B0.out.trans (D1.out.mono hsz0)⟩

/-! Witnesses. -/
abbrev W3 := S × Int × Int
def cW (x : W3) : List Value := [enc x.1, .int .i64 x.2.1, .int .i64 x.2.2]
theorem cW_length (x : W3) : (cW x).length = 3 := rfl
theorem cW_one (x : W3) : ∀ u ∈ cW x, u.oneCell' = true := by
  intro u hu
  simp only [cW, List.mem_cons, List.not_mem_nil, or_false] at hu
  rcases hu with rfl | rfl | rfl <;> rfl
abbrev RdW (w : World) (v : Value) (xs : List W3) : Prop := RdC cW w v xs
theorem cells_newW (w : World) (x : W3) {t : TypeId} : ∀ j u, (cW x)[j]? = some u → (w.alloc (.cells #[.int .u32 (iv x.1), .int .i64 x.2.1, .int .i64 x.2.2] t)).cell? (Addr.add ⟨w.heap.size, 0, none⟩ j) = some u := by
  intro j u hj
  have hj2 : j < 3 := (List.getElem?_eq_some_iff.1 hj).1
  rcases (show j = 0 ∨ j = 1 ∨ j = 2 by omega) with rfl | rfl | rfl <;> (simp [cW, enc] at hj; subst hj; simp [Addr.add])
theorem infoW : (Tryz.prog.info? 136).map (fun i => (i.zero, i.size, i.bytes)) = some (some (.agg #[.int .u32 0, .int .i64 0, .int .i64 0]), 3, 24) := by kernel_rfl
theorem undWs : Tryz.prog.underlying 94 = some (.slice 136) := by kernel_rfl
theorem RdW.split {w : World} {v : Value} {xs : List W3} (h : RdW w v xs) : ∃ ao cap, v = .slice ao xs.length cap ∧ xs.length ≤ 35184372088832 ∧
    ∀ (k : Nat) (x : W3), xs[k]? = some x → ∃ b off, ao = some ⟨b, off, none⟩ ∧ ∀ wr, Below w.heap.size w wr → wr.cell? ⟨b, off + k * 3, none⟩ = some (.int .u32 (iv x.1)) ∧ wr.cell? ⟨b, off + k * 3 + 1, none⟩ = some (.int .i64 x.2.1) ∧ wr.cell? ⟨b, off + k * 3 + 2, none⟩ = some (.int .i64 x.2.2) := by
  obtain ⟨ao, cap, rfl, -, h2, h3⟩ := h
  refine ⟨ao, cap, rfl, h2, fun k f hf => ?_⟩
  obtain ⟨b, off, rfl, hb, hc⟩ := h3 (by have := (List.getElem?_eq_some_iff.1 hf).1; omega)
  exact ⟨b, off, rfl, fun wr hn => ⟨(hn.cell (p := ⟨b, off + k * 3, none⟩) hb).trans (hc _ _ (flat_at cW_length xs k f 0 _ hf rfl)), (hn.cell (p := ⟨b, off + k * 3 + 1, none⟩) hb).trans (hc _ _ (flat_at cW_length xs k f 1 _ hf rfl)), (hn.cell (p := ⟨b, off + k * 3 + 2, none⟩) hb).trans (hc _ _ (flat_at cW_length xs k f 2 _ hf rfl))⟩⟩

theorem ksets_any (xs : List W3) (v : Value) (w : World) (hv : RdW w v xs) (h44 : xs.length < 17592186044416) :
    Calls Tryz.prog 34 #[v] w fun e w' => ∃ v', e = .returned v' ∧ w'.ownsRow w.heap.size 55 1 v' (xs.map (·.1)).length ((xs.map (·.1)).map enc) ∧ Below w.heap.size w w' := by
  obtain ⟨ao, cap, rfl, hl, hc⟩ := RdW.split hv
  have HC := hid hc
  clear hc hv
  go_enter Tryz.func34, Tryz.ntmps34
  go_wp2_with fail
  go_loopw [3, 8] (fun u i wr => ∃ k : Nat, k ≤ xs.length ∧ i = .int .i64 k ∧ wr.ownsRow w.heap.size 55 1 u ((xs.take k).map (·.1)).length (((xs.take k).map (·.1)).map enc) ∧ Below w.heap.size w wr) (fun _ i _ => xs.length - (intOf i).toNat)
  case atStart => exact ⟨0, Nat.zero_le _, rfl, World.ownsRow_nil _ _ _ _, Below.refl _ _⟩
  case round =>
    obtain ⟨k, hk, rfl, hown, hnx⟩ := hrel
    have hsz := hnx.size
    have k0 : (0 : Int) ≤ (k : Int) := by omega
    by_cases hlt : k < xs.length
    · obtain ⟨x, hx⟩ := get_some hlt
      obtain ⟨b, off, rfl, hd⟩ := HC.out k x hx
      obtain ⟨e0, e1, e2⟩ := hd wr hnx
      have TN := hid (show ((xs.take (k + 1)).map (·.1)) = (xs.take k).map (·.1) ++ [x.1] by rw [take_next hx, List.map_append]; rfl)
      have hol : ((xs.take k).map (·.1)).length ≤ xs.length := by rw [List.length_map]; exact List.length_take_le' _ _
      generalize (xs.take k).map (·.1) = out at *
      have OW := hid hown
      clear hd hx
      go_wp2_with (at_builtin; refine wpList_push rfl _ _ 59 rfl w.heap.size 55 (.int .u32 0) 4 undSets infoSet rfl (by decide) enc (fun _ => rfl) _ out rfl ((OW.out.alloc _).alloc _) ⟨wr.heap.size + 1, 0, none⟩ x.1 rfl (by simp [enc]) (by omega) (by simp; omega) ?_)
      intro v' w4 hown' hgrow
      have hb4 := below_push (hnx.alloc hsz _) (by simp; omega) (OW.out.alloc _) hgrow
      have hown2 : w4.ownsRow w.heap.size 55 1 v' (out ++ [x.1]).length ((out ++ [x.1]).map enc) := by simpa using hown'
      rw [← TN.out] at hown2
      have HO2 := hid hown2
      clear hgrow hown hnx hown' hown2 hol
      go_wp2_with fail
      go_roundw
      case rel => exact ⟨k + 1, by omega, by go_num, HO2.out, hb4⟩
      case measure => simp [intOf]; omega
    · rw [take_all hlt] at hown
      have OF := hid hown
      clear hown
      go_wp2_with fail
      go_ret
      exact ⟨_, rfl, by first | exact OF.out | simpa using OF.out, hnx⟩

theorem uniq1_any (s : S) (b : Nat) (x : S) (w : World) (hc : w.cell? ⟨b, 0, none⟩ = some (enc s)) :
    Calls Tryz.prog 69 (#[enc x] ++ #[.pointer (some ⟨b, 0, none⟩)]) w fun e w' => e = .returned (.bool (s &&& ~~~ x == 0#32)) ∧ w = w' := by
  show Calls Tryz.prog 69 #[enc x, .pointer (some ⟨b, 0, none⟩)] w _
  unfold enc at hc ⊢
  go_enter Tryz.func69, Tryz.ntmps69
  go_wp2
  go_ret
  exact ⟨rfl, rfl⟩
theorem uniq2_any (s : S) (b : Nat) (x : S) (w : World) (hc : w.cell? ⟨b, 0, none⟩ = some (enc s)) :
    Calls Tryz.prog 70 (#[enc x] ++ #[.pointer (some ⟨b, 0, none⟩)]) w fun e w' => e = .returned (.bool (x &&& ~~~ s == 0#32)) ∧ w = w' := by
  show Calls Tryz.prog 70 #[enc x, .pointer (some ⟨b, 0, none⟩)] w _
  unfold enc at hc ⊢
  go_enter Tryz.func70, Tryz.ntmps70
  go_wp2
  go_ret
  exact ⟨rfl, rfl⟩
theorem shl_fullM {m : Nat} (h : m < 32) : 1#32 <<< m - 1#32 = fullN m := by
  apply BitVec.eq_of_toNat_eq
  have hp : 1 ≤ 2 ^ m := Nat.one_le_two_pow
  have hq : 2 ^ m < 2 ^ 32 := Nat.pow_lt_pow_right (by decide) h
  rw [fullN_toNat m (by omega), BitVec.toNat_sub, BitVec.toNat_shiftLeft, Nat.shiftLeft_eq]
  simp
  omega
theorem pop_full12M {m : Nat} (h : m ≤ 12) : pop (fullN m) ≤ 12 := by
  have : ∀ k : Fin 13, pop (fullN k.val) ≤ 12 := by decide +kernel
  exact this ⟨m, by omega⟩

set_option maxHeartbeats 1600000 in
set_option maxRecDepth 100000 in
theorem kuniques_any (n : Nat) (hn : n ≤ 12) (avoid : List S) (v : Value) (w : World) (hv : RdE enc w v avoid) :
    Calls Tryz.prog 33 #[.int .i64 (n : Int), v] w fun e w' => ∃ v', e = .returned v' ∧ w'.ownsRow w.heap.size 55 1 v' (keyN n avoid).length ((keyN n avoid).map enc) ∧ Below w.heap.size w w' := by
  have SB := hid (fun (W : World) => asubsets_any (1#32 <<< n - 1#32) W)
  rw [shl_fullM (by omega)] at SB
  have hmin : min n 32 = n := by omega
  have n0 : (0 : Int) ≤ (n : Int) := by omega
  have SF := hid (shl_fullM (show n < 32 by omega))
  have PF := hid (pop_full12M hn)
  have AVD := hid hv
  obtain ⟨ao, acap, rfl, -⟩ := hv.split
  unfold enc at SB
  clear hv
  go_enter Tryz.func33, Tryz.ntmps33
  go_wp2_with fail
  rw [SF.out]
  refine (SB.out _).mono ?_
  rintro e w1 ⟨v1, ys, rfl, ho1, hs, hyl, hb1⟩
  have KY := hid (unqL_key (ps := avoid) (hs.2 PF.out))
  have RY := RdE.of_owns ho1 (by omega)
  obtain ⟨yo, ycap, rfl, hyl2, hyc⟩ := RY.split
  have YC := hid hyc
  have B1 := hid hb1
  have AV1 := hid (AVD.out.below hb1)
  have hyl3 := hid hyl
  clear hs hb1 RY hyc ho1 SB
  unfold enc at YC
  go_wp2_with fail
  go_loopw [5, 15] (fun u i wr => ∃ k : Nat, k ≤ ys.length ∧ i = .int .i64 k ∧ wr.ownsRow w1.heap.size 55 1 u (unqL avoid (ys.take k)).length ((unqL avoid (ys.take k)).map enc) ∧ Below w1.heap.size w1 wr) (fun _ i _ => ys.length - (intOf i).toNat)
  case atStart => exact ⟨0, Nat.zero_le _, rfl, World.ownsRow_nil _ _ _ _, Below.refl _ _⟩
  case round =>
    obtain ⟨k, hk, rfl, hown, hnx⟩ := hrel
    have hsz := hnx.size
    have k0 : (0 : Int) ≤ (k : Int) := by omega
    by_cases hlt : k < ys.length
    · obtain ⟨x, hx⟩ := get_some hlt
      obtain ⟨b, off, rfl, hd⟩ := YC.out k x hx
      have e0 := hd wr hnx
      have hlen := unqL_length avoid (ys.take k)
      rw [List.length_take] at hlen
      have hlen2 : (unqL avoid (ys.take k)).length ≤ 4294967297 := by have := hyl3.out; omega
      have NX := hid (unqL_next (ps := avoid) hx)
      have hrd := RdE.of_owns hown (by omega)
      have ba := below_alloc wr (.cells #[enc x] 55)
      have G1 := hid (containsFunc_any 69 #[.pointer (some ⟨wr.heap.size, 0, none⟩)] (fun y => x &&& ~~~ y == 0#32) avoid _ _ ((AV1.out.below hnx).below ba)
        (enters _ _ _ Tryz.func69 (by kernel_rfl) rfl) (fun y => uniq1_any x _ y _ cell_new))
      have G2 := hid (containsFunc_any 70 #[.pointer (some ⟨wr.heap.size, 0, none⟩)] (fun y => y &&& ~~~ x == 0#32) (unqL avoid (ys.take k)) u5 _ (hrd.below ba)
        (enters _ _ _ Tryz.func70 (by kernel_rfl) rfl) (fun y => uniq2_any x _ y _ cell_new))
      have US := hid (show unqStep avoid (unqL avoid (ys.take k)) x = if (!avoid.any fun y => x &&& ~~~ y == 0#32) && !(unqL avoid (ys.take k)).any (fun y => y &&& ~~~ x == 0#32) then unqL avoid (ys.take k) ++ [x] else unqL avoid (ys.take k) from rfl)
      obtain ⟨I, hI⟩ : ∃ I, (avoid.any fun y => x &&& ~~~ y == 0#32) = I := ⟨_, rfl⟩
      obtain ⟨O, hO⟩ : ∃ O, ((unqL avoid (ys.take k)).any fun y => y &&& ~~~ x == 0#32) = O := ⟨_, rfl⟩
      rw [hI] at G1 US
      rw [hO] at G2 US
      generalize unqL avoid (ys.take k) = out at *
      have OW := hid hown
      have OLE := hid hlen2
      unfold enc at e0 G1 G2
      clear hd hx hrd ba hI hO hlen hlen2
      cases I with
      | true =>
        have ST := hid (show unqStep avoid out x = out by rw [US.out]; simp)
        go_wp2_with fail
        refine G1.out.mono ?_
        rintro e w3 ⟨rfl, rfl⟩
        go_wp2_with fail
        refine G2.out.mono ?_
        rintro e w3 ⟨rfl, rfl⟩
        go_wp2_with fail
        go_roundw
        case rel => exact ⟨k + 1, by omega, by go_num, by rw [NX.out, ST.out]; exact OW.out.alloc _, hnx.alloc hsz _⟩
        case measure => simp [intOf]; omega
      | false =>
        cases O with
        | true =>
          have ST := hid (show unqStep avoid out x = out by rw [US.out]; simp)
          go_wp2_with fail
          refine G1.out.mono ?_
          rintro e w3 ⟨rfl, rfl⟩
          go_wp2_with fail
          refine G2.out.mono ?_
          rintro e w3 ⟨rfl, rfl⟩
          go_wp2_with fail
          go_roundw
          case rel => exact ⟨k + 1, by omega, by go_num, by rw [NX.out, ST.out]; exact OW.out.alloc _, hnx.alloc hsz _⟩
          case measure => simp [intOf]; omega
        | false =>
          have ST := hid (show unqStep avoid out x = out ++ [x] by rw [US.out]; simp)
          go_wp2_with fail
          refine G1.out.mono ?_
          rintro e w3 ⟨rfl, rfl⟩
          go_wp2_with fail
          refine G2.out.mono ?_
          rintro e w3 ⟨rfl, rfl⟩
          go_wp2_with (at_builtin; refine wpList_push rfl _ _ 59 rfl w1.heap.size 55 (.int .u32 0) 4 undSets infoSet rfl (by decide) enc (fun _ => rfl) _ out rfl ((OW.out.alloc _).alloc _) ⟨wr.heap.size + 1, 0, none⟩ x rfl (by simp [enc]) (by have := OLE.out; omega) (by simp; omega) ?_)
          intro v' w4 hown' hgrow
          have hb4 := below_push (hnx.alloc hsz _) (by simp; omega) (OW.out.alloc _) hgrow
          have hown2 : w4.ownsRow w1.heap.size 55 1 v' (unqStep avoid out x).length ((unqStep avoid out x).map enc) := by rw [ST.out]; simpa using hown'
          have HO2 := hid hown2
          clear hgrow hown hnx hown' hown2
          go_wp2_with fail
          go_roundw
          case rel => exact ⟨k + 1, by omega, by go_num, by rw [NX.out]; exact HO2.out, hb4⟩
          case measure => simp [intOf]; omega
    · rw [take_all hlt, KY.out] at hown
      have OF := hid (own_mono hown B1.out.size)
      have BF := hid (B1.out.trans (hnx.mono B1.out.size))
      clear hown hnx
      go_wp2_with fail
      go_ret
      exact ⟨_, rfl, OF.out, BF.out⟩

end Go.Proofs.YtgahpgmagfngfaaGreatDoor


/- Groups: a row of the call's own of slices, each with a row of the call's own. No program. -/
namespace Go.Proofs.YtgahpgmagfngfaaGreatDoor
open Go.RowKit

abbrev Gp := Value × List Int
def encJ (n : Int) : Value := .int .i64 n
structure OwnGr (w : World) (B : Nat) (tO tI : TypeId) (v : Value) (gs : List Gp) : Prop where
  outer : w.ownsRow B tO 1 v gs.length (gs.map Prod.fst)
  inner : ∀ g ∈ gs, w.ownsRow B tI 1 g.1 g.2.length (g.2.map encJ)
  apart : ∀ (i j : Nat) (g h : Gp), gs[i]? = some g → gs[j]? = some h → i ≠ j → g.1.ownBlock = none ∨ g.1.ownBlock ≠ h.1.ownBlock
  away : ∀ g ∈ gs, g.1.ownBlock = none ∨ g.1.ownBlock ≠ v.ownBlock

variable {w w' : World} {B : Nat} {tO tI : TypeId} {v : Value} {gs : List Gp}
theorem OwnGr.nil (w : World) (B : Nat) (tO tI : TypeId) : OwnGr w B tO tI (.slice none 0 0) [] :=
  ⟨World.ownsRow_nil _ _ _ _, by simp, by simp, by simp⟩
theorem OwnGr.kept {row : Option Nat} (h : OwnGr w B tO tI v gs) (hg : w.grownBy w' row) (hr : ∀ k, row = some k → k < B) : OwnGr w' B tO tI v gs := by
  have key : ∀ {e : TypeId} {u : Value} {n : Nat} {xs : List Value}, w.ownsRow B e 1 u n xs → w'.ownsRow B e 1 u n xs := by
    intro e u n xs ho
    refine ho.kept hg ?_
    cases hu : u.ownBlock with
    | none => exact .inl rfl
    | some k =>
      refine .inr fun e => ?_
      have h1 := (ho.lt k hu).1
      have h2 := hr k e.symm
      omega
  exact ⟨key h.outer, fun g hg => key (h.inner g hg), h.apart, h.away⟩
theorem OwnGr.below (h : OwnGr w B tO tI v gs) (hb : Below w.heap.size w w') : OwnGr w' B tO tI v gs :=
  ⟨own_below h.outer hb, fun g hg => own_below (h.inner g hg) hb, h.apart, h.away⟩
/-- 'groups = append(groups, nil)'. -/
theorem OwnGr.push {v' : Value} (h : OwnGr w B tO tI v gs) (ho : w'.ownsRow B tO 1 v' (gs ++ [((.slice none 0 0, []) : Gp)]).length ((gs ++ [((.slice none 0 0, []) : Gp)]).map Prod.fst)) (hg : w.grownBy w' v.ownBlock) (hl : v'.ownBlock = v.ownBlock ∨ v'.ownBlock = some w.heap.size) :
    OwnGr w' B tO tI v' (gs ++ [(.slice none 0 0, [])]) := by
  refine ⟨ho, fun g hm => ?_, fun i j g k hi hj hij => ?_, fun g hm => ?_⟩
  · rcases List.mem_append.1 hm with hm | hm
    · exact (h.inner g hm).kept hg (h.away g hm)
    · rw [List.mem_singleton] at hm; subst hm; exact World.ownsRow_nil _ _ _ _
  · by_cases h1 : i < gs.length
    · rw [List.getElem?_append_left h1] at hi
      by_cases h2 : j < gs.length
      · rw [List.getElem?_append_left h2] at hj
        exact h.apart i j g k hi hj hij
      · rw [List.getElem?_append_right (by omega)] at hj
        have hj0 := (List.getElem?_eq_some_iff.1 hj).1
        simp at hj0
        have : j - gs.length = 0 := by omega
        rw [this] at hj
        simp at hj; subst hj
        cases hb : g.1.ownBlock with
        | none => exact .inl rfl
        | some b => exact .inr (by simp [Value.ownBlock])
    · rw [List.getElem?_append_right (by omega)] at hi
      have hi0 := (List.getElem?_eq_some_iff.1 hi).1
      simp at hi0
      have : i - gs.length = 0 := by omega
      rw [this] at hi
      simp at hi; subst hi
      exact .inl rfl
  · rcases List.mem_append.1 hm with hm | hm
    · rcases hl with e | e
      · rw [e]; exact h.away g hm
      · cases hb : g.1.ownBlock with
        | none => exact .inl rfl
        | some b =>
          refine .inr ?_
          rw [e]
          intro e2
          have := ((h.inner g hm).lt b hb).2
          simp at e2; omega
    · rw [List.mem_singleton] at hm; subst hm; exact .inl rfl
/-- 'groups[i] = append(groups[i], x)'. -/
theorem OwnGr.add {o n cap i : Nat} {g : Gp} {u' : Value} {x : Int} (h : OwnGr w B tO tI (.slice (some ⟨o, 0, none⟩) n cap) gs) (hi : gs[i]? = some g)
    (ho : w'.ownsRow B tI 1 u' (g.2 ++ [x]).length ((g.2 ++ [x]).map encJ)) (hg : w.grownBy w' g.1.ownBlock) (hl : u'.ownBlock = g.1.ownBlock ∨ u'.ownBlock = some w.heap.size) (hn : n = gs.length) :
    OwnGr (w'.setCell ⟨o, i, none⟩ u') B tO tI (.slice (some ⟨o, 0, none⟩) n cap) (gs.set i (u', g.2 ++ [x])) := by
  subst hn
  have hgm := List.mem_of_getElem? hi
  have haw : ∀ k ∈ gs, k.1.ownBlock ≠ some o := by
    intro k hk e
    rcases h.away k hk with h1 | h1
    · rw [h1] at e; cases e
    · exact h1 e
  have hlt : o < w.heap.size := (h.outer.lt o rfl).2
  have huo : u'.ownBlock ≠ some o := by
    rcases hl with e | e
    · rw [e]; exact haw g hgm
    · rw [e]; simp; omega
  have hout : w'.ownsRow B tO 1 (.slice (some ⟨o, 0, none⟩) gs.length cap) gs.length (gs.map Prod.fst) := by
    refine h.outer.kept hg (.inr ?_)
    intro e
    exact haw g hgm e.symm
  have hne : ∀ (j : Nat) (k : Gp), gs[j]? = some k → j ≠ i → k.1.ownBlock = none ∨ k.1.ownBlock ≠ u'.ownBlock := by
    intro j k hj hji
    rcases hl with e | e
    · rw [e]; exact h.apart j i k g hj hi hji
    · cases hb : k.1.ownBlock with
      | none => exact .inl rfl
      | some b =>
        refine .inr ?_
        rw [e]
        intro e2
        have := ((h.inner k (List.mem_of_getElem? hj)).lt b hb).2
        simp at e2; omega
  refine ⟨?_, fun k hm => ?_, fun a b k l ha hb hab => ?_, fun k hm => ?_⟩
  · have := (hout.stored i u').1
    rw [List.length_set, List.map_set]
    exact this
  · obtain ⟨j, hj⟩ := List.mem_iff_getElem?.1 hm
    rw [List.getElem?_set] at hj
    by_cases e : i = j
    · subst e
      rw [if_pos rfl] at hj
      split at hj
      · obtain rfl := Option.some.inj hj
        exact ownsRow_setCell_other ho huo _
      · cases hj
    · rw [if_neg e] at hj
      refine ownsRow_setCell_other ((h.inner k (List.mem_of_getElem? hj)).kept hg ?_) (haw k (List.mem_of_getElem? hj)) _
      exact h.apart j i k g hj hi (Ne.symm e)
  · rw [List.getElem?_set] at ha hb
    by_cases e : i = a
    · subst e
      rw [if_pos rfl] at ha
      split at ha
      · obtain rfl := Option.some.inj ha
        rw [if_neg hab] at hb
        rcases hne b l hb (Ne.symm hab) with h1 | h1
        · by_cases hz : u'.ownBlock = none
          · exact .inl hz
          · right; rw [h1]; exact hz
        · exact .inr (Ne.symm h1)
      · cases ha
    · rw [if_neg e] at ha
      by_cases e2 : i = b
      · subst e2
        rw [if_pos rfl] at hb
        split at hb
        · obtain rfl := Option.some.inj hb
          exact hne a k ha (Ne.symm e)
        · cases hb
      · rw [if_neg e2] at hb
        exact h.apart a b k l ha hb hab
  · obtain ⟨j, hj⟩ := List.mem_iff_getElem?.1 hm
    rw [List.getElem?_set] at hj
    by_cases e : i = j
    · subst e
      rw [if_pos rfl] at hj
      split at hj
      · obtain rfl := Option.some.inj hj
        exact .inr huo
      · cases hj
    · rw [if_neg e] at hj
      exact .inr (haw k (List.mem_of_getElem? hj))
/-- The groups, read. -/
def RdG (w : World) (v : Value) (gs : List Gp) : Prop := RdE Prod.fst w v gs ∧ ∀ g ∈ gs, RdE encJ w g.1 g.2
theorem RdG.below (h : RdG w v gs) (hb : Below w.heap.size w w') : RdG w' v gs := ⟨h.1.below hb, fun g hg => (h.2 g hg).below hb⟩
theorem OwnGr.rd (h : OwnGr w B tO tI v gs) (h1 : gs.length ≤ 100000) (h2 : ∀ g ∈ gs, g.2.length ≤ 100000) : RdG w v gs :=
  ⟨RdE.of_owns h.outer (by omega), fun g hg => RdE.of_owns (h.inner g hg) (by have := h2 g hg; omega)⟩

end Go.Proofs.YtgahpgmagfngfaaGreatDoor


/- The walks of the reference of chapter 29: comparisons, Unique. -/
namespace Go.Proofs.YtgahpgmagfngfaaGreatDoor
open Go.RowKit
set_option linter.unusedVariables false


attribute [local irreducible] Go.wpQuiet


end Go.Proofs.YtgahpgmagfngfaaGreatDoor


/- A map of the call's own, whatever its keys and elements, told by a function and by the keys that it has. No program. -/
namespace Go.Proofs.YtgahpgmagfngfaaGreatDoor
open Go.RowKit
open Go.Maps (Keyed)

/-- The keys of a map: how a key is written and read. -/
structure KeyE (P : Program) (k : TypeId) (κ : Type) where
  law : Keyed P k
  val : κ → Value
  lit : κ → Lit
  key : ∀ x, keyOf P k (val x) = some (lit x)
  inj : ∀ x y, lit x = lit y → x = y
/-- An element is read as what it is. -/
def heldR (v : Value) : Option (DataW Value × List MemPlace) := some (.held v, [])
theorem heldR_inv {v u : Value} {d : DataW Value} {ps : List MemPlace} (h : heldR v = some (d, ps)) (hd : d = .held u) : v = u := by
  unfold heldR at h
  simp only [Option.some.injEq, Prod.mk.injEq] at h
  rw [hd] at h
  exact (DataW.held.inj h.1)

section
variable {P : Program} {k e : TypeId} {κ : Type}
/-- Block b is a map of at most n entries that gives f x at the key x (z where there is none), and has the keys p. -/
def OwnG (E : KeyE P k κ) (z : Value) (w : World) (b n : Nat) (f : κ → Value) (p : κ → Bool) : Prop :=
  ∃ D : DataW Value, w.ownsMap P k heldR b n D ∧ (∀ s, D.atKey (E.lit s) (.held z) = .held (f s)) ∧ ∀ s, Maps.has D (E.lit s) = p s
variable {E : KeyE P k κ} {z : Value} {w : World} {b n : Nat} {f : κ → Value} {p : κ → Bool}
theorem OwnG.made (E : KeyE P k κ) (z : Value) (w : World) : OwnG E z (w.alloc (.map #[] 0)) w.heap.size 0 (fun _ => z) (fun _ => false) :=
  ⟨.map [], World.ownsMap_made w P k _, fun _ => Maps.atKey_of_not_has rfl _, fun _ => rfl⟩
theorem OwnG.kept {w' : World} {row : Option Nat} (h : OwnG E z w b n f p) (hg : w.grownBy w' row) (hne : some b ≠ row) : OwnG E z w' b n f p := by
  obtain ⟨D, h1, h2⟩ := h; exact ⟨D, h1.kept hg hne, h2⟩
theorem OwnG.congr {g : κ → Value} {q : κ → Bool} (h : OwnG E z w b n f p) (hg : ∀ s, f s = g s) (hp : ∀ s, p s = q s) : OwnG E z w b n g q := by
  obtain ⟨D, h1, h2, h3⟩ := h; exact ⟨D, h1, fun s => (h2 s).trans (by rw [hg]), fun s => (h3 s).trans (hp s)⟩
theorem OwnG.mono {n' : Nat} (h : OwnG E z w b n f p) (hn : n ≤ n') : OwnG E z w b n' f p := by
  obtain ⟨D, h1, h2⟩ := h; exact ⟨D, h1.mono hn, h2⟩
theorem OwnG.lt (h : OwnG E z w b n f p) : b < w.heap.size := by obtain ⟨D, h1, _⟩ := h; exact h1.lt
theorem OwnG.block {w' : World} (h : OwnG E z w b n f p) (hb : w'.heap[b]? = w.heap[b]?) : OwnG E z w' b n f p := by
  obtain ⟨D, ⟨es, c, h1, h3⟩, h2⟩ := h
  exact ⟨D, ⟨es, c, hb.trans h1, h3⟩, h2⟩
theorem OwnG.below {w' : World} (h : OwnG E z w b n f p) (hb : Below w.heap.size w w') : OwnG E z w' b n f p := h.block (hb.block b h.lt)

/-- f, but y at x. -/
def updG [DecidableEq κ] {β : Type} (f : κ → β) (x : κ) (y : β) : κ → β := fun t => if t = x then y else f t

theorem wpList_glook {ops : Array Oper} {rest : List Oper} {o : Oper} {a : Act} {Q : Exit → Act → World → Prop} (hg : o.guard = none) (m x : Operand) (t : TypeId) (hop : o.op = Op.lookup t m x false)
    (ht : P.underlying t = some (.map k e)) (hz : (zeroValue e).run P w = .ok z w)
    (hm : a.eval m = .map (some b)) (hown : OwnG E z w b n f p) (s : κ) (hx : a.eval x = E.val s)
    (hK : wpList P ops Q rest (a.put o.dst (f s)) w) : wpList P ops Q (o :: rest) a w := by
  obtain ⟨D, h1, h2, _⟩ := hown
  refine wpList_plain hg fun K' hK' => ?_
  obtain ⟨v, ps, hrun, hv⟩ := h1.lookup E.law ht hz (show heldR z = some (.held z, []) from rfl) (E.key s)
  have := heldR_inv hv (h2 s)
  subst this
  unfold Oper.wp
  simp [execOp, hop, hm, hx, hrun, Result.andThen]
  exact hK' _ _ hK
theorem wpList_glook_ok {ops : Array Oper} {rest : List Oper} {o : Oper} {a : Act} {Q : Exit → Act → World → Prop} (hg : o.guard = none) (m x : Operand) (t : TypeId) (hop : o.op = Op.lookup t m x true)
    (ht : P.underlying t = some (.map k e)) (hz : (zeroValue e).run P w = .ok z w)
    (hm : a.eval m = .map (some b)) (hown : OwnG E z w b n f p) (s : κ) (hx : a.eval x = E.val s)
    (hK : wpList P ops Q rest (a.put o.dst (.tuple #[f s, .bool (p s)])) w) : wpList P ops Q (o :: rest) a w := by
  obtain ⟨D, h1, h2, h3⟩ := hown
  refine wpList_lookup_own_ok w hg m x t hop k e E.law ht heldR hz (.held z) [] rfl b n D hm h1 _ (E.lit s) hx (E.key s) ?_
  intro v ps hv
  have := heldR_inv hv (h2 s)
  rw [this, h3]
  exact hK
theorem wpList_gput [DecidableEq κ] {ops : Array Oper} {rest : List Oper} {o : Oper} {a : Act} {Q : Exit → Act → World → Prop} (hg : o.guard = none) (m x v : Operand) (t : TypeId) (hop : o.op = Op.mapUpdate t m x v)
    (ht : P.underlying t = some (.map k e))
    (hm : a.eval m = .map (some b)) (hown : OwnG E z w b n f p) (hn : n < maxLen) (s : κ) (y : Value) (hx : a.eval x = E.val s) (hv : a.eval v = y)
    (hK : ∀ w', OwnG E z w' b (n + 1) (updG f s y) (updG p s true) → w.grownBy w' (some b) → wpList P ops Q rest (a.put o.dst undef) w') : wpList P ops Q (o :: rest) a w := by
  obtain ⟨D, h1, h2, h3⟩ := hown
  refine wpList_mapUpdate_own w hg m x v t hop k e E.law ht _ b n D hm h1 hn _ _ (E.lit s) hx hv (E.key s) (.held y) [] rfl ?_
  intro w' r1 r2
  refine hK w' ⟨_, r1, fun t => ?_, fun t => ?_⟩ r2
  · by_cases h : t = s
    · subst h
      rw [show updG f t y t = y from if_pos rfl]
      exact Maps.atKey_put_same h1.isMap (E.law.key (E.key t)) _ _
    · rw [show updG f s y t = f t from if_neg h, Maps.atKey_put_other (fun e => h (E.inj _ _ e))]
      exact h2 t
  · by_cases h : t = s
    · subst h
      rw [show updG p t true t = true from if_pos rfl]
      exact Maps.has_put_same h1.isMap (E.law.key (E.key t)) _
    · rw [show updG p s true t = p t from if_neg h, Maps.has_put_other (fun e => h (E.inj _ _ e))]
      exact h3 t
end

/-- Strings as keys. -/
abbrev KS := { s : ByteArray // s.size ≤ maxLen }
def strKeys {P : Program} {k : TypeId} (hk : P.underlying k = some .string) : KeyE P k KS where
  law := Maps.string_keyed hk
  val s := .string s.1
  lit s := .string s.1.data.toList
  key s := WideMaps.keyOf_string_mk hk s.2
  inj x y h := by
    obtain ⟨x, hx⟩ := x
    obtain ⟨y, hy⟩ := y
    simp only [Lit.string.injEq] at h
    obtain ⟨x⟩ := x
    obtain ⟨y⟩ := y
    simp only at h
    simp [Array.toList_inj.1 h]
/-- Sets as keys. -/
def setKeys {P : Program} {k : TypeId} (hk : P.underlying k = some (.int .u32)) : KeyE P k S where
  law := Maps.int_keyed hk
  val := enc
  lit s := .int .u32 (iv s)
  key s := Maps.keyOf_int_mk hk (WalkArith.wf_u32 (by have := iv_nonneg s; have := iv_lt s; omega))
  inj x y h := by simp only [Lit.int.injEq] at h; exact iv_inj h.2

end Go.Proofs.YtgahpgmagfngfaaGreatDoor


/- The walk of keymine's witnesses. -/
namespace Go.Proofs.YtgahpgmagfngfaaGreatDoor
open Go.RowKit
set_option linter.unusedVariables false

/-! Plain. -/
def trip (r q : Row3) : W3 := (pairS r q, r.1, q.1)
/-- All pairs of rows, in order, with their agree sets. -/
def seqW : List Row3 → List W3
  | [] => []
  | r :: rs => rs.map (trip r) ++ seqW rs
theorem seqW_at {rs : List Row3} {i : Nat} {r : Row3} (h : rs[i]? = some r) : seqW (rs.drop i) = (rs.drop (i + 1)).map (trip r) ++ seqW (rs.drop (i + 1)) := by rw [drop_at h]; rfl
theorem seqW_sets : ∀ rs : List Row3, (seqW rs).map (·.1) = pairsS rs := by
  intro rs
  induction rs with
  | nil => rfl
  | cons r rs ih =>
    unfold seqW pairsS
    rw [List.map_append, ih, List.map_map]; rfl
theorem seqW_length (rs : List Row3) : (seqW rs).length ≤ rs.length * rs.length := by
  have := congrArg List.length (seqW_sets rs)
  rw [List.length_map] at this
  rw [this]; exact pairsS_length rs
def firstP (P : List W3) (s : S) : Int × Int := ((P.find? fun x => decide (x.1 = s)).map (·.2)).getD (0, 0)
def firstV (P : List W3) (s : S) : Value := .agg #[.int .i64 (firstP P s).1, .int .i64 (firstP P s).2]
theorem firstP_none {P : List W3} {s : S} (h : s ∉ P.map (·.1)) : (P.find? fun x => decide (x.1 = s)) = none := by
  rw [List.find?_eq_none]
  intro x hx e
  exact h (List.mem_map.2 ⟨x, hx, of_decide_eq_true e⟩)
theorem firstP_old {P : List W3} {x : W3} (h : x.1 ∈ P.map (·.1)) (t : S) : firstP (P ++ [x]) t = firstP P t := by
  unfold firstP
  rw [List.find?_append]
  by_cases ht : t ∈ P.map (·.1)
  · obtain ⟨y, hy, rfl⟩ := List.mem_map.1 ht
    cases hf : P.find? fun x => decide (x.1 = y.1) with
    | some z => rfl
    | none =>
      rw [List.find?_eq_none] at hf
      exact absurd (hf y hy) (by simp)
  · have hne : x.1 ≠ t := by rintro rfl; exact ht h
    rw [firstP_none ht]
    simp [hne]
theorem firstP_new {P : List W3} {x : W3} (h : x.1 ∉ P.map (·.1)) (t : S) : firstP (P ++ [x]) t = if t = x.1 then x.2 else firstP P t := by
  unfold firstP
  rw [List.find?_append]
  by_cases ht : t = x.1
  · rw [if_pos ht, ht, firstP_none h]; simp
  · rw [if_neg ht]
    have : ([x].find? fun y => decide (y.1 = t)) = none := by simp; exact fun e => ht e.symm
    rw [this]; simp
/-- The maximal agree sets with their first pairs. -/
def witsL (rs : List Row3) : List W3 := (keepS upR (pairsS rs)).map fun s => (s, firstP (seqW rs) s)
theorem witsL_sets (rs : List Row3) : (witsL rs).map (·.1) = keepS upR (pairsS rs) := by unfold witsL; rw [List.map_map]; exact List.map_id' _

theorem zeroW2 (w : World) : (zeroValue 139).run Tryz.prog w = .ok (.agg #[.int .i64 0, .int .i64 0]) w := by kernel_rfl
theorem undMapW : Tryz.prog.underlying 137 = some (.map 55 139) := by kernel_rfl
theorem undSetK : Tryz.prog.underlying 55 = some (.int .u32) := by kernel_rfl
theorem undArr2 : Tryz.prog.underlying 139 = some (.array 2 2) := by kernel_rfl
set_option maxRecDepth 100000 in
theorem index20 (a b : Int) (w : World) : (Instr.index 139 (.agg #[.int .i64 a, .int .i64 b]) (.int .i64 0)).run Tryz.prog w = .ok (.int .i64 a) w := by
  first | rfl | kernel_rfl | simp [Instr.index, run_underlying undArr2, asIntOf, go_sem]
set_option maxRecDepth 100000 in
theorem index21 (a b : Int) (w : World) : (Instr.index 139 (.agg #[.int .i64 a, .int .i64 b]) (.int .i64 1)).run Tryz.prog w = .ok (.int .i64 b) w := by
  first | rfl | kernel_rfl | simp [Instr.index, run_underlying undArr2, asIntOf, go_sem]
abbrev zW2 : Value := .agg #[.int .i64 0, .int .i64 0]
abbrev OwnW := OwnG (setKeys (P := Tryz.prog) (k := 55) undSetK) zW2
/-- 'append(out, y)' of one element of one cell, with the place of the new row. -/
theorem wpList_pushE {P : Program} {w : World} {ops : Array Oper} {rest : List Oper} {o : Oper} {a : Act} {Q : Exit → Act → World → Prop} {α : Type} (hgd : o.guard = none) (s x : Operand) (t : TypeId)
    (ho : o.op = .call { callee := .builtin .append, args := #[s, x], argTypes := #[t, t] })
    (B : Nat) (e : TypeId) (z : Value) (bytes : Nat) (ht : P.underlying t = some (.slice e)) (hinfo : (P.info? e).map (fun i => (i.zero, i.size, i.bytes)) = some (some z, 1, bytes)) (hz : z.cells.size = 1) (hb8 : bytes ≤ 64)
    (f : α → Value) (v : Value) (xs : List α) (hs : a.eval s = v) (hown : w.ownsRow B e 1 v xs.length (xs.map f))
    (ad : Addr) (y : α) (hf : (f y).oneCell' = true) (hx : a.eval x = .slice (some ad) 1 1) (hy : w.cell? ad = some (f y)) (hl : xs.length < 2199023255552) (hB : B ≤ w.heap.size)
    (h : ∀ v' w', w'.ownsRow B e 1 v' (xs ++ [y]).length ((xs ++ [y]).map f) → w.grownBy w' v.ownBlock → (v'.ownBlock = v.ownBlock ∨ v'.ownBlock = some w.heap.size) → wpList P ops Q rest (a.put o.dst v') w') : wpList P ops Q (o :: rest) a w := by
  refine wpList_pushB hgd s x t ho B e z 1 bytes ht hinfo hz (by decide) hb8 (fun y => [f y]) (fun _ => rfl) v xs hs (by rw [← List.map_eq_flatMap]; exact hown) ad y (by simpa using hf) hx ?_ hl hB ?_
  · intro j u hj
    match j, hj with
    | 0, hj => simp at hj; subst hj; rw [Addr.add_zero']; exact hy
  · intro v' w' h1 h2 h3
    rw [← List.map_eq_flatMap] at h1
    exact h v' w' h1 h2 h3

set_option maxHeartbeats 3200000 in
set_option maxRecDepth 100000 in
theorem kwits_any (t : T3) (av rv : Value) (w : World) (ht : RdT w av rv t) (hk : tabE2 t = 0) :
    Calls Tryz.prog 35 #[.agg #[.string t.1, av, rv]] w fun e w' => ∃ v', e = .returned v' ∧ w'.ownsRow w.heap.size 136 3 v' (witsL t.2.2).length ((witsL t.2.2).flatMap cW) ∧ (witsL t.2.2).length ≤ 40000 ∧ Below w.heap.size w w' := by
  have hb0 := below_alloc w (.cells #[.string t.1, av, rv] 48)
  have C3 := hid (fun W h => cells3 (w := w) (a := .string t.1) (b := av) (c := rv) (t := 48) W h)
  have T0 := hid (ht.below hb0)
  obtain ⟨w0, hw0⟩ : ∃ w0 : World, w.alloc (.cells #[.string t.1, av, rv] 48) = w0 := ⟨_, rfl⟩
  rw [hw0] at hb0 C3 T0
  have B0 := hid hb0
  have W0 := hid hw0
  have hsz0 := hb0.size
  clear hb0 hw0
  obtain ⟨h16, h200, hrows⟩ := tabE2_ok hk
  obtain ⟨nm, ats, rs⟩ := t
  replace h16 : ats.length ≤ 16 := h16
  replace h200 : rs.length ≤ 200 := h200
  have HR := hid (show ∀ r ∈ rs, r.2.2.length = ats.length ∧ ∀ x ∈ r.2.2, x.2.2.size ≤ 200 from hrows)
  have hmm := @run_makeMap Tryz.prog
  have HS0 := hid (show w0.heap.size = w.heap.size + 1 by rw [← W0.out]; simp)
  obtain ⟨ro, rcap, rfl, hrl, hrc⟩ := RdR.split T0.out.2
  have RC := hid hrc
  have hcap : rs.length ≤ rcap := by
    obtain ⟨⟨ao, cap, e, h1, _⟩, _⟩ := T0.out.2
    cases e; exact h1
  have RA := hid (fun (i j : Int) (xs ys : List V3) (u v : Value) (W : World) (hu : RdV W u xs) (hv : RdV W v ys) (hl : ys.length = xs.length) (h32 : xs.length ≤ 32) => kagree_any i j xs ys u v W hu hv hl h32)
  have SQ := hid (fun (i : Nat) (r : Row3) (h : rs[i]? = some r) => seqW_at h)
  have hm0 := OwnG.made (setKeys (P := Tryz.prog) (k := 55) undSetK) zW2 w0
  rw [HS0.out] at hm0
  obtain ⟨Q, hQ⟩ : ∃ Q, seqW rs = Q := ⟨_, rfl⟩
  have HQ0 := hid hQ
  have HQL := hid (show Q.length ≤ 40000 by rw [← hQ]; exact Nat.le_trans (seqW_length rs) (Nat.mul_le_mul h200 h200))
  have WL := hid (show witsL rs = (keepS upR (dedK (Q.map (·.1)))).map fun s => (s, firstP Q s) by
    unfold witsL
    rw [hQ, keepS_congr upR (a := pairsS rs) (b := dedK (Q.map (·.1))) (fun s => by rw [mem_dedK, ← hQ, seqW_sets])])
  have AM := hid (fun (xs : List S) (v : Value) (W : World) (hv : RdE enc W v xs) (h : xs.length < 17592186044416) => amaximal_any xs v W hv h)
  show Calls _ _ _ _ fun e w' => ∃ v', e = .returned v' ∧ w'.ownsRow w.heap.size 136 3 v' (witsL rs).length ((witsL rs).flatMap cW) ∧ (witsL rs).length ≤ 40000 ∧ Below w.heap.size w w'
  rw [WL.out]
  obtain ⟨res, hres⟩ : ∃ res, ((keepS upR (dedK (Q.map (·.1)))).map fun s => (s, firstP Q s)) = res := ⟨_, rfl⟩
  rw [hres]
  have HRES := hid hres
  clear hres
  obtain ⟨t00, t01, t02⟩ := C3.out _ (Below.refl _ _)
  clear hk ht hrows hrc hQ WL
  go_enter Tryz.func35, Tryz.ntmps35
  go_wp2_with fail
  rw [W0.out]
  go_wp2_with fail
  go_loopw [4, 19] (fun u i wr => ∃ (k : Nat) (P : List W3), k ≤ rs.length ∧ i = .int .i64 k ∧ OwnW wr (w.heap.size + 1) P.length (firstV P) (fun s => decide (s ∈ dedK (P.map (·.1)))) ∧ wr.ownsRow (w.heap.size + 2) 55 1 u (dedK (P.map (·.1))).length ((dedK (P.map (·.1))).map enc) ∧ Hid (P ++ seqW (rs.drop k) = Q) ∧ Below w0.heap.size w0 wr) (fun _ i _ => rs.length - (intOf i).toNat)
  case atStart => exact ⟨0, [], Nat.zero_le _, rfl, hm0.congr (fun s => rfl) (fun s => rfl), World.ownsRow_nil _ _ _ _, HQ0, below_alloc _ _⟩
  case round =>
    obtain ⟨i, P0, hk, rfl, hmap, hown, HP, hnx⟩ := hrel
    have hsz := hnx.size
    obtain ⟨e0, e1, e2⟩ := C3.out _ hnx
    have i0 : (0 : Int) ≤ (i : Int) := by omega
    by_cases hlt : i < rs.length
    · obtain ⟨⟨rid, ru, rvs⟩, hr⟩ := get_some hlt
      obtain ⟨⟨b, off, rfl, hd⟩, hvs⟩ := RC.out i _ hr
      have HR1 := hid (HR.out _ (List.mem_of_getElem? hr))
      have HP2 := hid (show P0 ++ ((rs.drop (i + 1)).map (trip (rid, ru, rvs)) ++ seqW (rs.drop (i + 1))) = Q by rw [← SQ.out i _ hr]; exact HP.out)
      have VS := hid (fun (W : World) (h : Below w0.heap.size w0 W) => show RdV W ru rvs from hvs W h)
      obtain ⟨uo, ucap, rfl, -⟩ := RdV.split (VS.out wr hnx)
      obtain ⟨wo, rfl⟩ : ∃ wo : World, wo = wr := ⟨_, rfl⟩
      have hba := below_alloc wo (.cells #[.int .i64 rid, .slice uo rvs.length ucap] 87)
      have hnx1 := hnx.trans (hba.mono hsz)
      have hmap1 := hmap.below hba
      have hown1 := own_below hown hba
      obtain ⟨f0, f1⟩ := hd wo hnx
      have hrc0 : (wo.alloc (.cells #[.int .i64 rid, .slice uo rvs.length ucap] 87)).cell? ⟨wo.heap.size, 0, none⟩ = some (.int .i64 rid) := by simp
      have hrc1 : (wo.alloc (.cells #[.int .i64 rid, .slice uo rvs.length ucap] 87)).cell? ⟨wo.heap.size, 1, none⟩ = some (.slice uo rvs.length ucap) := by simp
      obtain ⟨k0, k1, k2⟩ := C3.out _ hnx1
      have hnb : u4.ownBlock ≠ some wo.heap.size := fun e => Nat.lt_irrefl _ (hown.lt _ e).2
      have hwo : w.heap.size + 1 < wo.heap.size := hmap.lt
      have ST := hid (And.intro hmap1 (And.intro hown1 (And.intro hnx1 (And.intro hrc0 (And.intro hrc1 hnb)))))
      clear hd hvs hr hba hnx hnx1 hrc0 hrc1 HP hmap hmap1 hown hown1 hnb
      by_cases hlast : i + 1 = rcap
      · have hn1 : rs.length = i + 1 := by omega
        have HP3 := hid (show P0 ++ seqW (rs.drop (i + 1)) = Q by have h := HP2.out; rw [List.drop_eq_nil_of_le (show rs.length ≤ i + 1 by omega)] at h ⊢; simpa [seqW] using h)
        have HN1 := hid hn1
        have hsub : rs.length - (i + 1) = 0 := by omega
        have hcc : (i : Int) + 1 = (rcap : Int) := by omega
        clear hlast hn1
        go_wp2_with fail
        go_loopw [4, 30] (fun u j wr => u = u4 ∧ j = .int .i64 0 ∧ OwnW wr (w.heap.size + 1) P0.length (firstV P0) (fun s => decide (s ∈ dedK (P0.map (·.1)))) ∧ wr.ownsRow (w.heap.size + 2) 55 1 u4 (dedK (P0.map (·.1))).length ((dedK (P0.map (·.1))).map enc) ∧ Below w0.heap.size w0 wr) (fun _ _ _ => 0)
        case atStart => exact ⟨rfl, rfl, ST.out.1, ST.out.2.1, ST.out.2.2.1⟩
        case round =>
          obtain ⟨rfl, rfl, hm, ho, hnx⟩ := hrel
          have NX := hid hnx
          have HM := hid hm
          have HO := hid ho
          have hlt0 := HN1.out
          clear hnx hm ho
          go_wp2_with fail
          go_roundw
          case rel => exact ⟨i + 1, P0, by omega, by go_num, HM.out, HO.out, HP3, NX.out⟩
          case measure => simp [intOf]; omega
      · have hlast2 : i + 1 < rcap := by omega
        obtain ⟨N, hN⟩ : ∃ N, rs.length - (i + 1) = N := ⟨_, rfl⟩
        have HN := hid hN
        have hNb : N ≤ 200 := by omega
        have HLT := hid hlt
        clear hlast
        go_wp2_with fail
        clear hN
        go_loopw [4, 30] (fun u j wr => ∃ (k : Nat) (P : List W3), k ≤ N ∧ j = .int .i64 k ∧ OwnW wr (w.heap.size + 1) P.length (firstV P) (fun s => decide (s ∈ dedK (P.map (·.1)))) ∧ wr.ownsRow (w.heap.size + 2) 55 1 u (dedK (P.map (·.1))).length ((dedK (P.map (·.1))).map enc) ∧ Hid (P ++ (((rs.drop (i + 1)).drop k).map (trip (rid, Value.slice uo rvs.length ucap, rvs)) ++ seqW (rs.drop (i + 1))) = Q) ∧ Below w0.heap.size w0 wr ∧ (wr.cell? ⟨wo.heap.size, 0, none⟩ = some (.int .i64 rid) ∧ wr.cell? ⟨wo.heap.size, 1, none⟩ = some (.slice uo rvs.length ucap)) ∧ Hid (u.ownBlock ≠ some wo.heap.size)) (fun _ j _ => N - (intOf j).toNat)
        case atStart => exact ⟨0, P0, Nat.zero_le _, rfl, ST.out.1, ST.out.2.1, HP2, ST.out.2.2.1, ⟨ST.out.2.2.2.1, ST.out.2.2.2.2.1⟩, hid ST.out.2.2.2.2.2⟩
        case round =>
          obtain ⟨k, P, hk2, rfl, hmap, hown, HP4, hnx2, ⟨e0', e1'⟩, HNB⟩ := hrel
          have hsz2 := hnx2.size
          have j0 : (0 : Int) ≤ (k : Int) := by omega
          by_cases hlt2 : k < N
          · obtain ⟨⟨qid, qu, qvs⟩, hq⟩ := get_some (show i + 1 + k < rs.length by have := HN.out; omega)
            have hqd : (rs.drop (i + 1))[k]? = some (qid, qu, qvs) := by rw [List.getElem?_drop]; exact hq
            have HK2 := hid hlt2
            have HR2 := hid (HR.out _ (List.mem_of_getElem? hq))
            obtain ⟨⟨b', off', hbb, hd'⟩, hvs'⟩ := RC.out (i + 1 + k) _ hq
            cases hbb
            have VS2 := hid (fun (W : World) (h : Below w0.heap.size w0 W) => show RdV W qu qvs from hvs' W h)
            obtain ⟨vo, vcap, rfl, -⟩ := RdV.split (VS2.out wr hnx2)
            have g := hd' wr hnx2
            rw [show off + (i + 1 + k) * 2 = off + (i + 1) * 2 + k * 2 by omega] at g
            obtain ⟨g0, g1⟩ := g
            have hbq := below_alloc wr (.cells #[.int .i64 qid, .slice vo qvs.length vcap] 87)
            have hnx3 := hnx2.trans (hbq.mono hsz2)
            have CR := hid (RA.out rid qid rvs qvs _ _ _ (VS.out _ hnx3) (VS2.out _ hnx3) (by rw [HR1.out.1, HR2.out.1]) (by rw [HR1.out.1]; exact Nat.le_trans h16 (by decide)))
            obtain ⟨sq, hsq⟩ : ∃ sq, rowsS rvs qvs rvs.length = sq := ⟨_, rfl⟩
            rw [hsq] at CR
            have HX := hid (show (P ++ [(sq, rid, qid)]) ++ (((rs.drop (i + 1)).drop (k + 1)).map (trip (rid, Value.slice uo rvs.length ucap, rvs)) ++ seqW (rs.drop (i + 1))) = Q by
              have h := HP4.out
              rw [drop_at hqd, List.map_cons] at h
              rw [← h, ← hsq]
              simp [trip])
            have HPL := hid (show P.length ≤ 40000 by have h := congrArg List.length HP4.out; simp only [List.length_append] at h; have := HQL.out; omega)
            have HDL := hid (show (dedK (P.map (·.1))).length ≤ 40000 by have := dedK_length (P.map (·.1)); rw [List.length_map] at this; have := HPL.out; omega)
            have x0 : (wr.alloc (.cells #[.int .i64 qid, .slice vo qvs.length vcap] 87)).cell? ⟨wr.heap.size, 0, none⟩ = some (.int .i64 qid) := by simp
            have x1 : (wr.alloc (.cells #[.int .i64 qid, .slice vo qvs.length vcap] 87)).cell? ⟨wr.heap.size, 1, none⟩ = some (.slice vo qvs.length vcap) := by simp
            have hlt1 : wo.heap.size < wr.heap.size := World.block_lt_of_cell? _ _ e0'
            have y0 := (hbq.cell (p := ⟨wo.heap.size, 0, none⟩) hlt1).trans e0'
            have y1 := (hbq.cell (p := ⟨wo.heap.size, 1, none⟩) hlt1).trans e1'
            have XX := hid (And.intro (And.intro x0 x1) (And.intro y0 y1))
            have NX3 := hid hnx3
            have OMP := hid (hmap.below hbq)
            have OWN := hid (own_below hown hbq)
            have HULT := hid (fun (j : Nat) (e : u4.ownBlock = some j) => (hown.lt j e).1)
            have HS := hid (show wr.heap.size < (wr.alloc (.cells #[.int .i64 qid, .slice vo qvs.length vcap] 87)).heap.size by simp)
            clear hd' hvs' hq hqd hnx3 hbq hsq hmap hown HP4
            go_wp2_with fail
            refine CR.out.mono ?_
            rintro e w2 ⟨rfl, hb2⟩
            have z0 := (hb2.cell (p := ⟨wr.heap.size, 0, none⟩) HS.out).trans XX.out.1.1
            have z2 := (hb2.cell (p := ⟨wo.heap.size, 0, none⟩) (Nat.lt_trans hlt1 HS.out)).trans XX.out.2.1
            have z3 := (hb2.cell (p := ⟨wo.heap.size, 1, none⟩) (Nat.lt_trans hlt1 HS.out)).trans XX.out.2.2
            have OK3 := hid (OMP.out.below hb2)
            have OW3 := hid (own_below OWN.out hb2)
            have NX4 := hid (NX3.out.trans (hb2.mono NX3.out.size))
            have HS2 := hid (Nat.lt_of_lt_of_le HS.out hb2.size)
            obtain ⟨fa, hfa⟩ : ∃ fa, (firstP P sq).1 = fa := ⟨_, rfl⟩
            obtain ⟨fb, hfb⟩ : ∃ fb, (firstP P sq).2 = fb := ⟨_, rfl⟩
            have HFV := hid (show firstV P sq = .agg #[.int .i64 fa, .int .i64 fb] by unfold firstV; rw [hfa, hfb])
            have ba := below_alloc w2 (.cells #[.int .i64 fa, .int .i64 fb] 139)
            have OKA := hid (OK3.out.below ba)
            have OWA := hid (own_below OW3.out ba)
            have NXA := hid (NX4.out.trans (ba.mono NX4.out.size))
            have za0 := (ba.cell (p := ⟨wr.heap.size, 0, none⟩) HS2.out).trans z0
            have za2 := (ba.cell (p := ⟨wo.heap.size, 0, none⟩) (Nat.lt_trans hlt1 HS2.out)).trans z2
            have za3 := (ba.cell (p := ⟨wo.heap.size, 1, none⟩) (Nat.lt_trans hlt1 HS2.out)).trans z3
            have ZA := hid (And.intro za2 za3)
            clear hfa hfb hb2 ba
            by_cases hmem : sq ∈ dedK (P.map (·.1))
            · have HPP := hid (show decide (sq ∈ dedK (P.map (·.1))) = true by simpa using hmem)
              have HIN := hid (show (sq, rid, qid).1 ∈ P.map (·.1) from mem_dedK.1 hmem)
              clear hmem
              go_wp2_with (at_lookup; refine wpList_glook_ok (E := setKeys (P := Tryz.prog) (k := 55) undSetK) (z := zW2) (f := firstV P) (p := fun s => decide (s ∈ dedK (P.map (·.1)))) (n := P.length) (b := w.heap.size + 1) (e := 139) rfl _ _ 137 rfl undMapW (zeroW2 _) rfl OK3.out sq rfl ?_; rw [HFV.out, HPP.out])
              have hd1 : dedK ((P ++ [(sq, rid, qid)]).map (·.1)) = dedK (P.map (·.1)) := by
                rw [List.map_append, List.map_singleton, dedK_snoc]; unfold dedStep; rw [if_pos (mem_dedK.2 HIN.out)]
              have hm9 : OwnW (w2.alloc (.cells #[.int .i64 fa, .int .i64 fb] 139)) (w.heap.size + 1) (P ++ [(sq, rid, qid)]).length (firstV (P ++ [(sq, rid, qid)])) (fun s => decide (s ∈ dedK ((P ++ [(sq, rid, qid)]).map (·.1)))) :=
                (OKA.out.mono (by simp)).congr (fun s => by unfold firstV; rw [firstP_old HIN.out]) (fun s => by rw [hd1])
              have ho9 : (w2.alloc (.cells #[.int .i64 fa, .int .i64 fb] 139)).ownsRow (w.heap.size + 2) 55 1 u4 (dedK ((P ++ [(sq, rid, qid)]).map (·.1))).length ((dedK ((P ++ [(sq, rid, qid)]).map (·.1))).map enc) := by rw [hd1]; exact OWA.out
              have HM9 := hid hm9
              have HO9 := hid ho9
              clear hm9 ho9 hd1
              go_wp2_with fail
              go_roundw
              case rel => exact ⟨k + 1, P ++ [(sq, rid, qid)], by have := HK2.out; omega, by go_num, HM9.out, HO9.out, HX, NXA.out, ZA.out, HNB⟩
              case measure => have := HK2.out; simp [intOf]; omega
            · have HPP := hid (show decide (sq ∈ dedK (P.map (·.1))) = false by simpa using hmem)
              have HNI := hid (show (sq, rid, qid).1 ∉ P.map (·.1) from fun h => hmem (mem_dedK.2 h))
              clear hmem
              have hnm : w.heap.size + 1 < 9223372036854775807 ∨ True := .inr trivial
              clear hnm
              go_wp2_with (first
                | (at_lookup; refine wpList_glook_ok (E := setKeys (P := Tryz.prog) (k := 55) undSetK) (z := zW2) (f := firstV P) (p := fun s => decide (s ∈ dedK (P.map (·.1)))) (n := P.length) (b := w.heap.size + 1) (e := 139) rfl _ _ 137 rfl undMapW (zeroW2 _) rfl OK3.out sq rfl ?_; rw [HFV.out, HPP.out])
                | (at_mapUpdate; refine wpList_gput (E := setKeys (P := Tryz.prog) (k := 55) undSetK) (e := 139) rfl _ _ _ 137 rfl undMapW rfl OKA.out (by have := HPL.out; unfold maxLen; omega) sq (.agg #[.int .i64 rid, .int .i64 qid]) rfl rfl ?_))
              intro w4 hm4 hg4
              have hwom : some wo.heap.size ≠ some (w.heap.size + 1) := by simp; omega
              have ltA : wo.heap.size < (w2.alloc (.cells #[.int .i64 fa, .int .i64 fb] 139)).heap.size := World.block_lt_of_cell? _ _ za2
              have c4 := (hg4.cell_far ⟨wo.heap.size, 0, none⟩ ltA hwom).trans za2
              have c5 := (hg4.cell_far ⟨wo.heap.size, 1, none⟩ ltA hwom).trans za3
              have ho4 := own_grown2 OWA.out hg4 (show w.heap.size + 1 < w.heap.size + 2 by omega)
              have nx4 : Below w0.heap.size w0 w4 := NXA.out.grown hg4 NXA.out.size (fun j hj => by cases hj; exact Nat.le_of_eq HS0.out)
              have hd1 : dedK ((P ++ [(sq, rid, qid)]).map (·.1)) = dedK (P.map (·.1)) ++ [sq] := by
                rw [List.map_append, List.map_singleton, dedK_snoc]; unfold dedStep; rw [if_neg (fun h => HNI.out (mem_dedK.1 h))]
              have HM4 := hid (show OwnW w4 (w.heap.size + 1) (P ++ [(sq, rid, qid)]).length (firstV (P ++ [(sq, rid, qid)])) (fun s => decide (s ∈ dedK ((P ++ [(sq, rid, qid)]).map (·.1)))) by
                rw [List.length_append, List.length_singleton]
                refine hm4.congr (fun s => ?_) (fun s => ?_)
                · unfold firstV updG
                  rw [firstP_new HNI.out]
                  by_cases e : s = sq
                  · rw [if_pos e, if_pos e]
                  · rw [if_neg e, if_neg e]
                · unfold updG
                  rw [hd1]
                  by_cases e : s = sq
                  · rw [if_pos e]; simp [e]
                  · rw [if_neg e]; simp [e])
              have HD1 := hid hd1
              have HO4 := hid ho4
              have NX5 := hid nx4
              have C45 := hid (And.intro c4 c5)
              have LT4 := hid (World.block_lt_of_cell? _ _ c4)
              have hsz4 : w.heap.size + 2 ≤ w4.heap.size := by have := World.block_lt_of_cell? _ _ c4; simp at this; omega
              clear hm4 hg4 c4 c5 ho4 nx4 hd1 z0 z2 z3 za0 za2 za3
              generalize dedK (P.map (·.1)) = D at *
              go_wp2_with (at_builtin; refine wpList_pushE rfl _ _ 59 rfl (w.heap.size + 2) 55 (.int .u32 0) 4 undSets infoSet rfl (by decide) enc _ D rfl (HO4.out.alloc _) ⟨w4.heap.size, 0, none⟩ sq rfl rfl cell_new (by have := HDL.out; omega) (by simp; omega) ?_)
              intro v5 w5 hown5 hg5 hl5
              have hne5 : some wo.heap.size ≠ u4.ownBlock := fun e => HNB.out e.symm
              have lt5 : wo.heap.size < (w4.alloc (.cells #[.int .u32 (iv sq)] 55)).heap.size := by have := LT4.out; simp at this ⊢; omega
              have b5 := below_alloc w4 (.cells #[.int .u32 (iv sq)] 55)
              have c6 := (hg5.cell_far ⟨wo.heap.size, 0, none⟩ lt5 hne5).trans ((b5.cell (p := ⟨wo.heap.size, 0, none⟩) LT4.out).trans C45.out.1)
              have c7 := (hg5.cell_far ⟨wo.heap.size, 1, none⟩ lt5 hne5).trans ((b5.cell (p := ⟨wo.heap.size, 1, none⟩) LT4.out).trans C45.out.2)
              have hm6 := (HM4.out.below b5).kept hg5 (by
                intro e
                have := HULT.out _ e.symm
                omega)
              have nx6 := below_push NX5.out NX5.out.size (own_mono HO4.out (show w0.heap.size ≤ w.heap.size + 2 by have := HS0.out; omega)) hg5
              have hn6 : v5.ownBlock ≠ some wo.heap.size := by
                rcases hl5 with e | e
                · rw [e]; exact HNB.out
                · rw [e]; intro h; simp at h lt5; omega
              have ho6 : w5.ownsRow (w.heap.size + 2) 55 1 v5 (dedK ((P ++ [(sq, rid, qid)]).map (·.1))).length ((dedK ((P ++ [(sq, rid, qid)]).map (·.1))).map enc) := by rw [HD1.out]; simpa using hown5
              have HM6 := hid hm6
              have HO6 := hid ho6
              have HN6 := hid hn6
              have C67 := hid (And.intro c6 c7)
              have NX6 := hid nx6
              clear hm6 ho6 hn6 c6 c7 nx6 hown5 hg5 hl5 b5 lt5 hne5
              go_wp2_with fail
              go_roundw
              case rel => exact ⟨k + 1, P ++ [(sq, rid, qid)], by have := HK2.out; omega, by go_num, HM6.out, HO6.out, HX, NX6.out, C67.out, HN6⟩
              case measure => have := HK2.out; simp [intOf]; omega
          · have HP9 := hid (show P ++ seqW (rs.drop (i + 1)) = Q by have h := HP4.out; rw [List.drop_eq_nil_of_le (show (rs.drop (i + 1)).length ≤ k by rw [List.length_drop]; have := HN.out; omega)] at h; simpa using h)
            have HLT3 := HLT.out
            have HM7 := hid hmap
            have HO7 := hid hown
            have NX7 := hid hnx2
            clear hmap hown hnx2 HP4
            go_wp2_with fail
            go_roundw
            case rel => exact ⟨i + 1, P, by omega, by go_num, HM7.out, HO7.out, HP9, NX7.out⟩
            case measure => simp [intOf]; omega
    · have HPQ := hid (show P0 = Q by have h := HP.out; rw [List.drop_eq_nil_of_le (by omega)] at h; simpa [seqW] using h)
      rw [HPQ.out] at hmap hown
      have RDD := RdE.of_owns hown (by have := dedK_length (Q.map (·.1)); rw [List.length_map] at this; have := HQL.out; omega)
      have CM := hid (AM.out _ _ _ RDD (by have := dedK_length (Q.map (·.1)); rw [List.length_map] at this; have := HQL.out; omega))
      obtain ⟨do_, dcap, rfl, -⟩ := RDD.split
      have HMP := hid hmap
      have NX := hid hnx
      have HKL := hid (show (keepS upR (dedK (Q.map (·.1)))).length ≤ 40000 by have h1 := keepS_length upR (dedK (Q.map (·.1))); have h2 := dedK_length (Q.map (·.1)); rw [List.length_map] at h2; have := HQL.out; omega)
      clear hmap hown hnx RDD HP
      generalize keepS upR (dedK (Q.map (·.1))) = ms at *
      go_wp2_with fail
      refine CM.out.mono ?_
      rintro e w6 ⟨v6, rfl, ho6, hb6⟩
      have R6 := RdE.of_owns ho6 (by have := HKL.out; omega)
      obtain ⟨mo, mcap, rfl, -, hmc⟩ := R6.split
      have MC := hid hmc
      have HM6 := hid (HMP.out.below hb6)
      have N6 := hid (B0.out.trans ((NX.out.trans (hb6.mono NX.out.size)).mono hsz0))
      have hsz6 : w.heap.size + 2 ≤ w6.heap.size := HM6.out.lt
      have HSZ6 := hid hsz6
      clear ho6 hb6 R6 hmc hsz6
      unfold enc at MC
      go_wp2_with fail
      go_loopw [12, 61] (fun u i wr => ∃ k : Nat, k ≤ ms.length ∧ i = .int .i64 k ∧ wr.ownsRow w6.heap.size 136 3 u ((ms.take k).map fun s => (s, firstP Q s)).length (((ms.take k).map fun s => (s, firstP Q s)).flatMap cW) ∧ Below w6.heap.size w6 wr) (fun _ i _ => ms.length - (intOf i).toNat)
      case atStart => exact ⟨0, Nat.zero_le _, rfl, World.ownsRow_nil _ _ _ _, Below.refl _ _⟩
      case round =>
        obtain ⟨k, hk3, rfl, hown, hnx⟩ := hrel
        have hsz7 := hnx.size
        have k0 : (0 : Int) ≤ (k : Int) := by omega
        by_cases hlt3 : k < ms.length
        · have HLT3 := hid hlt3
          have hkb : k ≤ 40000 := by have := HKL.out; omega
          obtain ⟨x, hx⟩ := get_some hlt3
          obtain ⟨b, off, rfl, hd⟩ := MC.out k x hx
          have e9 := hd wr hnx
          have TN := hid (show ((ms.take (k + 1)).map fun s => (s, firstP Q s)) = ((ms.take k).map fun s => (s, firstP Q s)) ++ [(x, firstP Q x)] by rw [take_next hx, List.map_append]; rfl)
          have hol : ((ms.take k).map fun s => (s, firstP Q s)).length ≤ 40000 := by rw [List.length_map]; exact Nat.le_trans (List.length_take_le' _ _) HKL.out
          have HOL := hid hol
          generalize (ms.take k).map (fun s => (s, firstP Q s)) = out at *
          obtain ⟨fa, hfa⟩ : ∃ fa, (firstP Q x).1 = fa := ⟨_, rfl⟩
          obtain ⟨fb, hfb⟩ : ∃ fb, (firstP Q x).2 = fb := ⟨_, rfl⟩
          have HFV := hid (show firstV Q x = .agg #[.int .i64 fa, .int .i64 fb] by unfold firstV; rw [hfa, hfb])
          have HFX := hid (show firstP Q x = (fa, fb) by rw [← hfa, ← hfb])
          have OK3 := hid (HM6.out.below hnx)
          have OW := hid hown
          have NXR := hid hnx
          have IX0 := index20 fa fb wr
          have IX1 := index21 fa fb wr
          clear hd hx hol hfa hfb hown hnx
          go_wp2_with (first
            | (at_lookup; refine wpList_glook (E := setKeys (P := Tryz.prog) (k := 55) undSetK) (z := zW2) (f := firstV Q) (n := Q.length) (b := w.heap.size + 1) (e := 139) rfl _ _ 137 rfl undMapW (zeroW2 _) rfl OK3.out x rfl ?_; rw [HFV.out])
            | (at_builtin; refine wpList_pushC rfl _ _ 94 rfl w6.heap.size 136 (.agg #[.int .u32 0, .int .i64 0, .int .i64 0]) 3 24 undWs infoW rfl (by decide) (by decide) cW cW_length cW_one _ out rfl (OW.out.alloc _) ⟨wr.heap.size, 0, none⟩ (x, fa, fb) rfl (cells_newW wr (x, fa, fb)) (by have := HOL.out; omega) (by simp; omega) ?_))
          intro v8 w8 hown8 hg8
          have hb8 := below_push NXR.out hsz7 OW.out hg8
          have hown9 : w8.ownsRow w6.heap.size 136 3 v8 (out ++ [(x, firstP Q x)]).length ((out ++ [(x, firstP Q x)]).flatMap cW) := by rw [HFX.out]; simpa using hown8
          rw [← TN.out] at hown9
          have HO9 := hid hown9
          have HB8 := hid hb8
          clear hown8 hg8 hb8 hown9
          go_wp2_with fail
          go_roundw
          case rel => exact ⟨k + 1, by have := HLT3.out; omega, by go_num, HO9.out, HB8.out⟩
          case measure => have := HLT3.out; simp [intOf]; omega
        · rw [take_all hlt3, HRES.out] at hown
          have OF := hid (own_mono hown (show w.heap.size ≤ w6.heap.size by have := HSZ6.out; omega))
          have BF := hid (N6.out.trans (hnx.mono N6.out.size))
          have HLL := hid (show res.length ≤ 40000 by rw [← HRES.out, List.length_map]; exact HKL.out)
          clear hown hnx
          go_wp2_with fail
          go_ret
          exact ⟨_, rfl, OF.out, HLL.out, BF.out⟩

end Go.Proofs.YtgahpgmagfngfaaGreatDoor

