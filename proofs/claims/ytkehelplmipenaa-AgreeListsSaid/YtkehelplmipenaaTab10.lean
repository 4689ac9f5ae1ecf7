/- The agree set of two rows by the reference: the walk of drossref27.Rows. -/
import Derived.Test.YtkehelplmipenaaTab9
import Derived.Test.YtkehelplmipenaaAfter
namespace Go.Proofs.Ytkehelplmipenaa
open Go.RowKit

set_option maxHeartbeats 1600000 in
theorem rows_any (i j : Int) (xs ys : List V3) (u v : Value) (w : World) (hu : RdV w u xs) (hv : RdV w v ys) (hl : ys.length = xs.length) (h32 : xs.length ≤ 32) (hs : ∀ x ∈ xs, x.2.2.size ≤ 200) :
    Calls Try.prog 51 #[.agg #[.int .i64 i, u], .agg #[.int .i64 j, v]] w fun e w' => e = .returned (.int .u32 (iv (rowsS xs ys xs.length))) ∧ Below w.heap.size w w' := by
  have hb1 := below_alloc w (.cells #[.int .i64 i, u] 67)
  have C1 := hid (fun W h => cells2 (w := w) (a := .int .i64 i) (b := u) (t := 67) W h)
  obtain ⟨w1, hw1⟩ : ∃ w1 : World, w.alloc (.cells #[.int .i64 i, u] 67) = w1 := ⟨_, rfl⟩
  rw [hw1] at hb1 C1
  have hs1 : w1.heap.size = w.heap.size + 1 := by rw [← hw1]; simp
  have hb2 := below_alloc w1 (.cells #[.int .i64 j, v] 67)
  have C2 := hid (fun W h => cells2 (w := w1) (a := .int .i64 j) (b := v) (t := 67) W h)
  obtain ⟨w2, hw2⟩ : ∃ w2 : World, w1.alloc (.cells #[.int .i64 j, v] 67) = w2 := ⟨_, rfl⟩
  rw [hw2] at hb2 C2
  have B2 := hid (hb1.trans (hb2.mono hb1.size))
  have CC := hid (fun (W : World) (h : Below w2.heap.size w2 W) => (⟨(C1.out W (hb2.trans (h.mono hb2.size))).2, by have := (C2.out W h).2; rwa [hs1] at this⟩ : W.cell? ⟨w.heap.size, 1, none⟩ = some u ∧ W.cell? ⟨w.heap.size + 1, 1, none⟩ = some v))
  have WW := hid (show (w.alloc (.cells #[.int .i64 i, u] 67)).alloc (.cells #[.int .i64 j, v] 67) = w2 by rw [hw1, hw2])
  have U := hid (RdC.below hu B2.out)
  have V := hid (RdC.below hv B2.out)
  clear hb1 hb2 C1 C2 hw1 hw2 hs1 hu hv
  obtain ⟨uo, ucap, rfl, hul, huc⟩ := RdV.split U.out
  obtain ⟨vo, vcap, rfl, hvl, hvc⟩ := RdV.split V.out
  have UC := hid huc
  have VC := hid hvc
  clear huc hvc
  obtain ⟨c1, d1⟩ := CC.out w2 (Below.refl _ _)
  rw [hl] at CC d1 V WW ⊢
  go_enter Try.func51, Try.ntmps51
  go_wp2_with fail
  rw [WW.out]
  go_wp2_with fail
  go_loopw [5, 6] (fun s i wr => ∃ k : Nat, k ≤ xs.length ∧ i = .int .i64 k ∧ s = .int .u32 (iv (rowsS xs ys k)) ∧ Below w2.heap.size w2 wr) (fun _ i _ => xs.length - (intOf i).toNat)
  case atStart => exact ⟨0, Nat.zero_le _, rfl, rfl, Below.refl _ _⟩
  case round =>
    obtain ⟨k, hk, rfl, rfl, hnx⟩ := hrel
    have hsz := hnx.size
    obtain ⟨c1, d1⟩ := CC.out _ hnx
    by_cases hlt : k < xs.length
    · obtain ⟨x, hx⟩ := get_some hlt
      obtain ⟨y, hy⟩ := get_some (show k < ys.length by omega)
      obtain ⟨b, off, rfl, hd⟩ := UC.out k x hx
      obtain ⟨b', off', rfl, hd'⟩ := VC.out k y hy
      have RS := hid (rowsS_at hx hy)
      have NX := hid hnx
      have hxs := hs x (List.mem_of_getElem? hx)
      have C := hid (fun i : After wr => Calls.after i (cmpV_any x y i.world hxs))
      have g0 : ∀ i : After wr, i.world.cell? ⟨w.heap.size, 1, none⟩ = some (.slice (some ⟨b, off, none⟩) xs.length ucap) := fun i => After.cell c1 i
      have g1 : ∀ i : After wr, i.world.cell? ⟨w.heap.size + 1, 1, none⟩ = some (.slice (some ⟨b', off', none⟩) xs.length vcap) := fun i => After.cell d1 i
      have e0 : ∀ i : After wr, i.world.cell? ⟨b, off + k * 3, none⟩ = some (.int .i64 x.1) := fun i => After.cell (hd wr hnx).1 i
      have e1 : ∀ i : After wr, i.world.cell? ⟨b, off + k * 3 + 1, none⟩ = some (.int .i64 x.2.1) := fun i => After.cell (hd wr hnx).2.1 i
      have e2 : ∀ i : After wr, i.world.cell? ⟨b, off + k * 3 + 2, none⟩ = some (.string x.2.2) := fun i => After.cell (hd wr hnx).2.2 i
      have f0 : ∀ i : After wr, i.world.cell? ⟨b', off' + k * 3, none⟩ = some (.int .i64 y.1) := fun i => After.cell (hd' wr hnx).1 i
      have f1 : ∀ i : After wr, i.world.cell? ⟨b', off' + k * 3 + 1, none⟩ = some (.int .i64 y.2.1) := fun i => After.cell (hd' wr hnx).2.1 i
      have f2 : ∀ i : After wr, i.world.cell? ⟨b', off' + k * 3 + 2, none⟩ = some (.string y.2.2) := fun i => After.cell (hd' wr hnx).2.2 i
      have k0 : (0 : Int) ≤ (k : Int) := by omega
      have k1 : k < 32 := by omega
      have EQ := cmpV_zero x y
      clear hd hd' hx hy hnx hs hxs
      generalize cmpV x y = c at *
      cases hq : eqV x y with
      | true =>
        rw [hq, if_pos rfl] at RS
        rw [hq] at EQ
        have hc : (c == 0) = true := by simpa using EQ
        clear hq
        go_wp2_with fail
        refine wp_region_after (by kernel_rfl) (by kernel_rfl) ?_
        repeat (any_goals (quiet_step (exact C.out _)))
        refine wpQuiet_nil ?_
        intro wq hbq
        have BQ := hid (NX.out.trans (hbq.mono hsz))
        clear hbq
        go_wp2_with fail
        go_roundw
        case rel => exact ⟨k + 1, by omega, by go_num, by rw [RS.out], BQ.out⟩
        case measure => simp [intOf]; omega
      | false =>
        rw [hq, if_neg (by simp)] at RS
        rw [hq] at EQ
        have hc : (c == 0) = false := by simpa using EQ
        clear hq
        go_wp2_with fail
        refine wp_region_after (by kernel_rfl) (by kernel_rfl) ?_
        repeat (any_goals (quiet_step (exact C.out _)))
        refine wpQuiet_nil ?_
        intro wq hbq
        have BQ := hid (NX.out.trans (hbq.mono hsz))
        clear hbq
        go_wp2_with fail
        go_roundw
        case rel => exact ⟨k + 1, by omega, by go_num, by rw [RS.out], BQ.out⟩
        case measure => simp [intOf]; omega
    · have hk2 : k = xs.length := by omega
      have HN := hid hnx
      clear hnx
      go_wp2_with fail
      go_ret
      exact ⟨by rw [hk2]; rfl, B2.out.trans (HN.out.mono B2.out.size)⟩

end Go.Proofs.Ytkehelplmipenaa
