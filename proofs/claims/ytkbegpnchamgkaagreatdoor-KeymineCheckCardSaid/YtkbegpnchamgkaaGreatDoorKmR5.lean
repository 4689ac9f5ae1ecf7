/- The walk of the reference of chapter 29: Right. -/
import Derived.Test.YtkbegpnchamgkaaGreatDoorGKm3
import Derived.Test.YtkbegpnchamgkaaGreatDoorGSort
import Derived.Test.YtkbegpnchamgkaaGreatDoorGKm2
namespace Go.Proofs.YtkbegpnchamgkaaGreatDoor
open Go.RowKit
set_option linter.unusedVariables false

attribute [local irreducible] Go.wpQuiet
set_option maxHeartbeats 3200000 in
set_option maxRecDepth 100000 in
theorem rkright_any (t : T3) (av rv : Value) (x : W3) (w : World) (ht : RdT w av rv t) (hk : tabE2 t = 0) :
    Calls Tryz.prog 49 #[.agg #[.string t.1, av, rv], .agg #[.int .u32 (iv x.1), .int .i64 x.2.1, .int .i64 x.2.2]] w fun e w' => e = .returned (.bool (rgtB t x)) ∧ Below w.heap.size w w' := by
  have hb0 := below_alloc w (.cells #[.string t.1, av, rv] 28)
  have C3 := hid (fun W h => cells3 (w := w) (a := .string t.1) (b := av) (c := rv) (t := 28) W h)
  have T0 := hid (ht.below hb0)
  obtain ⟨w0, hw0⟩ : ∃ w0 : World, w.alloc (.cells #[.string t.1, av, rv] 28) = w0 := ⟨_, rfl⟩
  rw [hw0] at hb0 C3 T0
  have B0 := hid hb0
  have W0 := hid hw0
  have hsz0 := hb0.size
  clear hb0 hw0
  have hb1 := below_alloc w0 (.cells #[.int .u32 (iv x.1), .int .i64 x.2.1, .int .i64 x.2.2] 60)
  have D3 := hid (fun W h => cells3 (w := w0) (a := .int .u32 (iv x.1)) (b := .int .i64 x.2.1) (c := .int .i64 x.2.2) (t := 60) W h)
  have HS := hid (show w0.heap.size = w.heap.size + 1 by rw [← W0.out]; simp)
  obtain ⟨w1, hw1⟩ : ∃ w1 : World, w0.alloc (.cells #[.int .u32 (iv x.1), .int .i64 x.2.1, .int .i64 x.2.2] 60) = w1 := ⟨_, rfl⟩
  rw [hw1] at hb1 D3
  have B1 := hid hb1
  have W1 := hid hw1
  have T1 := hid (T0.out.below hb1)
  have hs1 := hb1.size
  obtain ⟨h16, h200, hrows⟩ := tabE2_ok hk
  have FI := hid (fun (id : Int) (W : World) (h : Below w1.heap.size w1 W) => rfind_any t av rv id W (T1.out.below h))
  have RG := hid (show rgtB t x = match fnd t.2.2 x.2.1, fnd t.2.2 x.2.2 with
    | some i, some k => decide (x.2.1 < x.2.2) && shrOk x.1 t.2.1.length && (x.1 &&& ~~~ rowsS (rowAt t.2.2 i) (rowAt t.2.2 k) t.2.1.length == 0#32)
    | _, _ => false from rfl)
  have FA := hid (FI.out x.2.1)
  have FB := hid (FI.out x.2.2)
  obtain ⟨rg, hrg⟩ : ∃ rg, rgtB t x = rg := ⟨_, rfl⟩
  rw [hrg]
  rw [hrg] at RG
  clear hrg
  obtain ⟨nm, ats, rs⟩ := t
  replace h16 : ats.length ≤ 16 := h16
  have HR := hid (show ∀ r ∈ rs, r.2.2.length = ats.length ∧ ∀ x ∈ r.2.2, x.2.2.size ≤ 200 from hrows)
  have GA := hid (fun (k : Nat) (h : fnd rs x.2.1 = some k) => fnd_get h)
  have GB := hid (fun (k : Nat) (h : fnd rs x.2.2 = some k) => fnd_get h)
  simp only at RG FA FB
  obtain ⟨xs, xa, xb⟩ := x
  simp only at RG FA FB GA GB D3 W1
  obtain ⟨ao, acap, hva, -⟩ := T1.out.1.split
  obtain ⟨ro, rcap, hvr, hrl, hrc⟩ := RdR.split T1.out.2
  simp only at hva hvr
  subst hva hvr
  have RC := hid hrc
  have TC := hid (fun (W : World) (h : Below w1.heap.size w1 W) => C3.out W (B1.out.trans (h.mono hs1)))
  obtain ⟨t00, t01, t02⟩ := TC.out _ (Below.refl _ _)
  obtain ⟨d00, d01, d02⟩ := D3.out _ (Below.refl _ _)
  rw [HS.out] at d00 d01 d02
  have DC := hid (fun (W : World) (h : Below w1.heap.size w1 W) => show W.cell? ⟨w.heap.size + 1, 0, none⟩ = some (.int .u32 (iv xs)) ∧ W.cell? ⟨w.heap.size + 1, 1, none⟩ = some (.int .i64 xa) ∧ W.cell? ⟨w.heap.size + 1, 2, none⟩ = some (.int .i64 xb) by rw [← HS.out]; exact D3.out W h)
  clear ht hk hrows hrc hb1 hw1 h200 D3 FI
  cases hA : fnd rs xa with
  | none =>
    rw [hA] at FA RG
    replace FA := hid (fun (W : World) (h : Below w1.heap.size w1 W) => show Calls _ _ _ W fun e w' => e = .returned (.tuple #[.int .i64 0, .bool false]) ∧ Below W.heap.size W w' from FA.out W h)
    have RF := hid (show rg = false from RG.out)
    clear RG hA GA GB
    cases hB : fnd rs xb with
    | none =>
      rw [hB] at FB
      replace FB := hid (fun (W : World) (h : Below w1.heap.size w1 W) => show Calls _ _ _ W fun e w' => e = .returned (.tuple #[.int .i64 0, .bool false]) ∧ Below W.heap.size W w' from FB.out W h)
      clear hB
      go_enter Tryz.func49, Tryz.ntmps49
      go_wp2_with fail
      rw [W0.out]
      go_wp2_with fail
      rw [W1.out]
      go_wp2_with fail
      refine (FA.out _ (Below.refl _ _)).mono ?_
      rintro e w2 ⟨rfl, hb2⟩
      have D2 := hid hb2
      obtain ⟨t10, t11, t12⟩ := TC.out _ hb2
      obtain ⟨d10, d11, d12⟩ := DC.out _ hb2
      have hs2 := hb2.size
      clear hb2 t00 t01 t02 d00 d01 d02
      go_wp2_with fail
      refine (FB.out _ D2.out).mono ?_
      rintro e w3 ⟨rfl, hb3⟩
      have D3 := hid (D2.out.trans (hb3.mono hs2))
      have m0 : ∀ z : After w3, z.world.cell? ⟨w.heap.size, 0, none⟩ = some (.string nm) := fun z => After.cell (TC.out _ D3.out).1 z
      have m1 : ∀ z : After w3, z.world.cell? ⟨w.heap.size, 1, none⟩ = some (.slice ao ats.length acap) := fun z => After.cell (TC.out _ D3.out).2.1 z
      have m2 : ∀ z : After w3, z.world.cell? ⟨w.heap.size, 2, none⟩ = some (.slice ro rs.length rcap) := fun z => After.cell (TC.out _ D3.out).2.2 z
      have n0 : ∀ z : After w3, z.world.cell? ⟨w.heap.size + 1, 0, none⟩ = some (.int .u32 (iv xs)) := fun z => After.cell (DC.out _ D3.out).1 z
      have n1 : ∀ z : After w3, z.world.cell? ⟨w.heap.size + 1, 1, none⟩ = some (.int .i64 xa) := fun z => After.cell (DC.out _ D3.out).2.1 z
      have n2 : ∀ z : After w3, z.world.cell? ⟨w.heap.size + 1, 2, none⟩ = some (.int .i64 xb) := fun z => After.cell (DC.out _ D3.out).2.2 z
      clear hb3 t10 t11 t12 d10 d11 d12
      go_wp2_with fail
      refine wp_region_after (by kernel_rfl) (by kernel_rfl) ?_
      repeat (any_goals (quiet_step (fail)))
      refine wpQuiet_nil ?_
      intro wq hbq
      have BQ := hid (B0.out.trans ((B1.out.trans ((D3.out.trans (hbq.mono D3.out.size)).mono hs1)).mono hsz0))
      clear hbq
      go_wp2_with fail
      go_ret
      exact ⟨by rw [RF.out]; rfl, BQ.out⟩
    | some k =>
      rw [hB] at FB
      replace FB := hid (fun (W : World) (h : Below w1.heap.size w1 W) => show Calls _ _ _ W fun e w' => e = .returned (.tuple #[.int .i64 (k : Int), .bool true]) ∧ Below W.heap.size W w' from FB.out W h)
      clear hB
      go_enter Tryz.func49, Tryz.ntmps49
      go_wp2_with fail
      rw [W0.out]
      go_wp2_with fail
      rw [W1.out]
      go_wp2_with fail
      refine (FA.out _ (Below.refl _ _)).mono ?_
      rintro e w2 ⟨rfl, hb2⟩
      have D2 := hid hb2
      obtain ⟨t10, t11, t12⟩ := TC.out _ hb2
      obtain ⟨d10, d11, d12⟩ := DC.out _ hb2
      have hs2 := hb2.size
      clear hb2 t00 t01 t02 d00 d01 d02
      go_wp2_with fail
      refine (FB.out _ D2.out).mono ?_
      rintro e w3 ⟨rfl, hb3⟩
      have D3 := hid (D2.out.trans (hb3.mono hs2))
      have m0 : ∀ z : After w3, z.world.cell? ⟨w.heap.size, 0, none⟩ = some (.string nm) := fun z => After.cell (TC.out _ D3.out).1 z
      have m1 : ∀ z : After w3, z.world.cell? ⟨w.heap.size, 1, none⟩ = some (.slice ao ats.length acap) := fun z => After.cell (TC.out _ D3.out).2.1 z
      have m2 : ∀ z : After w3, z.world.cell? ⟨w.heap.size, 2, none⟩ = some (.slice ro rs.length rcap) := fun z => After.cell (TC.out _ D3.out).2.2 z
      have n0 : ∀ z : After w3, z.world.cell? ⟨w.heap.size + 1, 0, none⟩ = some (.int .u32 (iv xs)) := fun z => After.cell (DC.out _ D3.out).1 z
      have n1 : ∀ z : After w3, z.world.cell? ⟨w.heap.size + 1, 1, none⟩ = some (.int .i64 xa) := fun z => After.cell (DC.out _ D3.out).2.1 z
      have n2 : ∀ z : After w3, z.world.cell? ⟨w.heap.size + 1, 2, none⟩ = some (.int .i64 xb) := fun z => After.cell (DC.out _ D3.out).2.2 z
      clear hb3 t10 t11 t12 d10 d11 d12
      go_wp2_with fail
      refine wp_region_after (by kernel_rfl) (by kernel_rfl) ?_
      repeat (any_goals (quiet_step (fail)))
      refine wpQuiet_nil ?_
      intro wq hbq
      have BQ := hid (B0.out.trans ((B1.out.trans ((D3.out.trans (hbq.mono D3.out.size)).mono hs1)).mono hsz0))
      clear hbq
      go_wp2_with fail
      go_ret
      exact ⟨by rw [RF.out]; rfl, BQ.out⟩
  | some i =>
    rw [hA] at FA RG
    replace FA := hid (fun (W : World) (h : Below w1.heap.size w1 W) => show Calls _ _ _ W fun e w' => e = .returned (.tuple #[.int .i64 (i : Int), .bool true]) ∧ Below W.heap.size W w' from FA.out W h)
    cases hB : fnd rs xb with
    | none =>
      rw [hB] at FB RG
      replace FB := hid (fun (W : World) (h : Below w1.heap.size w1 W) => show Calls _ _ _ W fun e w' => e = .returned (.tuple #[.int .i64 0, .bool false]) ∧ Below W.heap.size W w' from FB.out W h)
      have RF := hid (show rg = false from RG.out)
      clear hB hA RG GA GB
      go_enter Tryz.func49, Tryz.ntmps49
      go_wp2_with fail
      rw [W0.out]
      go_wp2_with fail
      rw [W1.out]
      go_wp2_with fail
      refine (FA.out _ (Below.refl _ _)).mono ?_
      rintro e w2 ⟨rfl, hb2⟩
      have D2 := hid hb2
      obtain ⟨t10, t11, t12⟩ := TC.out _ hb2
      obtain ⟨d10, d11, d12⟩ := DC.out _ hb2
      have hs2 := hb2.size
      clear hb2 t00 t01 t02 d00 d01 d02
      go_wp2_with fail
      refine (FB.out _ D2.out).mono ?_
      rintro e w3 ⟨rfl, hb3⟩
      have D3 := hid (D2.out.trans (hb3.mono hs2))
      have m0 : ∀ z : After w3, z.world.cell? ⟨w.heap.size, 0, none⟩ = some (.string nm) := fun z => After.cell (TC.out _ D3.out).1 z
      have m1 : ∀ z : After w3, z.world.cell? ⟨w.heap.size, 1, none⟩ = some (.slice ao ats.length acap) := fun z => After.cell (TC.out _ D3.out).2.1 z
      have m2 : ∀ z : After w3, z.world.cell? ⟨w.heap.size, 2, none⟩ = some (.slice ro rs.length rcap) := fun z => After.cell (TC.out _ D3.out).2.2 z
      have n0 : ∀ z : After w3, z.world.cell? ⟨w.heap.size + 1, 0, none⟩ = some (.int .u32 (iv xs)) := fun z => After.cell (DC.out _ D3.out).1 z
      have n1 : ∀ z : After w3, z.world.cell? ⟨w.heap.size + 1, 1, none⟩ = some (.int .i64 xa) := fun z => After.cell (DC.out _ D3.out).2.1 z
      have n2 : ∀ z : After w3, z.world.cell? ⟨w.heap.size + 1, 2, none⟩ = some (.int .i64 xb) := fun z => After.cell (DC.out _ D3.out).2.2 z
      clear hb3 t10 t11 t12 d10 d11 d12
      go_wp2_with fail
      refine wp_region_after (by kernel_rfl) (by kernel_rfl) ?_
      repeat (any_goals (quiet_step (fail)))
      refine wpQuiet_nil ?_
      intro wq hbq
      have BQ := hid (B0.out.trans ((B1.out.trans ((D3.out.trans (hbq.mono D3.out.size)).mono hs1)).mono hsz0))
      clear hbq
      go_wp2_with fail
      go_ret
      exact ⟨by rw [RF.out]; rfl, BQ.out⟩
    | some k =>
      rw [hB] at FB RG
      replace FB := hid (fun (W : World) (h : Below w1.heap.size w1 W) => show Calls _ _ _ W fun e w' => e = .returned (.tuple #[.int .i64 (k : Int), .bool true]) ∧ Below W.heap.size W w' from FB.out W h)
      obtain ⟨⟨r1, u1, vs1⟩, hr1, -⟩ := GA.out i hA
      obtain ⟨⟨r2, u2, vs2⟩, hr2, -⟩ := GB.out k hB
      replace RG := hid (show rg = (decide (xa < xb) && shrOk xs ats.length && (xs &&& ~~~ rowsS (rowAt rs i) (rowAt rs k) ats.length == 0#32)) from RG.out)
      rw [rowAt_at hr1, rowAt_at hr2] at RG
      replace RG := hid (show rg = (decide (xa < xb) && shrOk xs ats.length && (xs &&& ~~~ rowsS vs1 vs2 ats.length == 0#32)) from RG.out)
      have L1 : vs1.length = ats.length := (HR.out _ (List.mem_of_getElem? hr1)).1
      have S1 := (HR.out _ (List.mem_of_getElem? hr1)).2
      have L2 : vs2.length = ats.length := (HR.out _ (List.mem_of_getElem? hr2)).1
      obtain ⟨⟨b, off, rfl, hd1⟩, hv1⟩ := RC.out i _ hr1
      obtain ⟨⟨b', off', hbb, hd2⟩, hv2⟩ := RC.out k _ hr2
      cases hbb
      have i0 : (0 : Int) ≤ (i : Int) := by omega
      have k0 : (0 : Int) ≤ (k : Int) := by omega
      have i1 : (i : Int) < (rs.length : Int) := by have := (List.getElem?_eq_some_iff.1 hr1).1; omega
      have k1 : (k : Int) < (rs.length : Int) := by have := (List.getElem?_eq_some_iff.1 hr2).1; omega
      have R1 := hid (fun (W : World) (h : Below w1.heap.size w1 W) => show W.cell? ⟨b, off + i * 2, none⟩ = some (.int .i64 r1) ∧ W.cell? ⟨b, off + i * 2 + 1, none⟩ = some u1 from hd1 W h)
      have R2 := hid (fun (W : World) (h : Below w1.heap.size w1 W) => show W.cell? ⟨b, off + k * 2, none⟩ = some (.int .i64 r2) ∧ W.cell? ⟨b, off + k * 2 + 1, none⟩ = some u2 from hd2 W h)
      have KA := hid (fun (W : World) (h : Below w1.heap.size w1 W) => ragree_any r1 r2 vs1 vs2 u1 u2 xs W (show RdV W u1 vs1 from hv1 W h) (show RdV W u2 vs2 from hv2 W h) (by rw [L1, L2]) (by omega) S1)
      have FU := hid (fun (W : World) => full_any (ats.length : Int) W)
      rw [Int.toNat_natCast, show min ats.length 32 = ats.length by omega] at FU
      have SB := hid (fun (W : World) => sub_any xs (fullN ats.length) W)
      have SE : shrOk xs ats.length = decide (sub xs (fullN ats.length)) := by
        rw [Bool.eq_iff_iff, decide_eq_true_iff]; exact shrOk_sub (by omega)
      have AE := hid (fun (h : sub xs (fullN ats.length)) => show (xs &&& ~~~ rowsS vs1 vs2 ats.length == 0#32) = agB vs1 vs2 xs by
        rw [Bool.eq_iff_iff, beq_iff_eq, andNot_zero_iff, agB_sub L1 L2 (by omega) h])
      rw [SE] at RG
      unfold enc at FU SB
      generalize rowsS vs1 vs2 ats.length = ag at *
      generalize agB vs1 vs2 xs = ab at *
      generalize fullN ats.length = fu at *
      clear hB hA GA GB hr1 hr2 hd1 hd2 hv1 hv2 L1 L2 S1 SE
      cases hlt : decide (xa < xb) with
      | false =>
        have RF := hid (show rg = false by rw [RG.out, hlt]; rfl)
        clear RG
        go_enter Tryz.func49, Tryz.ntmps49
        go_wp2_with fail
        rw [W0.out]
        go_wp2_with fail
        rw [W1.out]
        go_wp2_with fail
        refine (FA.out _ (Below.refl _ _)).mono ?_
        rintro e w2 ⟨rfl, hb2⟩
        have D2 := hid hb2
        obtain ⟨t10, t11, t12⟩ := TC.out _ hb2
        obtain ⟨d10, d11, d12⟩ := DC.out _ hb2
        have hs2 := hb2.size
        clear hb2 t00 t01 t02 d00 d01 d02
        go_wp2_with fail
        refine (FB.out _ D2.out).mono ?_
        rintro e w3 ⟨rfl, hb3⟩
        have D3 := hid (D2.out.trans (hb3.mono hs2))
        have m0 : ∀ z : After w3, z.world.cell? ⟨w.heap.size, 0, none⟩ = some (.string nm) := fun z => After.cell (TC.out _ D3.out).1 z
        have m1 : ∀ z : After w3, z.world.cell? ⟨w.heap.size, 1, none⟩ = some (.slice ao ats.length acap) := fun z => After.cell (TC.out _ D3.out).2.1 z
        have m2 : ∀ z : After w3, z.world.cell? ⟨w.heap.size, 2, none⟩ = some (.slice (some ⟨b, off, none⟩) rs.length rcap) := fun z => After.cell (TC.out _ D3.out).2.2 z
        have n0 : ∀ z : After w3, z.world.cell? ⟨w.heap.size + 1, 0, none⟩ = some (.int .u32 (iv xs)) := fun z => After.cell (DC.out _ D3.out).1 z
        have n1 : ∀ z : After w3, z.world.cell? ⟨w.heap.size + 1, 1, none⟩ = some (.int .i64 xa) := fun z => After.cell (DC.out _ D3.out).2.1 z
        have n2 : ∀ z : After w3, z.world.cell? ⟨w.heap.size + 1, 2, none⟩ = some (.int .i64 xb) := fun z => After.cell (DC.out _ D3.out).2.2 z
        clear hb3 t10 t11 t12 d10 d11 d12
        go_wp2_with fail
        refine wp_region_after (by kernel_rfl) (by kernel_rfl) ?_
        repeat (any_goals (quiet_step (fail)))
        refine wpQuiet_nil ?_
        intro wq hbq
        have BQ := hid (B0.out.trans ((B1.out.trans ((D3.out.trans (hbq.mono D3.out.size)).mono hs1)).mono hsz0))
        clear hbq
        go_wp2_with fail
        go_ret
        exact ⟨by rw [RF.out]; rfl, BQ.out⟩
      | true =>
        by_cases hsh : sub xs fu
        · have AE2 := AE.out hsh
          have RF := hid (show rg = ab by rw [RG.out, hlt, decide_eq_true hsh, AE2]; rfl)
          rw [decide_eq_true hsh] at SB
          clear RG AE AE2 hsh
          go_enter Tryz.func49, Tryz.ntmps49
          go_wp2_with fail
          rw [W0.out]
          go_wp2_with fail
          rw [W1.out]
          go_wp2_with fail
          refine (FA.out _ (Below.refl _ _)).mono ?_
          rintro e w2 ⟨rfl, hb2⟩
          have D2 := hid hb2
          obtain ⟨t10, t11, t12⟩ := TC.out _ hb2
          obtain ⟨d10, d11, d12⟩ := DC.out _ hb2
          have hs2 := hb2.size
          clear hb2 t00 t01 t02 d00 d01 d02
          go_wp2_with fail
          refine (FB.out _ D2.out).mono ?_
          rintro e w3 ⟨rfl, hb3⟩
          have D3 := hid (D2.out.trans (hb3.mono hs2))
          have m0 : ∀ z : After w3, z.world.cell? ⟨w.heap.size, 0, none⟩ = some (.string nm) := fun z => After.cell (TC.out _ D3.out).1 z
          have m1 : ∀ z : After w3, z.world.cell? ⟨w.heap.size, 1, none⟩ = some (.slice ao ats.length acap) := fun z => After.cell (TC.out _ D3.out).2.1 z
          have m2 : ∀ z : After w3, z.world.cell? ⟨w.heap.size, 2, none⟩ = some (.slice (some ⟨b, off, none⟩) rs.length rcap) := fun z => After.cell (TC.out _ D3.out).2.2 z
          have n0 : ∀ z : After w3, z.world.cell? ⟨w.heap.size + 1, 0, none⟩ = some (.int .u32 (iv xs)) := fun z => After.cell (DC.out _ D3.out).1 z
          have n1 : ∀ z : After w3, z.world.cell? ⟨w.heap.size + 1, 1, none⟩ = some (.int .i64 xa) := fun z => After.cell (DC.out _ D3.out).2.1 z
          have n2 : ∀ z : After w3, z.world.cell? ⟨w.heap.size + 1, 2, none⟩ = some (.int .i64 xb) := fun z => After.cell (DC.out _ D3.out).2.2 z
          have p0 : ∀ z : After w3, z.world.cell? ⟨b, off + i * 2, none⟩ = some (.int .i64 r1) := fun z => After.cell (R1.out _ D3.out).1 z
          have p1 : ∀ z : After w3, z.world.cell? ⟨b, off + i * 2 + 1, none⟩ = some u1 := fun z => After.cell (R1.out _ D3.out).2 z
          have q0 : ∀ z : After w3, z.world.cell? ⟨b, off + k * 2, none⟩ = some (.int .i64 r2) := fun z => After.cell (R2.out _ D3.out).1 z
          have q1 : ∀ z : After w3, z.world.cell? ⟨b, off + k * 2 + 1, none⟩ = some u2 := fun z => After.cell (R2.out _ D3.out).2 z
          have CA := hid (fun z : After w3 => Calls.after z (KA.out z.world (D3.out.trans (z.below.mono D3.out.size))))
          have FUA := hid (fun z : After w3 => Calls.after_same z (FU.out z.world))
          have SBA := hid (fun z : After w3 => Calls.after_same z (SB.out z.world))
          clear hb3 t10 t11 t12 d10 d11 d12
          go_wp2_with fail
          refine wp_region_after (by kernel_rfl) (by kernel_rfl) ?_
          repeat (any_goals (quiet_step (first | exact FUA.out _ | exact SBA.out _ | exact CA.out _)))
          refine wpQuiet_nil ?_
          intro wq hbq
          have BQ := hid (B0.out.trans ((B1.out.trans ((D3.out.trans (hbq.mono D3.out.size)).mono hs1)).mono hsz0))
          clear hbq
          go_wp2_with fail
          go_ret
          exact ⟨by rw [RF.out]; rfl, BQ.out⟩
        · have RF := hid (show rg = false by rw [RG.out, hlt, decide_eq_false hsh]; rfl)
          rw [decide_eq_false hsh] at SB
          clear RG AE hsh
          go_enter Tryz.func49, Tryz.ntmps49
          go_wp2_with fail
          rw [W0.out]
          go_wp2_with fail
          rw [W1.out]
          go_wp2_with fail
          refine (FA.out _ (Below.refl _ _)).mono ?_
          rintro e w2 ⟨rfl, hb2⟩
          have D2 := hid hb2
          obtain ⟨t10, t11, t12⟩ := TC.out _ hb2
          obtain ⟨d10, d11, d12⟩ := DC.out _ hb2
          have hs2 := hb2.size
          clear hb2 t00 t01 t02 d00 d01 d02
          go_wp2_with fail
          refine (FB.out _ D2.out).mono ?_
          rintro e w3 ⟨rfl, hb3⟩
          have D3 := hid (D2.out.trans (hb3.mono hs2))
          have m0 : ∀ z : After w3, z.world.cell? ⟨w.heap.size, 0, none⟩ = some (.string nm) := fun z => After.cell (TC.out _ D3.out).1 z
          have m1 : ∀ z : After w3, z.world.cell? ⟨w.heap.size, 1, none⟩ = some (.slice ao ats.length acap) := fun z => After.cell (TC.out _ D3.out).2.1 z
          have m2 : ∀ z : After w3, z.world.cell? ⟨w.heap.size, 2, none⟩ = some (.slice (some ⟨b, off, none⟩) rs.length rcap) := fun z => After.cell (TC.out _ D3.out).2.2 z
          have n0 : ∀ z : After w3, z.world.cell? ⟨w.heap.size + 1, 0, none⟩ = some (.int .u32 (iv xs)) := fun z => After.cell (DC.out _ D3.out).1 z
          have n1 : ∀ z : After w3, z.world.cell? ⟨w.heap.size + 1, 1, none⟩ = some (.int .i64 xa) := fun z => After.cell (DC.out _ D3.out).2.1 z
          have n2 : ∀ z : After w3, z.world.cell? ⟨w.heap.size + 1, 2, none⟩ = some (.int .i64 xb) := fun z => After.cell (DC.out _ D3.out).2.2 z
          have FUA := hid (fun z : After w3 => Calls.after_same z (FU.out z.world))
          have SBA := hid (fun z : After w3 => Calls.after_same z (SB.out z.world))
          clear hb3 t10 t11 t12 d10 d11 d12
          go_wp2_with fail
          refine wp_region_after (by kernel_rfl) (by kernel_rfl) ?_
          repeat (any_goals (quiet_step (first | exact FUA.out _ | exact SBA.out _)))
          refine wpQuiet_nil ?_
          intro wq hbq
          have BQ := hid (B0.out.trans ((B1.out.trans ((D3.out.trans (hbq.mono D3.out.size)).mono hs1)).mono hsz0))
          clear hbq
          go_wp2_with fail
          go_ret
          exact ⟨by rw [RF.out]; rfl, BQ.out⟩

end Go.Proofs.YtkbegpnchamgkaaGreatDoor
