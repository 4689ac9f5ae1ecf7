/- Texts that belong together, in one file. -/
import Derived.Test.YtalejolehccclaaGreatDoorGKm2
import Derived.Test.YtalejolehccclaaGreatDoorGWalk
import Derived.Deep.QuietTactic
import Derived.BigQuiet
/- The walk of keymine's right. -/
namespace Go.Proofs.YtalejolehccclaaGreatDoor
open Go.RowKit
set_option linter.unusedVariables false

def rowAt (rs : List Row3) (i : Nat) : List V3 := ((rs[i]?).map (·.2.2)).getD []
theorem rowAt_at {rs : List Row3} {i : Nat} {r : Row3} (h : rs[i]? = some r) : rowAt rs i = r.2.2 := by unfold rowAt; rw [h]; rfl
def shrOk (s : S) (n : Nat) : Bool := s >>> n == 0#32
def rgtB (t : T3) (x : W3) : Bool := match fnd t.2.2 x.2.1, fnd t.2.2 x.2.2 with
  | some i, some k => decide (x.2.1 < x.2.2) && shrOk x.1 t.2.1.length && (x.1 &&& ~~~ rowsS (rowAt t.2.2 i) (rowAt t.2.2 k) t.2.1.length == 0#32)
  | _, _ => false

attribute [local irreducible] Go.wpQuiet
set_option maxHeartbeats 3200000 in
set_option maxRecDepth 100000 in
theorem kright_any (t : T3) (av rv : Value) (x : W3) (w : World) (ht : RdT w av rv t) (hk : tabE2 t = 0) :
    Calls Tryz.prog 48 #[.agg #[.string t.1, av, rv], .agg #[.int .u32 (iv x.1), .int .i64 x.2.1, .int .i64 x.2.2]] w fun e w' => e = .returned (.bool (rgtB t x)) ∧ Below w.heap.size w w' := by
  have hb0 := below_alloc w (.cells #[.string t.1, av, rv] 32)
  have C3 := hid (fun W h => cells3 (w := w) (a := .string t.1) (b := av) (c := rv) (t := 32) W h)
  have T0 := hid (ht.below hb0)
  obtain ⟨w0, hw0⟩ : ∃ w0 : World, w.alloc (.cells #[.string t.1, av, rv] 32) = w0 := ⟨_, rfl⟩
  rw [hw0] at hb0 C3 T0
  have B0 := hid hb0
  have W0 := hid hw0
  have hsz0 := hb0.size
  clear hb0 hw0
  have hb1 := below_alloc w0 (.cells #[.int .u32 (iv x.1), .int .i64 x.2.1, .int .i64 x.2.2] 60)
  have D3 := hid (fun W h => cells3 (w := w0) (a := .int .u32 (iv x.1)) (b := .int .i64 x.2.1) (c := .int .i64 x.2.2) (t := 60) W h)
  have HS := hid (show w0.heap.size = w.heap.size + 1 by rw [← W0.out]; simp)
  obtain ⟨w1, hw1⟩ : ∃ w1 : World, w0.alloc (.cells #[.int .u32 (iv x.1), .int .i64 x.2.1, .int .i64 x.2.2] 60) = w1 := ⟨_, rfl⟩
  rw [hw1] at hb1 D3
  have B1 := hid hb1
  have W1 := hid hw1
  have T1 := hid (T0.out.below hb1)
  have hs1 := hb1.size
  obtain ⟨h16, h200, hrows⟩ := tabE2_ok hk
  have FI := hid (fun (id : Int) (W : World) (h : Below w1.heap.size w1 W) => find_any t av rv id W (T1.out.below h))
  have RG := hid (show rgtB t x = match fnd t.2.2 x.2.1, fnd t.2.2 x.2.2 with
    | some i, some k => decide (x.2.1 < x.2.2) && shrOk x.1 t.2.1.length && (x.1 &&& ~~~ rowsS (rowAt t.2.2 i) (rowAt t.2.2 k) t.2.1.length == 0#32)
    | _, _ => false from rfl)
  have FA := hid (FI.out x.2.1)
  have FB := hid (FI.out x.2.2)
  obtain ⟨rg, hrg⟩ : ∃ rg, rgtB t x = rg := ⟨_, rfl⟩
  rw [hrg]
  rw [hrg] at RG
  clear hrg
  obtain ⟨nm, ats, rs⟩ := t
  replace h16 : ats.length ≤ 16 := h16
  have HR := hid (show ∀ r ∈ rs, r.2.2.length = ats.length from fun r hr => (hrows r hr).1)
  have GA := hid (fun (k : Nat) (h : fnd rs x.2.1 = some k) => fnd_get h)
  have GB := hid (fun (k : Nat) (h : fnd rs x.2.2 = some k) => fnd_get h)
  simp only at RG FA FB
  obtain ⟨xs, xa, xb⟩ := x
  simp only at RG FA FB GA GB D3 W1
  obtain ⟨ao, acap, hva, -⟩ := T1.out.1.split
  obtain ⟨ro, rcap, hvr, hrl, hrc⟩ := RdR.split T1.out.2
  simp only at hva hvr
  subst hva hvr
  have RC := hid hrc
  have TC := hid (fun (W : World) (h : Below w1.heap.size w1 W) => C3.out W (B1.out.trans (h.mono hs1)))
  obtain ⟨t00, t01, t02⟩ := TC.out _ (Below.refl _ _)
  obtain ⟨d00, d01, d02⟩ := D3.out _ (Below.refl _ _)
  rw [HS.out] at d00 d01 d02
  have DC := hid (fun (W : World) (h : Below w1.heap.size w1 W) => show W.cell? ⟨w.heap.size + 1, 0, none⟩ = some (.int .u32 (iv xs)) ∧ W.cell? ⟨w.heap.size + 1, 1, none⟩ = some (.int .i64 xa) ∧ W.cell? ⟨w.heap.size + 1, 2, none⟩ = some (.int .i64 xb) by rw [← HS.out]; exact D3.out W h)
  clear ht hk hrows hrc hb1 hw1 h200 D3 FI
  cases hA : fnd rs xa with
  | none =>
    rw [hA] at FA RG
    replace FA := hid (fun (W : World) (h : Below w1.heap.size w1 W) => show Calls _ _ _ W fun e w' => e = .returned (.tuple #[.int .i64 0, .bool false]) ∧ Below W.heap.size W w' from FA.out W h)
    have RF := hid (show rg = false from RG.out)
    clear RG hA GA GB
    cases hB : fnd rs xb with
    | none =>
      rw [hB] at FB
      replace FB := hid (fun (W : World) (h : Below w1.heap.size w1 W) => show Calls _ _ _ W fun e w' => e = .returned (.tuple #[.int .i64 0, .bool false]) ∧ Below W.heap.size W w' from FB.out W h)
      clear hB
      go_enter Tryz.func48, Tryz.ntmps48
      go_wp2_with fail
      rw [W0.out]
      go_wp2_with fail
      rw [W1.out]
      go_wp2_with fail
      refine (FA.out _ (Below.refl _ _)).mono ?_
      rintro e w2 ⟨rfl, hb2⟩
      have D2 := hid hb2
      obtain ⟨t10, t11, t12⟩ := TC.out _ hb2
      obtain ⟨d10, d11, d12⟩ := DC.out _ hb2
      have hs2 := hb2.size
      clear hb2 t00 t01 t02 d00 d01 d02
      go_wp2_with fail
      refine (FB.out _ D2.out).mono ?_
      rintro e w3 ⟨rfl, hb3⟩
      have D3 := hid (D2.out.trans (hb3.mono hs2))
      have m0 : ∀ z : After w3, z.world.cell? ⟨w.heap.size, 0, none⟩ = some (.string nm) := fun z => After.cell (TC.out _ D3.out).1 z
      have m1 : ∀ z : After w3, z.world.cell? ⟨w.heap.size, 1, none⟩ = some (.slice ao ats.length acap) := fun z => After.cell (TC.out _ D3.out).2.1 z
      have m2 : ∀ z : After w3, z.world.cell? ⟨w.heap.size, 2, none⟩ = some (.slice ro rs.length rcap) := fun z => After.cell (TC.out _ D3.out).2.2 z
      have n0 : ∀ z : After w3, z.world.cell? ⟨w.heap.size + 1, 0, none⟩ = some (.int .u32 (iv xs)) := fun z => After.cell (DC.out _ D3.out).1 z
      have n1 : ∀ z : After w3, z.world.cell? ⟨w.heap.size + 1, 1, none⟩ = some (.int .i64 xa) := fun z => After.cell (DC.out _ D3.out).2.1 z
      have n2 : ∀ z : After w3, z.world.cell? ⟨w.heap.size + 1, 2, none⟩ = some (.int .i64 xb) := fun z => After.cell (DC.out _ D3.out).2.2 z
      clear hb3 t10 t11 t12 d10 d11 d12
      go_wp2_with fail
      refine wp_region_after (by kernel_rfl) (by kernel_rfl) ?_
      repeat (any_goals (quiet_step (fail)))
      refine wpQuiet_nil ?_
      intro wq hbq
      have BQ := hid (B0.out.trans ((B1.out.trans ((D3.out.trans (hbq.mono D3.out.size)).mono hs1)).mono hsz0))
      clear hbq
      go_wp2_with fail
      go_ret
      exact ⟨by rw [RF.out]; rfl, BQ.out⟩
    | some k =>
      rw [hB] at FB
      replace FB := hid (fun (W : World) (h : Below w1.heap.size w1 W) => show Calls _ _ _ W fun e w' => e = .returned (.tuple #[.int .i64 (k : Int), .bool true]) ∧ Below W.heap.size W w' from FB.out W h)
      clear hB
      go_enter Tryz.func48, Tryz.ntmps48
      go_wp2_with fail
      rw [W0.out]
      go_wp2_with fail
      rw [W1.out]
      go_wp2_with fail
      refine (FA.out _ (Below.refl _ _)).mono ?_
      rintro e w2 ⟨rfl, hb2⟩
      have D2 := hid hb2
      obtain ⟨t10, t11, t12⟩ := TC.out _ hb2
      obtain ⟨d10, d11, d12⟩ := DC.out _ hb2
      have hs2 := hb2.size
      clear hb2 t00 t01 t02 d00 d01 d02
      go_wp2_with fail
      refine (FB.out _ D2.out).mono ?_
      rintro e w3 ⟨rfl, hb3⟩
      have D3 := hid (D2.out.trans (hb3.mono hs2))
      have m0 : ∀ z : After w3, z.world.cell? ⟨w.heap.size, 0, none⟩ = some (.string nm) := fun z => After.cell (TC.out _ D3.out).1 z
      have m1 : ∀ z : After w3, z.world.cell? ⟨w.heap.size, 1, none⟩ = some (.slice ao ats.length acap) := fun z => After.cell (TC.out _ D3.out).2.1 z
      have m2 : ∀ z : After w3, z.world.cell? ⟨w.heap.size, 2, none⟩ = some (.slice ro rs.length rcap) := fun z => After.cell (TC.out _ D3.out).2.2 z
      have n0 : ∀ z : After w3, z.world.cell? ⟨w.heap.size + 1, 0, none⟩ = some (.int .u32 (iv xs)) := fun z => After.cell (DC.out _ D3.out).1 z
      have n1 : ∀ z : After w3, z.world.cell? ⟨w.heap.size + 1, 1, none⟩ = some (.int .i64 xa) := fun z => After.cell (DC.out _ D3.out).2.1 z
      have n2 : ∀ z : After w3, z.world.cell? ⟨w.heap.size + 1, 2, none⟩ = some (.int .i64 xb) := fun z => After.cell (DC.out _ D3.out).2.2 z
      clear hb3 t10 t11 t12 d10 d11 d12
      go_wp2_with fail
      refine wp_region_after (by kernel_rfl) (by kernel_rfl) ?_
      repeat (any_goals (quiet_step (fail)))
      refine wpQuiet_nil ?_
      intro wq hbq
      have BQ := hid (B0.out.trans ((B1.out.trans ((D3.out.trans (hbq.mono D3.out.size)).mono hs1)).mono hsz0))
      clear hbq
      go_wp2_with fail
      go_ret
      exact ⟨by rw [RF.out]; rfl, BQ.out⟩
  | some i =>
    rw [hA] at FA RG
    replace FA := hid (fun (W : World) (h : Below w1.heap.size w1 W) => show Calls _ _ _ W fun e w' => e = .returned (.tuple #[.int .i64 (i : Int), .bool true]) ∧ Below W.heap.size W w' from FA.out W h)
    cases hB : fnd rs xb with
    | none =>
      rw [hB] at FB RG
      replace FB := hid (fun (W : World) (h : Below w1.heap.size w1 W) => show Calls _ _ _ W fun e w' => e = .returned (.tuple #[.int .i64 0, .bool false]) ∧ Below W.heap.size W w' from FB.out W h)
      have RF := hid (show rg = false from RG.out)
      clear hB hA RG GA GB
      go_enter Tryz.func48, Tryz.ntmps48
      go_wp2_with fail
      rw [W0.out]
      go_wp2_with fail
      rw [W1.out]
      go_wp2_with fail
      refine (FA.out _ (Below.refl _ _)).mono ?_
      rintro e w2 ⟨rfl, hb2⟩
      have D2 := hid hb2
      obtain ⟨t10, t11, t12⟩ := TC.out _ hb2
      obtain ⟨d10, d11, d12⟩ := DC.out _ hb2
      have hs2 := hb2.size
      clear hb2 t00 t01 t02 d00 d01 d02
      go_wp2_with fail
      refine (FB.out _ D2.out).mono ?_
      rintro e w3 ⟨rfl, hb3⟩
      have D3 := hid (D2.out.trans (hb3.mono hs2))
      have m0 : ∀ z : After w3, z.world.cell? ⟨w.heap.size, 0, none⟩ = some (.string nm) := fun z => After.cell (TC.out _ D3.out).1 z
      have m1 : ∀ z : After w3, z.world.cell? ⟨w.heap.size, 1, none⟩ = some (.slice ao ats.length acap) := fun z => After.cell (TC.out _ D3.out).2.1 z
      have m2 : ∀ z : After w3, z.world.cell? ⟨w.heap.size, 2, none⟩ = some (.slice ro rs.length rcap) := fun z => After.cell (TC.out _ D3.out).2.2 z
      have n0 : ∀ z : After w3, z.world.cell? ⟨w.heap.size + 1, 0, none⟩ = some (.int .u32 (iv xs)) := fun z => After.cell (DC.out _ D3.out).1 z
      have n1 : ∀ z : After w3, z.world.cell? ⟨w.heap.size + 1, 1, none⟩ = some (.int .i64 xa) := fun z => After.cell (DC.out _ D3.out).2.1 z
      have n2 : ∀ z : After w3, z.world.cell? ⟨w.heap.size + 1, 2, none⟩ = some (.int .i64 xb) := fun z => After.cell (DC.out _ D3.out).2.2 z
      clear hb3 t10 t11 t12 d10 d11 d12
      go_wp2_with fail
      refine wp_region_after (by kernel_rfl) (by kernel_rfl) ?_
      repeat (any_goals (quiet_step (fail)))
      refine wpQuiet_nil ?_
      intro wq hbq
      have BQ := hid (B0.out.trans ((B1.out.trans ((D3.out.trans (hbq.mono D3.out.size)).mono hs1)).mono hsz0))
      clear hbq
      go_wp2_with fail
      go_ret
      exact ⟨by rw [RF.out]; rfl, BQ.out⟩
    | some k =>
      rw [hB] at FB RG
      replace FB := hid (fun (W : World) (h : Below w1.heap.size w1 W) => show Calls _ _ _ W fun e w' => e = .returned (.tuple #[.int .i64 (k : Int), .bool true]) ∧ Below W.heap.size W w' from FB.out W h)
      obtain ⟨⟨r1, u1, vs1⟩, hr1, -⟩ := GA.out i hA
      obtain ⟨⟨r2, u2, vs2⟩, hr2, -⟩ := GB.out k hB
      replace RG := hid (show rg = (decide (xa < xb) && shrOk xs ats.length && (xs &&& ~~~ rowsS (rowAt rs i) (rowAt rs k) ats.length == 0#32)) from RG.out)
      rw [rowAt_at hr1, rowAt_at hr2] at RG
      replace RG := hid (show rg = (decide (xa < xb) && shrOk xs ats.length && (xs &&& ~~~ rowsS vs1 vs2 ats.length == 0#32)) from RG.out)
      have L1 : vs1.length = ats.length := HR.out _ (List.mem_of_getElem? hr1)
      have L2 : vs2.length = ats.length := HR.out _ (List.mem_of_getElem? hr2)
      rw [← L1] at RG
      obtain ⟨⟨b, off, rfl, hd1⟩, hv1⟩ := RC.out i _ hr1
      obtain ⟨⟨b', off', hbb, hd2⟩, hv2⟩ := RC.out k _ hr2
      cases hbb
      have i0 : (0 : Int) ≤ (i : Int) := by omega
      have k0 : (0 : Int) ≤ (k : Int) := by omega
      have i1 : (i : Int) < (rs.length : Int) := by have := (List.getElem?_eq_some_iff.1 hr1).1; omega
      have k1 : (k : Int) < (rs.length : Int) := by have := (List.getElem?_eq_some_iff.1 hr2).1; omega
      have R1 := hid (fun (W : World) (h : Below w1.heap.size w1 W) => show W.cell? ⟨b, off + i * 2, none⟩ = some (.int .i64 r1) ∧ W.cell? ⟨b, off + i * 2 + 1, none⟩ = some u1 from hd1 W h)
      have R2 := hid (fun (W : World) (h : Below w1.heap.size w1 W) => show W.cell? ⟨b, off + k * 2, none⟩ = some (.int .i64 r2) ∧ W.cell? ⟨b, off + k * 2 + 1, none⟩ = some u2 from hd2 W h)
      have KA := hid (fun (W : World) (h : Below w1.heap.size w1 W) => kagree_any r1 r2 vs1 vs2 u1 u2 W (show RdV W u1 vs1 from hv1 W h) (show RdV W u2 vs2 from hv2 W h) (by rw [L1, L2]) (by omega))
      rw [L1] at KA RG
      have HL1 := hid L1
      have HL2 := hid L2
      generalize rowsS vs1 vs2 ats.length = ag at *
      clear hB hA GA GB hr1 hr2 hd1 hd2 hv1 hv2 L1 L2
      cases hlt : decide (xa < xb) with
      | false =>
        have RF := hid (show rg = false by rw [RG.out, hlt]; rfl)
        clear RG
        go_enter Tryz.func48, Tryz.ntmps48
        go_wp2_with fail
        rw [W0.out]
        go_wp2_with fail
        rw [W1.out]
        go_wp2_with fail
        refine (FA.out _ (Below.refl _ _)).mono ?_
        rintro e w2 ⟨rfl, hb2⟩
        have D2 := hid hb2
        obtain ⟨t10, t11, t12⟩ := TC.out _ hb2
        obtain ⟨d10, d11, d12⟩ := DC.out _ hb2
        have hs2 := hb2.size
        clear hb2 t00 t01 t02 d00 d01 d02
        go_wp2_with fail
        refine (FB.out _ D2.out).mono ?_
        rintro e w3 ⟨rfl, hb3⟩
        have D3 := hid (D2.out.trans (hb3.mono hs2))
        have m0 : ∀ z : After w3, z.world.cell? ⟨w.heap.size, 0, none⟩ = some (.string nm) := fun z => After.cell (TC.out _ D3.out).1 z
        have m1 : ∀ z : After w3, z.world.cell? ⟨w.heap.size, 1, none⟩ = some (.slice ao ats.length acap) := fun z => After.cell (TC.out _ D3.out).2.1 z
        have m2 : ∀ z : After w3, z.world.cell? ⟨w.heap.size, 2, none⟩ = some (.slice (some ⟨b, off, none⟩) rs.length rcap) := fun z => After.cell (TC.out _ D3.out).2.2 z
        have n0 : ∀ z : After w3, z.world.cell? ⟨w.heap.size + 1, 0, none⟩ = some (.int .u32 (iv xs)) := fun z => After.cell (DC.out _ D3.out).1 z
        have n1 : ∀ z : After w3, z.world.cell? ⟨w.heap.size + 1, 1, none⟩ = some (.int .i64 xa) := fun z => After.cell (DC.out _ D3.out).2.1 z
        have n2 : ∀ z : After w3, z.world.cell? ⟨w.heap.size + 1, 2, none⟩ = some (.int .i64 xb) := fun z => After.cell (DC.out _ D3.out).2.2 z
        clear hb3 t10 t11 t12 d10 d11 d12
        go_wp2_with fail
        refine wp_region_after (by kernel_rfl) (by kernel_rfl) ?_
        repeat (any_goals (quiet_step (fail)))
        refine wpQuiet_nil ?_
        intro wq hbq
        have BQ := hid (B0.out.trans ((B1.out.trans ((D3.out.trans (hbq.mono D3.out.size)).mono hs1)).mono hsz0))
        clear hbq
        go_wp2_with fail
        go_ret
        exact ⟨by rw [RF.out]; rfl, BQ.out⟩
      | true =>
        cases hsh : shrOk xs ats.length with
        | false =>
          have RF := hid (show rg = false by rw [RG.out, hlt, hsh]; rfl)
          unfold shrOk at hsh
          clear RG
          go_enter Tryz.func48, Tryz.ntmps48
          go_wp2_with fail
          rw [W0.out]
          go_wp2_with fail
          rw [W1.out]
          go_wp2_with fail
          refine (FA.out _ (Below.refl _ _)).mono ?_
          rintro e w2 ⟨rfl, hb2⟩
          have D2 := hid hb2
          obtain ⟨t10, t11, t12⟩ := TC.out _ hb2
          obtain ⟨d10, d11, d12⟩ := DC.out _ hb2
          have hs2 := hb2.size
          clear hb2 t00 t01 t02 d00 d01 d02
          go_wp2_with fail
          refine (FB.out _ D2.out).mono ?_
          rintro e w3 ⟨rfl, hb3⟩
          have D3 := hid (D2.out.trans (hb3.mono hs2))
          have m0 : ∀ z : After w3, z.world.cell? ⟨w.heap.size, 0, none⟩ = some (.string nm) := fun z => After.cell (TC.out _ D3.out).1 z
          have m1 : ∀ z : After w3, z.world.cell? ⟨w.heap.size, 1, none⟩ = some (.slice ao ats.length acap) := fun z => After.cell (TC.out _ D3.out).2.1 z
          have m2 : ∀ z : After w3, z.world.cell? ⟨w.heap.size, 2, none⟩ = some (.slice (some ⟨b, off, none⟩) rs.length rcap) := fun z => After.cell (TC.out _ D3.out).2.2 z
          have n0 : ∀ z : After w3, z.world.cell? ⟨w.heap.size + 1, 0, none⟩ = some (.int .u32 (iv xs)) := fun z => After.cell (DC.out _ D3.out).1 z
          have n1 : ∀ z : After w3, z.world.cell? ⟨w.heap.size + 1, 1, none⟩ = some (.int .i64 xa) := fun z => After.cell (DC.out _ D3.out).2.1 z
          have n2 : ∀ z : After w3, z.world.cell? ⟨w.heap.size + 1, 2, none⟩ = some (.int .i64 xb) := fun z => After.cell (DC.out _ D3.out).2.2 z
          clear hb3 t10 t11 t12 d10 d11 d12
          go_wp2_with fail
          refine wp_region_after (by kernel_rfl) (by kernel_rfl) ?_
          repeat (any_goals (quiet_step (fail)))
          refine wpQuiet_nil ?_
          intro wq hbq
          have BQ := hid (B0.out.trans ((B1.out.trans ((D3.out.trans (hbq.mono D3.out.size)).mono hs1)).mono hsz0))
          clear hbq
          go_wp2_with fail
          go_ret
          exact ⟨by rw [RF.out]; rfl, BQ.out⟩
        | true =>
          have RF := hid (show rg = (xs &&& ~~~ ag == 0#32) by rw [RG.out, hlt, hsh]; rfl)
          unfold shrOk at hsh
          clear RG
          go_enter Tryz.func48, Tryz.ntmps48
          go_wp2_with fail
          rw [W0.out]
          go_wp2_with fail
          rw [W1.out]
          go_wp2_with fail
          refine (FA.out _ (Below.refl _ _)).mono ?_
          rintro e w2 ⟨rfl, hb2⟩
          have D2 := hid hb2
          obtain ⟨t10, t11, t12⟩ := TC.out _ hb2
          obtain ⟨d10, d11, d12⟩ := DC.out _ hb2
          have hs2 := hb2.size
          clear hb2 t00 t01 t02 d00 d01 d02
          go_wp2_with fail
          refine (FB.out _ D2.out).mono ?_
          rintro e w3 ⟨rfl, hb3⟩
          have D3 := hid (D2.out.trans (hb3.mono hs2))
          have m0 : ∀ z : After w3, z.world.cell? ⟨w.heap.size, 0, none⟩ = some (.string nm) := fun z => After.cell (TC.out _ D3.out).1 z
          have m1 : ∀ z : After w3, z.world.cell? ⟨w.heap.size, 1, none⟩ = some (.slice ao ats.length acap) := fun z => After.cell (TC.out _ D3.out).2.1 z
          have m2 : ∀ z : After w3, z.world.cell? ⟨w.heap.size, 2, none⟩ = some (.slice (some ⟨b, off, none⟩) rs.length rcap) := fun z => After.cell (TC.out _ D3.out).2.2 z
          have n0 : ∀ z : After w3, z.world.cell? ⟨w.heap.size + 1, 0, none⟩ = some (.int .u32 (iv xs)) := fun z => After.cell (DC.out _ D3.out).1 z
          have n1 : ∀ z : After w3, z.world.cell? ⟨w.heap.size + 1, 1, none⟩ = some (.int .i64 xa) := fun z => After.cell (DC.out _ D3.out).2.1 z
          have n2 : ∀ z : After w3, z.world.cell? ⟨w.heap.size + 1, 2, none⟩ = some (.int .i64 xb) := fun z => After.cell (DC.out _ D3.out).2.2 z
          have p0 : ∀ z : After w3, z.world.cell? ⟨b, off + i * 2, none⟩ = some (.int .i64 r1) := fun z => After.cell (R1.out _ D3.out).1 z
          have p1 : ∀ z : After w3, z.world.cell? ⟨b, off + i * 2 + 1, none⟩ = some u1 := fun z => After.cell (R1.out _ D3.out).2 z
          have q0 : ∀ z : After w3, z.world.cell? ⟨b, off + k * 2, none⟩ = some (.int .i64 r2) := fun z => After.cell (R2.out _ D3.out).1 z
          have q1 : ∀ z : After w3, z.world.cell? ⟨b, off + k * 2 + 1, none⟩ = some u2 := fun z => After.cell (R2.out _ D3.out).2 z
          have CA := hid (fun z : After w3 => Calls.after z (KA.out z.world (D3.out.trans (z.below.mono D3.out.size))))
          clear hb3 t10 t11 t12 d10 d11 d12
          go_wp2_with fail
          refine wp_region_after (by kernel_rfl) (by kernel_rfl) ?_
          repeat (any_goals (quiet_step (first | exact CA.out _)))
          refine wpQuiet_nil ?_
          intro wq hbq
          have BQ := hid (B0.out.trans ((B1.out.trans ((D3.out.trans (hbq.mono D3.out.size)).mono hs1)).mono hsz0))
          clear hbq
          go_wp2_with fail
          go_ret
          exact ⟨by rw [RF.out]; rfl, BQ.out⟩

end Go.Proofs.YtalejolehccclaaGreatDoor


/- slices.Equal at numbers and at sets, slices.Index and Contains at sets. -/
namespace Go.Proofs.YtalejolehccclaaGreatDoor
open Go.RowKit


theorem equalS_g {α : Type} [DecidableEq α] (g : α → Int) (hg : ∀ x y, g x = g y → x = y) (xs ys : List α) (v u : Value) (w : World) (hv : RdE (fun x => .int .u32 (g x)) w v xs) (hu : RdE (fun x => .int .u32 (g x)) w u ys) :
    Calls Tryz.prog 50 #[v, u] w fun e w' => e = .returned (.bool (decide (xs = ys))) ∧ ∃ q, w' = w.drewN q := by
  obtain ⟨ao, cap, rfl, h1, h2, h3⟩ := hv
  obtain ⟨bo, cbp, rfl, g1, g2, g3⟩ := hu
  by_cases hl : xs.length = ys.length
  · have hne : ((xs.length : Int) != (ys.length : Int)) = false := by simp [hl]
    go_enter Tryz.func50, Tryz.ntmps50
    go_wp2
    go_loopw [13] (fun i wr => ∃ k q : Nat, k ≤ xs.length ∧ i = .int .i64 k ∧ wr = w.drewN q ∧ Hid (xs.take k = ys.take k)) (fun i _ => xs.length - (intOf i).toNat)
    case atStart => exact ⟨0, 0, Nat.zero_le _, rfl, rfl, hid rfl⟩
    case round =>
      obtain ⟨k, q, hk, rfl, rfl, H⟩ := hrel
      by_cases hlt : k < xs.length
      · obtain ⟨b, off, rfl, hb, hc⟩ := h3 (by omega)
        obtain ⟨b', off', rfl, hb', hc'⟩ := g3 (by omega)
        obtain ⟨x, hx⟩ := get_some hlt
        obtain ⟨y, hy⟩ := get_some (show k < ys.length by omega)
        have e1 := hc k x hx
        have e2 := hc' k y hy
        clear hc hc' h3 g3
        have X := hid hx
        have Y := hid hy
        clear hx hy
        go_wp2
        go_quiet (fail)
        go_wp2
        · have hn : (g x != g y) = true := by assumption
          go_ret
          refine ⟨ret_bool ?_, _, World.drewN_drewN _ _ _⟩
          symm; rw [decide_eq_false_iff_not]
          rintro rfl
          have := X.out.symm.trans Y.out
          simp at this; simp [this] at hn
        · have hn : (g x != g y) = false := by assumption
          go_roundw
          case rel => exact ⟨k + 1, _, by omega, by go_num, rfl, hid (by rw [take_next X.out, take_next Y.out, H.out]; simp at hn; rw [hg _ _ hn])⟩
          case measure => simp [intOf]; omega
      · go_wp2
        go_ret
        refine ⟨ret_bool ?_, _, rfl⟩
        symm; rw [decide_eq_true_iff]
        have := H.out
        rwa [List.take_of_length_le (by omega), List.take_of_length_le (by omega)] at this
  · have hne : ((xs.length : Int) != (ys.length : Int)) = true := by simp; omega
    go_enter Tryz.func50, Tryz.ntmps50
    go_wp2
    go_ret
    refine ⟨ret_bool ?_, 0, rfl⟩
    symm; rw [decide_eq_false_iff_not]
    rintro rfl; exact hl rfl

theorem equalS_any (xs ys : List S) (v u : Value) (w : World) (hv : RdE enc w v xs) (hu : RdE enc w u ys) :
    Calls Tryz.prog 50 #[v, u] w fun e w' => e = .returned (.bool (decide (xs = ys))) ∧ ∃ q, w' = w.drewN q :=
  equalS_g iv (fun _ _ h => iv_inj h) xs ys v u w hv hu


end Go.Proofs.YtalejolehccclaaGreatDoor


/- The walk of keymine's Check. -/
namespace Go.Proofs.YtalejolehccclaaGreatDoor
open Go.RowKit
set_option linter.unusedVariables false

def kchkB (t : T3) (ks : List S) (ws : List W3) : Bool := decide (kE t 0#32 true = 0) && decide (ws.length ≤ 200) && ws.all (rgtB t) && ks.all (kuB t) && decide (ordS ks = keyN t.2.1.length (ws.map (·.1)))

set_option maxHeartbeats 3200000 in
set_option maxRecDepth 100000 in
theorem kcheckC_any (t : T3) (av rv : Value) (ks : List S) (kv : Value) (ws : List W3) (wv : Value) (w : World) (ht : RdT w av rv t) (hks : RdE enc w kv ks) (hws : RdW w wv ws) (hl : ks.length ≤ 100000) (hT : Tab w) (hok : kE t 0#32 true = 0 → okT t) :
    Calls Tryz.prog 18 #[.agg #[.string t.1, av, rv], kv, wv] w fun e w' => e = .returned (.bool (kchkB t ks ws)) ∧ Below w.heap.size w w' := by
  have hb0 := below_alloc w (.cells #[.string t.1, av, rv] 32)
  have C3 := hid (fun W h => cells3 (w := w) (a := .string t.1) (b := av) (c := rv) (t := 32) W h)
  have T0 := hid (ht.below hb0)
  obtain ⟨w0, hw0⟩ : ∃ w0 : World, w.alloc (.cells #[.string t.1, av, rv] 32) = w0 := ⟨_, rfl⟩
  rw [hw0] at hb0 C3 T0
  have B0 := hid hb0
  have W0 := hid hw0
  have hsz0 := hb0.size
  clear hb0 hw0
  have KC := hid (fun (W : World) (h : Below w0.heap.size w0 W) => show Calls Tryz.prog 36 #[.agg #[.string t.1, av, rv], .int .u32 0, .bool true] W fun e w' => e = .returned (.int .i64 (kE t 0#32 true)) ∧ Below W.heap.size W w' from kcheck_any t av rv 0#32 true W (T0.out.below h))
  have CK := hid (show kchkB t ks ws = (decide (kE t 0#32 true = 0) && decide (ws.length ≤ 200) && ws.all (rgtB t) && ks.all (kuB t) && decide (ordS ks = keyN t.2.1.length (ws.map (·.1)))) from rfl)
  obtain ⟨R, hR⟩ : ∃ R, kchkB t ks ws = R := ⟨_, rfl⟩
  rw [hR]
  rw [hR] at CK
  clear hR
  have K0 := hid (hks.below B0.out)
  have WS0 := hid (RdC.below hws B0.out)
  have HT0 := hid (hT.below B0.out)
  obtain ⟨t00, t01, t02⟩ := C3.out _ (Below.refl _ _)
  obtain ⟨ko, kcap, rfl, hkl, hkc⟩ := K0.out.split
  obtain ⟨wo', wcap, rfl, hwl, hwc⟩ := RdW.split WS0.out
  by_cases h0 : kE t 0#32 true = 0
  · obtain ⟨hk2, -, h12⟩ := kE_ok h0
    replace h12 := h12 rfl
    have OKT := hid (hok h0)
    rw [h0] at KC
    rw [decide_eq_true h0, Bool.true_and] at CK
    by_cases h200 : ws.length ≤ 200
    · have i1 : decide ((200 : Int) < (ws.length : Int)) = false := by rw [decide_eq_false_iff_not]; omega
      have i1' : decide ((ws.length : Int) > (200 : Int)) = false := by rw [decide_eq_false_iff_not]; omega
      rw [decide_eq_true h200, Bool.true_and] at CK
      have RT := hid (fun (x : W3) (W : World) (h : Below w0.heap.size w0 W) => kright_any t av rv x W (T0.out.below h) hk2)
      have UQ := hid (fun (s : S) (W : World) (h : Below w0.heap.size w0 W) => kunique_any t av rv s W (T0.out.below h) (HT0.out.below h) (fun _ => OKT.out))
      have KUB := hid (fun (s : S) (e : kE t s false ≠ 0) => show kuB t s = false by unfold kuB; rw [decide_eq_false e]; rfl)
      have OR := hid (fun (W : World) (h : Below w0.heap.size w0 W) => aorder_any ks _ W (K0.out.below h) (by omega))
      have SE := hid (fun (W : World) (h : Below w0.heap.size w0 W) => ksets_any ws _ W (RdC.below WS0.out h) (by omega))
      have KU := hid (fun (v : Value) (W : World) (h : RdE enc W v (ws.map (·.1))) => kuniques_any t.2.1.length h12 (ws.map (·.1)) v W h)
      have KB := hid (keyN_bound (show t.2.1.length ≤ 16 by omega) (ws.map (·.1)))
      have F1 := hid (fun (k : Nat) (x : W3) (h : ws[k]? = some x) (h2 : rgtB t x = false) => show R = false by
        rw [CK.out, show ws.all (rgtB t) = false from List.all_eq_false.2 ⟨x, List.mem_of_getElem? h, by simp [h2]⟩]; rfl)
      have F2 := hid (fun (k : Nat) (s : S) (h : ks[k]? = some s) (h2 : kuB t s = false) => show R = false by
        rw [CK.out, show ks.all (kuB t) = false from List.all_eq_false.2 ⟨s, List.mem_of_getElem? h, by simp [h2]⟩]; simp)
      have F3 := hid (fun (h1 : ∀ x ∈ ws, rgtB t x = true) (h2 : ∀ s ∈ ks, kuB t s = true) => show R = decide (ordS ks = keyN t.2.1.length (ws.map (·.1))) by
        rw [CK.out, List.all_eq_true.2 h1, List.all_eq_true.2 h2]; simp)
      obtain ⟨nm, ats, rs⟩ := t
      obtain ⟨ao, acap, hva, -⟩ := T0.out.1.split
      simp only at hva KU KB F3 RT UQ
      subst hva
      have HKC := hid hkc
      have HWC := hid hwc
      unfold enc at HKC
      generalize keyN ats.length (ws.map (·.1)) = ky at *
      have HWL := hid (show (ws.map (·.1)).length ≤ 200 by rw [List.length_map]; exact h200)
      generalize ws.map (·.1) = wss at *
      have HKL := hid hl
      clear CK ht hks hws hkc hwc h0 hok hT hk2 h12
      go_enter Tryz.func18, Tryz.ntmps18
      go_wp2_with fail
      rw [W0.out]
      go_wp2_with fail
      refine (KC.out _ (Below.refl _ _)).mono ?_
      rintro e w1 ⟨rfl, hb1⟩
      have D1 := hid hb1
      have hs1 := hb1.size
      clear hb1 t00 t01 t02
      go_wp2_with fail
      go_loopw [23] (fun i wr => ∃ k : Nat, k ≤ ws.length ∧ i = .int .i64 k ∧ Hid (∀ x ∈ ws.take k, rgtB (nm, ats, rs) x = true) ∧ Below w0.heap.size w0 wr) (fun i _ => ws.length - (intOf i).toNat)
      case atStart => exact ⟨0, Nat.zero_le _, rfl, hid (by simp), D1.out⟩
      case round =>
        obtain ⟨k, hk, rfl, H, hnx⟩ := hrel
        have hsz := hnx.size
        have k0 : (0 : Int) ≤ (k : Int) := by omega
        by_cases hlt : k < ws.length
        · obtain ⟨⟨xs, xa, xb⟩, hx⟩ := get_some hlt
          obtain ⟨b, off, rfl, hd⟩ := HWC.out k _ hx
          obtain ⟨e0, e1, e2⟩ := hd wr hnx
          have hba := below_alloc wr (.cells #[.int .u32 (iv xs), .int .i64 xa, .int .i64 xb] 60)
          obtain ⟨g0, g1, g2⟩ := cells3 (w := wr) (a := .int .u32 (iv xs)) (b := .int .i64 xa) (c := .int .i64 xb) (t := 60) _ (Below.refl _ _)
          have hnx2 := hnx.trans (hba.mono hsz)
          obtain ⟨u0, u1, u2⟩ := C3.out _ hnx2
          have CR := hid (show Calls Tryz.prog 48 #[.agg #[.string nm, .slice ao ats.length acap, rv], .agg #[.int .u32 (iv xs), .int .i64 xa, .int .i64 xb]] _ _ from RT.out (xs, xa, xb) _ hnx2)
          have NX2 := hid hnx2
          have TN := hid (take_next hx)
          have HLT := hid hlt
          have F1k := hid (F1.out k _ hx)
          clear hd hx hba hnx hnx2
          cases hq : rgtB (nm, ats, rs) (xs, xa, xb) with
          | false =>
            rw [hq] at CR
            have RF := hid (F1k.out hq)
            clear hq
            go_wp2_with fail
            refine CR.out.mono ?_
            rintro e w2 ⟨rfl, hb2⟩
            have BF := hid (B0.out.trans ((NX2.out.trans (hb2.mono NX2.out.size)).mono hsz0))
            clear hb2
            go_wp2_with fail
            go_ret
            exact ⟨by rw [RF.out]; rfl, BF.out⟩
          | true =>
            rw [hq] at CR
            have HN := hid (show ∀ x ∈ ws.take (k + 1), rgtB (nm, ats, rs) x = true by
              rw [TN.out]
              intro x hx
              rcases List.mem_append.1 hx with h | h
              · exact H.out x h
              · rw [List.mem_singleton] at h; rw [h]; exact hq)
            clear hq
            go_wp2_with fail
            refine CR.out.mono ?_
            rintro e w2 ⟨rfl, hb2⟩
            have BF := hid (NX2.out.trans (hb2.mono NX2.out.size))
            clear hb2
            go_wp2_with fail
            go_roundw
            case rel => exact ⟨k + 1, by have := HLT.out; omega, by go_num, HN, BF.out⟩
            case measure => have := HLT.out; simp [intOf]; omega
        · have HA := hid (show ∀ x ∈ ws, rgtB (nm, ats, rs) x = true by have h := H.out; rwa [List.take_of_length_le (by omega)] at h)
          have NX := hid hnx
          clear H hnx
          go_wp2_with fail
          go_loopw [34] (fun i wr => ∃ k : Nat, k ≤ ks.length ∧ i = .int .i64 k ∧ Hid (∀ x ∈ ks.take k, kuB (nm, ats, rs) x = true) ∧ Below w0.heap.size w0 wr) (fun i _ => ks.length - (intOf i).toNat)
          case atStart => exact ⟨0, Nat.zero_le _, rfl, hid (by simp), NX.out⟩
          case round =>
            obtain ⟨q, hq, rfl, H, hnx⟩ := hrel
            have hsz := hnx.size
            have q0 : (0 : Int) ≤ (q : Int) := by omega
            by_cases hlt : q < ks.length
            · obtain ⟨s, hx⟩ := get_some hlt
              obtain ⟨b, off, rfl, hd⟩ := HKC.out q s hx
              have e0 := hd wr hnx
              obtain ⟨u0, u1, u2⟩ := C3.out _ hnx
              have CU := hid (show Calls Tryz.prog 49 #[.agg #[.string nm, .slice ao ats.length acap, rv], .int .u32 (iv s)] _ _ from UQ.out s _ hnx)
              have NX2 := hid hnx
              have TN := hid (take_next hx)
              have HLT := hid hlt
              have F2k := hid (F2.out q s hx)
              have KUE := hid (KUB.out s)
              have hqb : q ≤ 100000 := by have := HKL.out; omega
              clear hd hx hnx
              cases hu : kuB (nm, ats, rs) s with
              | false =>
                rw [hu] at CU
                have RF := hid (F2k.out hu)
                by_cases he : kE (nm, ats, rs) s false = 0
                · rw [he] at CU
                  clear hu he
                  go_wp2_with fail
                  refine CU.out.mono ?_
                  rintro e w2 ⟨rfl, hb2⟩
                  have BF := hid (B0.out.trans ((NX2.out.trans (hb2.mono NX2.out.size)).mono hsz0))
                  clear hb2
                  go_wp2_with fail
                  go_ret
                  exact ⟨by rw [RF.out]; rfl, BF.out⟩
                · generalize kE (nm, ats, rs) s false = ke at *
                  have hne : (ke != (0 : Int)) = true := by simpa using he
                  clear hu he
                  go_wp2_with fail
                  refine CU.out.mono ?_
                  rintro e w2 ⟨rfl, hb2⟩
                  have BF := hid (B0.out.trans ((NX2.out.trans (hb2.mono NX2.out.size)).mono hsz0))
                  clear hb2
                  go_wp2_with fail
                  go_ret
                  exact ⟨by rw [RF.out]; rfl, BF.out⟩
              | true =>
                have he : kE (nm, ats, rs) s false = 0 := by
                  by_cases he : kE (nm, ats, rs) s false = 0
                  · exact he
                  · rw [KUE.out he] at hu; cases hu
                rw [hu, he] at CU
                have HN := hid (show ∀ x ∈ ks.take (q + 1), kuB (nm, ats, rs) x = true by
                  rw [TN.out]
                  intro x hx
                  rcases List.mem_append.1 hx with h | h
                  · exact H.out x h
                  · rw [List.mem_singleton] at h; rw [h]; exact hu)
                clear hu he
                go_wp2_with fail
                refine CU.out.mono ?_
                rintro e w2 ⟨rfl, hb2⟩
                have BF := hid (NX2.out.trans (hb2.mono NX2.out.size))
                clear hb2
                go_wp2_with fail
                go_roundw
                case rel => exact ⟨q + 1, by have := HLT.out; omega, by go_num, HN, BF.out⟩
                case measure => have := HLT.out; simp [intOf]; omega
            · have HB := hid (show ∀ x ∈ ks, kuB (nm, ats, rs) x = true by have h := H.out; rwa [List.take_of_length_le (by omega)] at h)
              have RF := hid (F3.out HA.out HB.out)
              have HN := hid hnx
              have SS := hid (fun (W : World) (h : Below wr.heap.size wr W) => show Below wr.heap.size wr W ∧ W.cell? ⟨w.heap.size, 0, none⟩ = some (.string nm) ∧ W.cell? ⟨w.heap.size, 1, none⟩ = some (.slice ao ats.length acap) ∧ W.cell? ⟨w.heap.size, 2, none⟩ = some rv from ⟨h, C3.out _ (HN.out.trans (h.mono HN.out.size))⟩)
              have OR1 := hid (fun (W : World) (h : Below wr.heap.size wr W) => OR.out W (HN.out.trans (h.mono HN.out.size)))
              have SE1 := hid (fun (W : World) (h : Below wr.heap.size wr W) => SE.out W (HN.out.trans (h.mono HN.out.size)))
              have EQ := hid (fun (xs ys : List S) (v u : Value) (W : World) (hv : RdE enc W v xs) (hu : RdE enc W u ys) => equalS_any xs ys v u W hv hu)
              have OO := hid (fun (ys : List S) (h : IsOrd ys (· ∈ ks)) => show ys = ordS ks from ordS_of h fun _ => Iff.rfl)
              generalize ordS ks = oks at *
              clear H hnx HA HB
              go_wp2_with fail
              go_region_held3 (fun W => Below wr.heap.size wr W ∧ W.cell? ⟨w.heap.size, 0, none⟩ = some (.string nm) ∧ W.cell? ⟨w.heap.size, 1, none⟩ = some (.slice ao ats.length acap) ∧ W.cell? ⟨w.heap.size, 2, none⟩ = some rv)
                (first | exact SS.out _ (Below.refl _ _).drew | exact SS.out _ (by assumption))
                (first
                  | (go_at_call 47; have hS := And.left ‹Below wr.heap.size wr _ ∧ _ ∧ _›; refine (OR1.out _ hS).mono ?_; rintro e wa ⟨va, ya, rfl, hoa, hia, hla, hba⟩; have hLa := hS.trans (hba.mono hS.size); have hra := RdE.of_owns hoa (by have := HKL.out; omega); obtain rfl := OO.out _ hia; (first | (replace hrb := RdE.below hrb hba) | skip); (first | (replace hrc := RdE.below hrc hba) | skip); clear hba hS hoa hia hla)
                  | (go_at_call 38; have hS := And.left ‹Below wr.heap.size wr _ ∧ _ ∧ _›; refine (SE1.out _ hS).mono ?_; rintro e wb ⟨vb, rfl, hob, hbb⟩; have hLb := hS.trans (hbb.mono hS.size); have hrb := RdE.of_owns hob (by have := HWL.out; omega); (first | (replace hra := RdE.below hra hbb) | skip); clear hbb hS hob)
                  | (go_at_call 37; have hS := And.left ‹Below wr.heap.size wr _ ∧ _ ∧ _›; refine (KU.out _ _ hrb).mono ?_; rintro e wc ⟨vc, rfl, hoc, hbc⟩; have hLc := hS.trans (hbc.mono hS.size); have hrc := RdE.of_owns hoc (by have := KB.out; omega); (first | (replace hra := RdE.below hra hbc) | skip); clear hbc hS hoc)
                  | (go_at_call 50; have hS := And.left ‹Below wr.heap.size wr _ ∧ _ ∧ _›; refine (EQ.out _ _ _ _ _ hra hrc).mono ?_; rintro e wd ⟨rfl, qd, rfl⟩; have hLd := below_drewN' hS qd; clear hS))
              all_goals
                have BQ := hid (B0.out.trans ((HN.out.trans (hLd.mono HN.out.size)).mono hsz0))
                clear hLa hLb hLc hLd hra hrb hrc
                go_wp2_with fail
                go_ret
                exact ⟨by rw [RF.out]; rfl, BQ.out⟩
    · have i1 : decide ((200 : Int) < (ws.length : Int)) = true := by rw [decide_eq_true_iff]; omega
      have i1' : decide ((ws.length : Int) > (200 : Int)) = true := by rw [decide_eq_true_iff]; omega
      rw [decide_eq_false h200, Bool.false_and, Bool.false_and, Bool.false_and] at CK
      rw [CK.out]
      obtain ⟨nm, ats, rs⟩ := t
      clear ht hks hws hkc hwc h0 hok hT hk2 h12 h200
      go_enter Tryz.func18, Tryz.ntmps18
      go_wp2_with fail
      rw [W0.out]
      go_wp2_with fail
      refine (KC.out _ (Below.refl _ _)).mono ?_
      rintro e w1 ⟨rfl, hb1⟩
      have BF := hid (B0.out.trans (hb1.mono hsz0))
      clear hb1
      go_wp2_with fail
      go_ret
      exact ⟨rfl, BF.out⟩
  · rw [decide_eq_false h0] at CK
    simp only [Bool.false_and] at CK
    rw [CK.out]
    generalize kE t 0#32 true = ke at *
    have hne : (ke != (0 : Int)) = true := by simpa using h0
    obtain ⟨nm, ats, rs⟩ := t
    clear ht hks hws hkc hwc h0 hok hT
    go_enter Tryz.func18, Tryz.ntmps18
    go_wp2_with fail
    rw [W0.out]
    go_wp2_with fail
    refine (KC.out _ (Below.refl _ _)).mono ?_
    rintro e w1 ⟨rfl, hb1⟩
    have BF := hid (B0.out.trans (hb1.mono hsz0))
    clear hb1
    go_wp2_with fail
    go_ret
    exact ⟨rfl, BF.out⟩

end Go.Proofs.YtalejolehccclaaGreatDoor


/- Plain laws of chapter 29: what All and Maximal give is a right certificate. No program. -/
namespace Go.Proofs.YtalejolehccclaaGreatDoor
open Go.RowKit
set_option linter.unusedVariables false

theorem rowsE_ids : ∀ (rs : List Row3) (last : Int) (m : Nat), rowsE last m rs = 0 → (∀ r ∈ rs, last < r.1) ∧ rs.Pairwise (fun r q => r.1 < q.1) := by
  intro rs
  induction rs with
  | nil => intro last m _; exact ⟨by simp, List.Pairwise.nil⟩
  | cons r rs ih =>
    intro last m h
    unfold rowsE at h
    split at h
    · cases h
    · rename_i h1
      split at h
      · cases h
      · split at h
        · cases h
        · obtain ⟨a, b⟩ := ih _ _ h
          refine ⟨fun q hq => ?_, List.pairwise_cons.2 ⟨a, b⟩⟩
          rcases List.mem_cons.1 hq with rfl | hq
          · omega
          · have := a q hq; omega
theorem tabE_rows {t : T3} (h : tabE t = 0) : rowsE 0 t.2.1.length t.2.2 = 0 := by
  unfold tabE at h
  split at h
  · cases h
  · split at h
    · cases h
    · split at h
      · cases h
      · exact h
theorem tabE2_tab {t : T3} (h : tabE2 t = 0) : tabE t = 0 := by
  unfold tabE2 at h
  by_cases h1 : tabE t = 0
  · exact h1
  · rw [if_pos h1] at h; exact h
theorem ids_inc {t : T3} (h : tabE2 t = 0) : t.2.2.Pairwise (fun r q => r.1 < q.1) := (rowsE_ids _ _ _ (tabE_rows (tabE2_tab h))).2
theorem fndFrom_inc : ∀ (rs : List Row3) (n i : Nat) (r : Row3), rs.Pairwise (fun r q => r.1 < q.1) → rs[i]? = some r → fndFrom n rs r.1 = some (n + i) := by
  intro rs
  induction rs with
  | nil => intro n i r _ h; simp at h
  | cons q rs ih =>
    intro n i r hp h
    rw [List.pairwise_cons] at hp
    unfold fndFrom
    cases i with
    | zero =>
      simp at h; subst h
      rw [if_pos (by simp)]; rfl
    | succ i =>
      have h2 : rs[i]? = some r := by simpa using h
      have h3 := hp.1 r (List.mem_of_getElem? h2)
      rw [if_neg (by simp; omega), ih (n + 1) i r hp.2 h2]
      congr 1; omega
theorem fnd_inc {rs : List Row3} (hp : rs.Pairwise (fun r q => r.1 < q.1)) {i : Nat} {r : Row3} (h : rs[i]? = some r) : fnd rs r.1 = some i := by
  have := fndFrom_inc rs 0 i r hp h
  rw [Nat.zero_add] at this
  exact this
theorem mem_seqW : ∀ {rs : List Row3} {x : W3}, x ∈ seqW rs → ∃ (i k : Nat) (r q : Row3), i < k ∧ rs[i]? = some r ∧ rs[k]? = some q ∧ x = trip r q := by
  intro rs
  induction rs with
  | nil => intro x h; cases h
  | cons r rs ih =>
    intro x h
    unfold seqW at h
    rcases List.mem_append.1 h with h | h
    · obtain ⟨q, hq, rfl⟩ := List.mem_map.1 h
      obtain ⟨k, hk⟩ := List.mem_iff_getElem?.1 hq
      exact ⟨0, k + 1, r, q, by omega, rfl, by simpa using hk, rfl⟩
    · obtain ⟨i, k, a, b, h1, h2, h3, h4⟩ := ih h
      exact ⟨i + 1, k + 1, a, b, by omega, by simpa using h2, by simpa using h3, h4⟩
theorem witsL_mem {rs : List Row3} {x : W3} (h : x ∈ witsL rs) : x ∈ seqW rs ∧ x.1 ∈ keepS upR (pairsS rs) := by
  unfold witsL at h
  obtain ⟨s, hs, rfl⟩ := List.mem_map.1 h
  refine ⟨?_, hs⟩
  have hm : s ∈ (seqW rs).map (·.1) := by
    rw [seqW_sets]
    unfold keepS at hs
    exact ((ordS_ord _).2 s).1 (List.mem_filter.1 hs).1
  unfold firstP
  cases hf : (seqW rs).find? fun y => decide (y.1 = s) with
  | none =>
    rw [List.find?_eq_none] at hf
    obtain ⟨y, hy, rfl⟩ := List.mem_map.1 hm
    exact absurd (hf y hy) (by simp)
  | some y =>
    have h1 := List.find?_some hf
    rw [decide_eq_true_iff] at h1
    subst h1
    exact List.mem_of_find?_eq_some hf
theorem shrOk_sub {s : S} {n : Nat} (hn : n ≤ 32) : shrOk s n = true ↔ sub s (fullN n) := by
  unfold shrOk
  rw [beq_iff_eq]
  constructor
  · intro h
    refine bits_sub (fun i hi => ?_) hn
    have := congrArg (fun x => x.getLsbD (i - n)) h
    simpa [BitVec.getLsbD_ushiftRight, Nat.add_sub_cancel' hi] using this
  · intro h
    apply BitVec.eq_of_getLsbD_eq
    intro i _
    rw [BitVec.getLsbD_ushiftRight]
    simpa using sub_full_bits hn h (n + i) (by omega)
theorem kE_set {t : T3} {s : S} (h : kE t 0#32 true = 0) (hs : sub s (fullN t.2.1.length)) : kE t s false = 0 := by
  obtain ⟨h1, -, h12⟩ := kE_ok h
  obtain ⟨h16, h200, -⟩ := tabE2_ok h1
  have h3 := (shrOk_sub (by omega)).2 hs
  unfold shrOk at h3
  unfold kE
  rw [if_neg (by rw [tabE2_tab h1]; simp), if_neg (by rintro (h | ⟨h, _⟩); omega; cases h), if_neg (by rw [Nat.min_eq_left (by omega)]; simpa using h3)]
theorem rgt_pair {t : T3} (hk : tabE2 t = 0) {i k : Nat} {r q : Row3} (hik : i < k) (hr : t.2.2[i]? = some r) (hq : t.2.2[k]? = some q) (s : S) (hs : sub s (rowsS r.2.2 q.2.2 t.2.1.length)) (hf : sub s (fullN t.2.1.length)) : rgtB t (s, r.1, q.1) = true := by
  have hp := ids_inc hk
  obtain ⟨h16, -, -⟩ := tabE2_ok hk
  unfold rgtB
  simp only [fnd_inc hp hr, fnd_inc hp hq, rowAt_at hr, rowAt_at hq]
  have hlt : r.1 < q.1 := by
    obtain ⟨hi, hri⟩ := List.getElem?_eq_some_iff.1 hr
    obtain ⟨hk', hqk⟩ := List.getElem?_eq_some_iff.1 hq
    have := List.pairwise_iff_getElem.1 hp i k hi hk' hik
    rwa [hri, hqk] at this
  rw [decide_eq_true hlt, (shrOk_sub (by omega)).2 hf, Bool.true_and, Bool.true_and, beq_iff_eq, andNot_zero_iff]
  exact hs
theorem wits_right {t : T3} (hk : tabE2 t = 0) {x : W3} (h : x ∈ witsL t.2.2) : rgtB t x = true := by
  obtain ⟨h16, -, hrows⟩ := tabE2_ok hk
  obtain ⟨i, k, r, q, hik, hr, hq, rfl⟩ := mem_seqW (witsL_mem h).1
  have hl : r.2.2.length = t.2.1.length := (hrows r (List.mem_of_getElem? hr)).1
  unfold trip pairS
  rw [hl]
  exact rgt_pair hk hik hr hq _ (sub_refl _) (rowsS_full _ _ _)
theorem keys_unq {t : T3} (h : kE t 0#32 true = 0) {s : S} (hs : s ∈ keyN t.2.1.length (pairsS t.2.2)) : kuB t s = true := by
  have h2 := keyN_iff.1 (((keyN_ord t.2.1.length (pairsS t.2.2)).2 s).1 hs)
  unfold kuB
  rw [decide_eq_true (kE_set h h2.1), Bool.true_and, uniB_iff]
  exact h2.2.1
theorem kchk_all {t : T3} (h : kE t 0#32 true = 0) (hl : (witsL t.2.2).length ≤ 200) : kchkB t (keyN t.2.1.length (pairsS t.2.2)) (witsL t.2.2) = true := by
  have h1 := (kE_ok h).1
  unfold kchkB
  rw [decide_eq_true h, decide_eq_true hl, List.all_eq_true.2 (fun x hx => wits_right h1 hx), List.all_eq_true.2 (fun s hs => keys_unq h hs), witsL_sets, keyN_max]
  rw [decide_eq_true]; rfl
  exact (ordS_of (keyN_ord t.2.1.length (pairsS t.2.2)) fun s => ((keyN_ord t.2.1.length (pairsS t.2.2)).2 s).symm).symm
theorem witsL_length (rs : List Row3) : (witsL rs).length ≤ rs.length * rs.length := by
  unfold witsL
  rw [List.length_map]
  exact Nat.le_trans (keepS_length upR (pairsS rs)) (pairsS_length rs)

end Go.Proofs.YtalejolehccclaaGreatDoor

