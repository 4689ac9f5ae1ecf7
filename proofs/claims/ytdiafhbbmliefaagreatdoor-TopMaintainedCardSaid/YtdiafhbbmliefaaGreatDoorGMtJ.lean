/- Texts that belong together, in one file. -/
import Derived.Test.YtdiafhbbmliefaaGreatDoorGMtH
/- The walk of drossref33.Cell. -/
namespace Go.Proofs.YtdiafhbbmliefaaGreatDoor
open Go.RowKit
set_option linter.unusedVariables false

theorem cells4 {w : World} {a b c d : Value} {t : TypeId} (W : World) (h : Below (w.alloc (.cells #[a, b, c, d] t)).heap.size (w.alloc (.cells #[a, b, c, d] t)) W) :
    W.cell? ⟨w.heap.size, 0, none⟩ = some a ∧ W.cell? ⟨w.heap.size, 1, none⟩ = some b ∧ W.cell? ⟨w.heap.size, 2, none⟩ = some c ∧ W.cell? ⟨w.heap.size, 3, none⟩ = some d :=
  ⟨(h.cell (p := ⟨w.heap.size, 0, none⟩) (by simp)).trans (by simp), (h.cell (p := ⟨w.heap.size, 1, none⟩) (by simp)).trans (by simp), (h.cell (p := ⟨w.heap.size, 2, none⟩) (by simp)).trans (by simp), (h.cell (p := ⟨w.heap.size, 3, none⟩) (by simp)).trans (by simp)⟩
/-- An operation: its kind, its ID, its attribute, its codes. -/
abbrev OpR := U8 × U8 × U8 × RcR
def cOp (o : OpR) : List Value := [enc8 o.1, enc8 o.2.1, enc8 o.2.2.1, o.2.2.2.1]
theorem cOp_length (o : OpR) : (cOp o).length = 4 := rfl
def cellV (r : RcR) : V3 := if 0 < r.2.1 then codeV ((r.2.2 0).toNat % 12) else (0, 0, ByteArray.mk #[])

theorem fin5 {W : World} {p q : Nat} {a0 a1 d0 d1 d2 b0 b1 c0 c1 c2 : Value} (hpq : p ≠ q) (y0 : W.cell? ⟨p, 0, none⟩ = some a0) (y1 : W.cell? ⟨p, 1, none⟩ = some a1) (z0 : W.cell? ⟨q, 0, none⟩ = some d0) (z1 : W.cell? ⟨q, 1, none⟩ = some d1) (z2 : W.cell? ⟨q, 2, none⟩ = some d2)
    {wf : World} (hwf : (((((W.setCell ⟨p, 0, none⟩ b0).setCell ⟨p, 1, none⟩ b1).setCell ⟨q, 0, none⟩ c0).setCell ⟨q, 1, none⟩ c1).setCell ⟨q, 2, none⟩ c2).drew = wf) :
    wf.cell? ⟨p, 0, none⟩ = some b0 ∧ wf.cell? ⟨p, 1, none⟩ = some b1 ∧ wf.cell? ⟨q, 0, none⟩ = some c0 ∧ wf.cell? ⟨q, 1, none⟩ = some c1 ∧ wf.cell? ⟨q, 2, none⟩ = some c2 := by
  subst hwf
  simp only [World.cell?_drew]
  obtain ⟨w1, hw1⟩ : ∃ w1, (W.setCell ⟨p, 0, none⟩ b0).setCell ⟨p, 1, none⟩ b1 = w1 := ⟨_, rfl⟩
  have e0 : w1.cell? ⟨p, 0, none⟩ = some b0 := by rw [← hw1]; exact (World.cell?_setCell_other _ _ _ _ (by simp)).trans (World.cell?_setCell_same _ _ _ y0)
  have e1 : w1.cell? ⟨p, 1, none⟩ = some b1 := by rw [← hw1]; exact World.cell?_setCell_same _ _ _ ((World.cell?_setCell_other _ _ _ _ (by simp)).trans y1)
  have f : ∀ (o : Nat) (v : Value), W.cell? ⟨q, o, none⟩ = some v → w1.cell? ⟨q, o, none⟩ = some v := fun o v hv => by rw [← hw1]; exact (World.cell?_setCell_other _ _ _ _ (by simp <;> (intro h; exact absurd h hpq))).trans ((World.cell?_setCell_other _ _ _ _ (by simp <;> (intro h; exact absurd h hpq))).trans hv)
  rw [hw1]
  obtain ⟨r0, r1, r2⟩ := set3w (f 0 _ z0) (f 1 _ z1) (f 2 _ z2) (x := c0) (y := c1) (z := c2) rfl
  have k : ∀ (o : Nat) (v : Value), w1.cell? ⟨p, o, none⟩ = some v → (((w1.setCell ⟨q, 0, none⟩ c0).setCell ⟨q, 1, none⟩ c1).setCell ⟨q, 2, none⟩ c2).cell? ⟨p, o, none⟩ = some v := fun o v hv =>
    (World.cell?_setCell_other _ _ _ _ (by simp <;> (intro h; exact absurd h.symm hpq))).trans ((World.cell?_setCell_other _ _ _ _ (by simp <;> (intro h; exact absurd h.symm hpq))).trans ((World.cell?_setCell_other _ _ _ _ (by simp <;> (intro h; exact absurd h.symm hpq))).trans hv))
  exact ⟨k 0 _ e0, k 1 _ e1, r0, r1, r2⟩

set_option maxHeartbeats 3200000 in
set_option maxRecDepth 100000 in
theorem mcell_any (n : Nat) (k i a : U8) (r : RcR) (w : World) (hn : n ≤ 8) (hr : RdU w r) :
    Calls Tryz.prog 8 #[.int .i64 (n : Int), .agg #[enc8 k, enc8 i, enc8 a, r.1]] w fun e w' => e = .returned (.tuple #[.agg #[.int .i64 ((i.toNat % 10 : Nat) : Int), .int .i64 ((a.toNat % (n + 1) : Nat) : Int)], .agg #[.int .i64 (cellV r).1, .int .i64 (cellV r).2.1, .string (cellV r).2.2]]) ∧ Below w.heap.size w w' := by
  obtain ⟨u, m, cs⟩ := r
  obtain ⟨ao, cap, hu, hm, hc⟩ := hr
  simp only at hu hm hc
  subst hu
  show Calls _ _ #[.int .i64 (n : Int), .agg #[enc8 k, enc8 i, enc8 a, .slice ao m cap]] w _
  unfold enc8
  have n0 : (0 : Int) ≤ (n : Int) := by omega
  have n8 : (n : Int) ≤ 8 := by omega
  have i0 : (0 : Int) ≤ (i.toNat : Int) := by omega
  have i1 : (i.toNat : Int) ≤ 255 := by have := i.isLt; omega
  have a0 : (0 : Int) ≤ (a.toNat : Int) := by omega
  have a1 : (a.toNat : Int) ≤ 255 := by have := a.isLt; omega
  obtain ⟨I, hI⟩ : ∃ I, i.toNat % 10 = I := ⟨_, rfl⟩
  obtain ⟨A, hA⟩ : ∃ A, a.toNat % (n + 1) = A := ⟨_, rfl⟩
  have r1 : ((i.toNat : Nat) : Int).tmod 10 = (I : Int) := by rw [← hI]; exact Int.ofNat_tmod i.toNat 10
  have r2 : IntKind.i64.wrap (I : Int) = I := by rw [IntKind.wrap_i64]; omega
  have r3 : IntKind.i64.wrap ((a.toNat : Nat) : Int) = a.toNat := by rw [IntKind.wrap_i64]; omega
  have r4 : IntKind.i64.wrap ((n : Int) + 1) = (n : Int) + 1 := by rw [IntKind.wrap_i64]; omega
  have r5 : ¬ ((n : Int) + 1 = 0) := by omega
  have r6 : ((a.toNat : Nat) : Int).tmod ((n : Int) + 1) = (A : Int) := by rw [← hA]; exact Int.ofNat_tmod a.toNat (n + 1)
  rw [hI, hA]
  clear hI hA
  have C1 : ∀ W, Below (w.alloc (.cells #[.int .u8 (k.toNat : Int), .int .u8 (i.toNat : Int), .int .u8 (a.toNat : Int), .slice ao m cap] 32)).heap.size (w.alloc (.cells #[.int .u8 (k.toNat : Int), .int .u8 (i.toNat : Int), .int .u8 (a.toNat : Int), .slice ao m cap] 32)) W → _ := fun W h => cells4 (w := w) (a := .int .u8 (k.toNat : Int)) (b := .int .u8 (i.toNat : Int)) (c := .int .u8 (a.toNat : Int)) (d := .slice ao m cap) (t := 32) W h
  have b1 := below_alloc w (.cells #[.int .u8 (k.toNat : Int), .int .u8 (i.toNat : Int), .int .u8 (a.toNat : Int), .slice ao m cap] 32)
  have s1 : (w.alloc (.cells #[.int .u8 (k.toNat : Int), .int .u8 (i.toNat : Int), .int .u8 (a.toNat : Int), .slice ao m cap] 32)).heap.size = w.heap.size + 1 := by simp
  obtain ⟨w1, hw1⟩ : ∃ w1 : World, w.alloc (.cells #[.int .u8 (k.toNat : Int), .int .u8 (i.toNat : Int), .int .u8 (a.toNat : Int), .slice ao m cap] 32) = w1 := ⟨_, rfl⟩
  rw [hw1] at b1 s1 C1
  have b2 := below_alloc w1 (.cells #[.int .i64 0, .int .i64 0] 35)
  have C2 := fun W h => cells2 (w := w1) (a := .int .i64 0) (b := .int .i64 0) (t := 35) W h
  have s2 : (w1.alloc (.cells #[.int .i64 0, .int .i64 0] 35)).heap.size = w1.heap.size + 1 := by simp
  have f2 : ∀ j, (w1.alloc (.cells #[.int .i64 0, .int .i64 0] 35)).frozen? ⟨w1.heap.size, j, none⟩ = false := fun j => World.frozen?_alloc_new w1 _ _ j
  obtain ⟨w2, hw2⟩ : ∃ w2 : World, w1.alloc (.cells #[.int .i64 0, .int .i64 0] 35) = w2 := ⟨_, rfl⟩
  rw [hw2] at b2 s2 C2 f2
  have b3 := below_alloc w2 (.cells #[.int .i64 0, .int .i64 0, .string (ByteArray.mk #[])] 37)
  have C3 := fun W h => cells3 (w := w2) (a := .int .i64 0) (b := .int .i64 0) (c := .string (ByteArray.mk #[])) (t := 37) W h
  have s3 : (w2.alloc (.cells #[.int .i64 0, .int .i64 0, .string (ByteArray.mk #[])] 37)).heap.size = w2.heap.size + 1 := by simp
  have f3 : ∀ j, (w2.alloc (.cells #[.int .i64 0, .int .i64 0, .string (ByteArray.mk #[])] 37)).frozen? ⟨w2.heap.size, j, none⟩ = false := fun j => World.frozen?_alloc_new w2 _ _ j
  obtain ⟨w3, hw3⟩ : ∃ w3 : World, w2.alloc (.cells #[.int .i64 0, .int .i64 0, .string (ByteArray.mk #[])] 37) = w3 := ⟨_, rfl⟩
  rw [hw3] at b3 s3 C3 f3
  have b4 := below_alloc w3 (.cells #[.int .i64 0, .int .i64 0, .string (ByteArray.mk #[])] 37)
  have C4 := fun W h => cells3 (w := w3) (a := .int .i64 0) (b := .int .i64 0) (c := .string (ByteArray.mk #[])) (t := 37) W h
  have s4 : (w3.alloc (.cells #[.int .i64 0, .int .i64 0, .string (ByteArray.mk #[])] 37)).heap.size = w3.heap.size + 1 := by simp
  have f4 : ∀ j, (w3.alloc (.cells #[.int .i64 0, .int .i64 0, .string (ByteArray.mk #[])] 37)).frozen? ⟨w3.heap.size, j, none⟩ = false := fun j => World.frozen?_alloc_new w3 _ _ j
  obtain ⟨w4, hw4⟩ : ∃ w4 : World, w3.alloc (.cells #[.int .i64 0, .int .i64 0, .string (ByteArray.mk #[])] 37) = w4 := ⟨_, rfl⟩
  rw [hw4] at b4 s4 C4 f4
  have W4 := hid (show (((w.alloc (.cells #[.int .u8 (k.toNat : Int), .int .u8 (i.toNat : Int), .int .u8 (a.toNat : Int), .slice ao m cap] 32)).alloc (.cells #[.int .i64 0, .int .i64 0] 35)).alloc (.cells #[.int .i64 0, .int .i64 0, .string (ByteArray.mk #[])] 37)).alloc (.cells #[.int .i64 0, .int .i64 0, .string (ByteArray.mk #[])] 37) = w4 by rw [hw1, hw2, hw3, hw4])
  have BB := hid (show Below w.heap.size w w4 from ((b1.trans (b2.mono (by omega))).trans (b3.mono (by omega))).trans (b4.mono (by omega)))
  have S4 := hid (show w4.heap.size = w.heap.size + 4 by omega)
  rw [s1] at C2 f2
  rw [show w2.heap.size = w.heap.size + 1 + 1 by omega] at C3 f3
  rw [show w3.heap.size = w.heap.size + 1 + 1 + 1 by omega] at C4 f4
  have KF := hid (fun (W : World) (h : Below w4.heap.size w4 W) => show (W.cell? ⟨w.heap.size, 1, none⟩ = some (.int .u8 (i.toNat : Int)) ∧ W.cell? ⟨w.heap.size, 2, none⟩ = some (.int .u8 (a.toNat : Int)) ∧ W.cell? ⟨w.heap.size, 3, none⟩ = some (.slice ao m cap)) ∧ (W.cell? ⟨w.heap.size + 1, 0, none⟩ = some (.int .i64 0) ∧ W.cell? ⟨w.heap.size + 1, 1, none⟩ = some (.int .i64 0)) ∧ (W.cell? ⟨w.heap.size + 1 + 1, 0, none⟩ = some (.int .i64 0) ∧ W.cell? ⟨w.heap.size + 1 + 1, 1, none⟩ = some (.int .i64 0) ∧ W.cell? ⟨w.heap.size + 1 + 1, 2, none⟩ = some (.string (ByteArray.mk #[]))) ∧ (W.cell? ⟨w.heap.size + 1 + 1 + 1, 0, none⟩ = some (.int .i64 0) ∧ W.cell? ⟨w.heap.size + 1 + 1 + 1, 1, none⟩ = some (.int .i64 0) ∧ W.cell? ⟨w.heap.size + 1 + 1 + 1, 2, none⟩ = some (.string (ByteArray.mk #[]))) ∧ (∀ j, W.frozen? ⟨w.heap.size + 1, j, none⟩ = false) ∧ (∀ j, W.frozen? ⟨w.heap.size + 1 + 1, j, none⟩ = false) ∧ (∀ j, W.frozen? ⟨w.heap.size + 1 + 1 + 1, j, none⟩ = false) from by
    have h4 := b4.trans (h.mono b4.size)
    have h3 := b3.trans (h4.mono b3.size)
    have h2 := b2.trans (h3.mono b2.size)
    obtain ⟨-, x1, x2, x3⟩ := C1 W h2
    exact ⟨⟨x1, x2, x3⟩, C2 W h3, C3 W h4, C4 W h, fun j => (h3.frozen (p := ⟨w.heap.size + 1, j, none⟩) (by show w.heap.size + 1 < _; omega)).trans (f2 j), fun j => (h4.frozen (p := ⟨w.heap.size + 1 + 1, j, none⟩) (by show w.heap.size + 1 + 1 < _; omega)).trans (f3 j), fun j => (h.frozen (p := ⟨w.heap.size + 1 + 1 + 1, j, none⟩) (by show w.heap.size + 1 + 1 + 1 < _; omega)).trans (f4 j)⟩)
  have HC := hid (fun (x : Nat) (hx : x < m) => show ∃ b off, ao = some ⟨b, off, none⟩ ∧ ∀ W, Below w4.heap.size w4 W → W.cell? ⟨b, off + x, none⟩ = some (enc8 (cs x)) from by
    obtain ⟨b, off, e, hb, h1⟩ := hc x hx
    have hb4 : b < w4.heap.size := by have := BB.out.size; omega
    exact ⟨b, off, e, fun W h => (h.cell (p := ⟨b, off + x, none⟩) hb4).trans ((BB.out.cell (p := ⟨b, off + x, none⟩) hb).trans h1)⟩)
  obtain ⟨⟨x1, x2, x3⟩, ⟨y0, y1⟩, ⟨z0, z1, z2⟩, ⟨v0, v1, v2⟩, g1, g2, g3⟩ := KF.out w4 (Below.refl _ _)
  have g10 := g1 0
  have g11 := g1 1
  have g20 := g2 0
  have g21 := g2 1
  have g22 := g2 2
  have g30 := g3 0
  have g31 := g3 1
  have g32 := g3 2
  clear b1 b2 b3 b4 s1 s2 s3 s4 C1 C2 C3 C4 f2 f3 f4 hw1 hw2 hw3 hw4 hc g1 g2 g3
  by_cases hm0 : 0 < m
  · obtain ⟨b, off, rfl, hcell⟩ := HC.out 0 hm0
    have e0 := hcell w4 (Below.refl _ _)
    have CO := hid (fun (W : World) => code_any (cs 0) W)
    have CV := hid (show cellV (.slice (some ⟨b, off, none⟩) m cap, m, cs) = codeV ((cs 0).toNat % 12) from if_pos hm0)
    rw [CV.out]
    unfold enc8 at e0
    rw [Nat.add_zero] at e0
    have hmI : (0 : Int) < (m : Int) := by omega
    generalize codeV ((cs 0).toNat % 12) = x at *
    clear hcell
    go_enter Tryz.func8, Tryz.ntmps8
    go_upto_region 2 with fail
    rw [W4.out]
    go_wp2_with fail
    refine (CO.out w4).mono ?_
    rintro e w5 ⟨rfl, hb5⟩
    have B5 := hid hb5
    obtain ⟨⟨x1, x2, x3⟩, ⟨y0, y1⟩, ⟨z0, z1, z2⟩, ⟨v0, v1, v2⟩, g1, g2, g3⟩ := KF.out w5 hb5
    have g10 := g1 0
    have g11 := g1 1
    have g20 := g2 0
    have g21 := g2 1
    have g22 := g2 2
    have g30 := g3 0
    have g31 := g3 1
    have g32 := g3 2
    obtain ⟨s0, s1, s2⟩ := set3w v0 v1 v2 (x := .int .i64 x.1) (y := .int .i64 x.2.1) (z := .string x.2.2) rfl
    have kf : ∀ (bb o : Nat) (v : Value), bb ≠ w.heap.size + 1 + 1 + 1 → w5.cell? ⟨bb, o, none⟩ = some v → (((w5.setCell ⟨w.heap.size + 1 + 1 + 1, 0, none⟩ (.int .i64 x.1)).setCell ⟨w.heap.size + 1 + 1 + 1, 1, none⟩ (.int .i64 x.2.1)).setCell ⟨w.heap.size + 1 + 1 + 1, 2, none⟩ (.string x.2.2)).cell? ⟨bb, o, none⟩ = some v := fun bb o v hb hv =>
      (World.cell?_setCell_other _ _ _ _ (by simp <;> (intro h; exact absurd h.symm hb))).trans ((World.cell?_setCell_other _ _ _ _ (by simp <;> (intro h; exact absurd h.symm hb))).trans ((World.cell?_setCell_other _ _ _ _ (by simp <;> (intro h; exact absurd h.symm hb))).trans hv))
    have X1 := kf _ _ _ (by omega) x1
    have X2 := kf _ _ _ (by omega) x2
    have Y0 := kf _ _ _ (by omega) y0
    have Y1 := kf _ _ _ (by omega) y1
    have Z0 := kf _ _ _ (by omega) z0
    have Z1 := kf _ _ _ (by omega) z1
    have Z2 := kf _ _ _ (by omega) z2
    obtain ⟨w6, hw6⟩ : ∃ w6 : World, ((w5.setCell ⟨w.heap.size + 1 + 1 + 1, 0, none⟩ (.int .i64 x.1)).setCell ⟨w.heap.size + 1 + 1 + 1, 1, none⟩ (.int .i64 x.2.1)).setCell ⟨w.heap.size + 1 + 1 + 1, 2, none⟩ (.string x.2.2) = w6 := ⟨_, rfl⟩
    rw [hw6] at s0 s1 s2 X1 X2 Y0 Y1 Z0 Z1 Z2
    have h10 : w6.frozen? ⟨w.heap.size + 1, 0, none⟩ = false := by rw [← hw6]; simp [g10]
    have h11 : w6.frozen? ⟨w.heap.size + 1, 1, none⟩ = false := by rw [← hw6]; simp [g11]
    have h20 : w6.frozen? ⟨w.heap.size + 1 + 1, 0, none⟩ = false := by rw [← hw6]; simp [g20]
    have h21 : w6.frozen? ⟨w.heap.size + 1 + 1, 1, none⟩ = false := by rw [← hw6]; simp [g21]
    have h22 : w6.frozen? ⟨w.heap.size + 1 + 1, 2, none⟩ = false := by rw [← hw6]; simp [g22]
    have B6 := hid (show Below w.heap.size w w6 by
      rw [← hw6]
      have h := BB.out.trans (B5.out.mono BB.out.size)
      exact ((h.setCell (p := ⟨w.heap.size + 1 + 1 + 1, 0, none⟩) (by simp; omega) _).setCell (p := ⟨w.heap.size + 1 + 1 + 1, 1, none⟩) (by simp; omega) _).setCell (p := ⟨w.heap.size + 1 + 1 + 1, 2, none⟩) (by simp; omega) _)
    have W6 := hid hw6
    clear hw6 g1 g2 g3 hb5 kf
    go_upto_region 4 with fail
    rw [W6.out]
    clear x1 x2 x3 y0 y1 z0 z1 z2 v0 v1 v2 g10 g11 g20 g21 g22 g30 g31 g32 e0
    go_region_law (fail)
    all_goals
      go_wp2_with fail
      obtain ⟨wf, hwf⟩ : ∃ wf : World, (((((w6.setCell ⟨w.heap.size + 1, 0, none⟩ (.int .i64 I)).setCell ⟨w.heap.size + 1, 1, none⟩ (.int .i64 A)).setCell ⟨w.heap.size + 1 + 1, 0, none⟩ (.int .i64 x.1)).setCell ⟨w.heap.size + 1 + 1, 1, none⟩ (.int .i64 x.2.1)).setCell ⟨w.heap.size + 1 + 1, 2, none⟩ (.string x.2.2)).drew = wf := ⟨_, rfl⟩
      have QB : Below w.heap.size w wf := by rw [← hwf]; exact ((((((B6.out.setCell (p := ⟨w.heap.size + 1, 0, none⟩) (by simp) _).setCell (p := ⟨w.heap.size + 1, 1, none⟩) (by simp) _).setCell (p := ⟨w.heap.size + 1 + 1, 0, none⟩) (by simp; omega) _).setCell (p := ⟨w.heap.size + 1 + 1, 1, none⟩) (by simp; omega) _).setCell (p := ⟨w.heap.size + 1 + 1, 2, none⟩) (by simp; omega) _)).drew
      obtain ⟨q0, q1, p0, p1, p2⟩ := fin5 (by omega) Y0 Y1 Z0 Z1 Z2 hwf
      rw [hwf]
      exact bodyPost_ret (v := .tuple #[.agg #[.int .i64 I, .int .i64 A], .agg #[.int .i64 x.1, .int .i64 x.2.1, .string x.2.2]]) (by simp [results, Tryz.results8, go_sem, q0, q1, p0, p1, p2]) rfl ⟨rfl, QB⟩
  · have CV0 : cellV (.slice ao m cap, m, cs) = (0, 0, ByteArray.mk #[]) := if_neg hm0
    rw [CV0]
    go_enter Tryz.func8, Tryz.ntmps8
    go_upto_region 2 with fail
    rw [W4.out]
    have hmI : ¬ (0 : Int) < (m : Int) := by omega
    go_wp2_with fail
    go_region_law (fail)
    all_goals
      go_wp2_with fail
      obtain ⟨wf, hwf⟩ : ∃ wf : World, (((((w4.setCell ⟨w.heap.size + 1, 0, none⟩ (.int .i64 I)).setCell ⟨w.heap.size + 1, 1, none⟩ (.int .i64 A)).setCell ⟨w.heap.size + 1 + 1, 0, none⟩ (.int .i64 0)).setCell ⟨w.heap.size + 1 + 1, 1, none⟩ (.int .i64 0)).setCell ⟨w.heap.size + 1 + 1, 2, none⟩ (.string (ByteArray.mk #[]))).drew = wf := ⟨_, rfl⟩
      have QB : Below w.heap.size w wf := by rw [← hwf]; exact ((((((BB.out.setCell (p := ⟨w.heap.size + 1, 0, none⟩) (by simp) _).setCell (p := ⟨w.heap.size + 1, 1, none⟩) (by simp) _).setCell (p := ⟨w.heap.size + 1 + 1, 0, none⟩) (by simp; omega) _).setCell (p := ⟨w.heap.size + 1 + 1, 1, none⟩) (by simp; omega) _).setCell (p := ⟨w.heap.size + 1 + 1, 2, none⟩) (by simp; omega) _)).drew
      obtain ⟨q0, q1, p0, p1, p2⟩ := fin5 (by omega) y0 y1 z0 z1 z2 hwf
      rw [hwf]
      exact bodyPost_ret (v := .tuple #[.agg #[.int .i64 I, .int .i64 A], .agg #[.int .i64 0, .int .i64 0, .string (ByteArray.mk #[])]]) (by simp [results, Tryz.results8, go_sem, q0, q1, p0, p1, p2]) rfl ⟨rfl, QB⟩

end Go.Proofs.YtdiafhbbmliefaaGreatDoor


/- The walk of drossref33.Row. -/
namespace Go.Proofs.YtdiafhbbmliefaaGreatDoor
open Go.RowKit
set_option linter.unusedVariables false

def zeroV3 : V3 := (0, 0, ByteArray.mk #[])
def rowV (r : RcR) (n : Nat) : List V3 := valsR r n ++ (if 8 < r.2.1 then [zeroV3] else [])

theorem row_fin {W wf : World} {B p : Nat} {v a0 a1 x : Value} {ys : List V3} (hp : p < B) (y0 : W.cell? ⟨p, 0, none⟩ = some a0) (y1 : W.cell? ⟨p, 1, none⟩ = some a1) (hown : W.ownsRow B 37 3 v ys.length (ys.flatMap cV))
    (hwf : (W.setCell ⟨p, 0, none⟩ x).setCell ⟨p, 1, none⟩ v = wf) : wf.cell? ⟨p, 0, none⟩ = some x ∧ wf.cell? ⟨p, 1, none⟩ = some v ∧ wf.ownsRow B 37 3 v ys.length (ys.flatMap cV) := by
  subst hwf
  refine ⟨(World.cell?_setCell_other _ _ _ _ (by simp)).trans (World.cell?_setCell_same _ _ _ y0), World.cell?_setCell_same _ _ _ ((World.cell?_setCell_other _ _ _ _ (by simp)).trans y1), ?_⟩
  exact ownsRow_setCell_other (ownsRow_setCell_other hown (a := ⟨p, 0, none⟩) (fun e => absurd (hown.lt _ e).1 (Nat.not_le.2 hp)) _) (a := ⟨p, 1, none⟩) (fun e => absurd (hown.lt _ e).1 (Nat.not_le.2 hp)) _

set_option maxHeartbeats 3200000 in
set_option maxRecDepth 100000 in
theorem mrow_any (n : Nat) (k9 i a : U8) (r : RcR) (w : World) (hn : n ≤ 8) (hr : RdU w r) :
    Calls Tryz.prog 11 #[.int .i64 (n : Int), .agg #[enc8 k9, enc8 i, enc8 a, r.1]] w fun e w' => ∃ v', e = .returned (.agg #[.int .i64 ((i.toNat % 10 : Nat) : Int), v']) ∧ RdV w' v' (rowV r n) ∧ (∀ j, j < w.heap.size → FarV v' (some j)) ∧ Below w.heap.size w w' := by
  have n0 : (0 : Int) ≤ (n : Int) := by omega
  have i0 : (0 : Int) ≤ (i.toNat : Int) := by omega
  have i1 : (i.toNat : Int) ≤ 255 := by have := i.isLt; omega
  obtain ⟨rid0, hI⟩ : ∃ I, i.toNat % 10 = I := ⟨_, rfl⟩
  have r1 : ((i.toNat : Nat) : Int).tmod 10 = (rid0 : Int) := by rw [← hI]; exact Int.ofNat_tmod i.toNat 10
  have r2 : IntKind.i64.wrap (rid0 : Int) = rid0 := by rw [IntKind.wrap_i64]; omega
  rw [hI]
  clear hI
  obtain ⟨u, m, cs⟩ := r
  have HRU := hid hr
  obtain ⟨co, ccap, hreq0, hlen0, -⟩ := hr
  simp only at hreq0 hlen0
  subst hreq0
  show Calls _ _ #[.int .i64 (n : Int), .agg #[enc8 k9, enc8 i, enc8 a, .slice co m ccap]] w _
  obtain ⟨r, hR⟩ : ∃ r : RcR, ((.slice co m ccap, m, cs) : RcR) = r := ⟨_, rfl⟩
  have VN := hid (fun k => valsR_next r k)
  have VL := hid (fun k => valsR_length r k)
  have CIN := hid (show ∀ k, k < m → codeR r k = (cs k).toNat % 12 from fun k hk => by rw [← hR]; unfold codeR; exact if_pos hk)
  have COUT := hid (show ∀ k, ¬ k < m → codeR r k = 0 from fun k hk => by rw [← hR]; unfold codeR; exact if_neg hk)
  have RV := hid (show rowV r n = valsR r n ++ (if 8 < m then [zeroV3] else []) from by rw [← hR]; rfl)
  rw [hR] at HRU ⊢
  have RDU := hid (fun (W : World) (h : RdU W r) (k : Nat) (hk : k < m) => show ∃ b off, co = some ⟨b, off, none⟩ ∧ W.cell? ⟨b, off + k, none⟩ = some (.int .u8 ((cs k).toNat : Int)) from by
    rw [← hR] at h
    obtain ⟨co', ccap', e, -, h2⟩ := h
    simp only [Value.slice.injEq] at e
    obtain ⟨rfl, -, rfl⟩ := e
    obtain ⟨b, off, e2, -, hc⟩ := h2 k hk
    exact ⟨b, off, e2, hc⟩)
  have hmI : (m : Int) ≤ 140737488355328 := by omega
  clear hR
  unfold enc8
  have C1 : ∀ W, Below (w.alloc (.cells #[.int .u8 (k9.toNat : Int), .int .u8 (i.toNat : Int), .int .u8 (a.toNat : Int), .slice co m ccap] 32)).heap.size (w.alloc (.cells #[.int .u8 (k9.toNat : Int), .int .u8 (i.toNat : Int), .int .u8 (a.toNat : Int), .slice co m ccap] 32)) W → _ := fun W h => cells4 (w := w) (a := .int .u8 (k9.toNat : Int)) (b := .int .u8 (i.toNat : Int)) (c := .int .u8 (a.toNat : Int)) (d := .slice co m ccap) (t := 32) W h
  have b1 := below_alloc w (.cells #[.int .u8 (k9.toNat : Int), .int .u8 (i.toNat : Int), .int .u8 (a.toNat : Int), .slice co m ccap] 32)
  have s1 : (w.alloc (.cells #[.int .u8 (k9.toNat : Int), .int .u8 (i.toNat : Int), .int .u8 (a.toNat : Int), .slice co m ccap] 32)).heap.size = w.heap.size + 1 := by simp
  obtain ⟨w1, hw1⟩ : ∃ w1 : World, w.alloc (.cells #[.int .u8 (k9.toNat : Int), .int .u8 (i.toNat : Int), .int .u8 (a.toNat : Int), .slice co m ccap] 32) = w1 := ⟨_, rfl⟩
  rw [hw1] at b1 s1 C1
  have b2 := below_alloc w1 (.cells #[.int .i64 0, .slice none 0 0] 44)
  have C2 := fun W h => cells2 (w := w1) (a := .int .i64 0) (b := .slice none 0 0) (t := 44) W h
  have s2 : (w1.alloc (.cells #[.int .i64 0, .slice none 0 0] 44)).heap.size = w1.heap.size + 1 := by simp
  have f2 : ∀ j, (w1.alloc (.cells #[.int .i64 0, .slice none 0 0] 44)).frozen? ⟨w1.heap.size, j, none⟩ = false := fun j => World.frozen?_alloc_new w1 _ _ j
  obtain ⟨wo, hwo⟩ : ∃ wo : World, w1.alloc (.cells #[.int .i64 0, .slice none 0 0] 44) = wo := ⟨_, rfl⟩
  rw [hwo] at b2 s2 C2 f2
  rw [s1] at C2 f2
  have WO := hid (show (w.alloc (.cells #[.int .u8 (k9.toNat : Int), .int .u8 (i.toNat : Int), .int .u8 (a.toNat : Int), .slice co m ccap] 32)).alloc (.cells #[.int .i64 0, .slice none 0 0] 44) = wo by rw [hw1, hwo])
  have BW := hid (show Below w.heap.size w wo from b1.trans (b2.mono (by omega)))
  have SO := hid (show wo.heap.size = w.heap.size + 1 + 1 by omega)
  have KF := hid (fun (W : World) (h : Below wo.heap.size wo W) => show (W.cell? ⟨w.heap.size, 1, none⟩ = some (.int .u8 (i.toNat : Int)) ∧ W.cell? ⟨w.heap.size, 3, none⟩ = some (.slice co m ccap)) ∧ (W.cell? ⟨w.heap.size + 1, 0, none⟩ = some (.int .i64 0) ∧ W.cell? ⟨w.heap.size + 1, 1, none⟩ = some (.slice none 0 0)) ∧ (∀ j, W.frozen? ⟨w.heap.size + 1, j, none⟩ = false) ∧ RdU W r from by
    have h2 := b2.trans (h.mono b2.size)
    obtain ⟨-, x1, x2, x3⟩ := C1 W h2
    exact ⟨⟨x1, x3⟩, C2 W h, fun j => (h.frozen (p := ⟨w.heap.size + 1, j, none⟩) (by show w.heap.size + 1 < _; omega)).trans (f2 j), HRU.out.below (BW.out.trans (h.mono BW.out.size))⟩)
  obtain ⟨⟨x1, x3⟩, ⟨y0, y1⟩, g1, ru⟩ := KF.out wo (Below.refl _ _)
  have g10 := g1 0
  have g11 := g1 1
  clear b1 b2 s1 s2 C1 C2 f2 hw1 hwo g1 ru hlen0
  go_enter Tryz.func11, Tryz.ntmps11
  go_upto_region 2 with fail
  rw [WO.out, ← SO.out]
  -- MARK
  have KZ := hid (fun (W : World) (h : Below wo.heap.size wo W) => KF.out W h)
  have RS := hid (show ((wo.alloc (.cells #[.int .i64 (rid0 : Int), .slice none 0 0] 44)).cell? ⟨wo.heap.size, 0, none⟩ = some (.int .i64 (rid0 : Int)) ∧ (wo.alloc (.cells #[.int .i64 (rid0 : Int), .slice none 0 0] 44)).cell? ⟨wo.heap.size, 1, none⟩ = some (.slice none 0 0)) ∧ (wo.alloc (.cells #[.int .i64 (rid0 : Int), .slice none 0 0] 44)).frozen? ⟨wo.heap.size, 1, none⟩ = false ∧ Below wo.heap.size wo (wo.alloc (.cells #[.int .i64 (rid0 : Int), .slice none 0 0] 44)) from ⟨cells2 (w := wo) _ (Below.refl _ _), World.frozen?_alloc_new wo _ _ 1, below_alloc wo _⟩)
  obtain ⟨rid, hrid⟩ : ∃ rid : Int, (rid0 : Int) = rid := ⟨_, rfl⟩
  rw [hrid] at RS ⊢
  have HRID := hid hrid
  clear hrid x1 x3 y0 y1 g10 g11
  go_wp2_with fail
  go_loopw [6] (fun j wr => ∃ (k : Nat) (vv : Value), k ≤ n ∧ j = .int .i64 k ∧ (wr.cell? ⟨wo.heap.size, 0, none⟩ = some (.int .i64 rid) ∧ wr.cell? ⟨wo.heap.size, 1, none⟩ = some vv) ∧ wr.frozen? ⟨wo.heap.size, 1, none⟩ = false ∧ wr.ownsRow (wo.heap.size + 1) 37 3 vv (valsR r k).length ((valsR r k).flatMap cV) ∧ Below wo.heap.size wo wr) (fun j _ => n - (intOf j).toNat)
  case atStart => exact ⟨0, _, Nat.zero_le _, rfl, RS.out.1, RS.out.2.1, World.ownsRow_nil _ _ _ _, RS.out.2.2⟩
  case round =>
    obtain ⟨k, vv, hk2, rfl, ⟨c0, c1⟩, cf, hown2, hnx2⟩ := hrel
    have hsz2 := hnx2.size
    have hvl := VL.out k
    have HVL := hid hvl
    have j0 : (0 : Int) ≤ (k : Int) := by omega
    obtain ⟨⟨x1, x3⟩, -, -, ru⟩ := KZ.out wr hnx2
    by_cases hlt2 : k < n
    · have VN := hid (VN.out k)
      have HVB := hid (show (valsR r k).length < 2199023255552 by omega)
      have hrb : wo.heap.size < wr.heap.size := World.block_lt_of_cell? _ _ c1
      have KS := hid (fun (W : World) (h : Below wr.heap.size wr W) => And.intro ((h.cell (p := ⟨wo.heap.size, 0, none⟩) hrb).trans c0) (And.intro ((h.cell (p := ⟨wo.heap.size, 1, none⟩) hrb).trans c1) ((h.frozen (p := ⟨wo.heap.size, 1, none⟩) hrb).trans cf)))
      have HVC := hid (fun x : V3 => show (valsR r k ++ [x]).length ≤ 35184372088832 by rw [List.length_append, valsR_length]; simp; omega)
      have HNE := hid (show some wo.heap.size ≠ vv.ownBlock from fun e => by have := (hown2.lt _ e.symm).1; omega)
      clear hvl
      by_cases hcl : k < m
      · have hclI : (k : Int) < (m : Int) := by omega
        obtain ⟨cb, coff, rfl, hcc'⟩ := RDU.out wr ru k hcl
        have CV := hid (fun (W : World) => code_any (cs k) W)
        rw [← CIN.out k hcl] at CV
        generalize codeV (codeR r k) = x at *
        generalize ((cs k).toNat : Int) = cint at *
        clear ru
        go_wp2_with fail
        go_region_law (first
          | (go_simp; go_at_call 31; refine (CV.out _).mono ?_; rintro e w5 ⟨rfl, hb5⟩; have hL := (below_drewN wr.heap.size wr 1).trans hb5; have hq5 : wo.heap.size + 1 ≤ w5.heap.size := (by have := hL.size; omega); have ho5 := own_below hown2.drew hb5; obtain ⟨d0, d1, d2⟩ := KS.out _ hL; obtain ⟨a0, a1, a2⟩ := KS.out _ (hL.alloc hL.size (.cells #[.int .i64 x.1, .int .i64 x.2.1, .string x.2.2] 37)); clear hb5)
          | ((have hA := ho5.alloc (.cells #[.int .i64 x.1, .int .i64 x.2.1, .string x.2.2] 37); have hB : wo.heap.size + 1 ≤ (w5.alloc (.cells #[.int .i64 x.1, .int .i64 x.2.1, .string x.2.2] 37)).heap.size := Nat.le_trans hq5 (by simp); refine step_pushC (by rfl) _ _ 42 (by rfl) (wo.heap.size + 1) 37 (.agg #[.int .i64 0, .int .i64 0, .string (ByteArray.mk #[])]) 3 32 undVs infoV rfl (by decide) (by decide) cV cV_length cV_one _ (valsR r k) (by rfl) hA ⟨w5.heap.size, 0, none⟩ x (by rfl) (cells_newV w5 x) HVB.out hB ?_; intro v6 w6 hown6 hgrow; obtain ⟨ao6, cap6, rfl, -⟩ := RdC.of_owns cV_length hown6 (HVC.out x); have f0 := (hgrow.cell_far ⟨wo.heap.size, 0, none⟩ (World.block_lt_of_cell? _ _ a0) HNE.out).trans a0; have f1 := (hgrow.cell_far ⟨wo.heap.size, 1, none⟩ (World.block_lt_of_cell? _ _ a1) HNE.out).trans a1; have f2 := (hgrow.frozen_far ⟨wo.heap.size, 1, none⟩ (World.block_lt_of_cell? _ _ a1) HNE.out).trans a2)))
        all_goals
          have hb6 := below_push (hnx2.trans (hL.mono hsz2)) (Nat.le_of_succ_le hq5) (own_mono ho5 (by omega)) hgrow
          rw [show (valsR r k).length + 1 = (valsR r k ++ [x]).length by simp]
          have OW6 := hid (ownsRow_setCell_other hown6 (a := ⟨wo.heap.size, 1, none⟩) (fun e => Nat.not_succ_le_self _ (hown6.lt _ e).1) (.slice ao6 (valsR r k ++ [x]).length cap6))
          have B6 := hid (hb6.setCell (p := ⟨wo.heap.size, 1, none⟩) (by simp) (.slice ao6 (valsR r k ++ [x]).length cap6))
          have g0 : (w6.setCell ⟨wo.heap.size, 1, none⟩ (.slice ao6 (valsR r k ++ [x]).length cap6)).cell? ⟨wo.heap.size, 0, none⟩ = some (.int .i64 rid) := (World.cell?_setCell_other _ _ _ _ (by simp)).trans f0
          have g1 : (w6.setCell ⟨wo.heap.size, 1, none⟩ (.slice ao6 (valsR r k ++ [x]).length cap6)).cell? ⟨wo.heap.size, 1, none⟩ = some (.slice ao6 (valsR r k ++ [x]).length cap6) := World.cell?_setCell_same _ _ _ f1
          have g2 : (w6.setCell ⟨wo.heap.size, 1, none⟩ (.slice ao6 (valsR r k ++ [x]).length cap6)).frozen? ⟨wo.heap.size, 1, none⟩ = false := by simp [f2]
          have GG := hid (And.intro g0 (And.intro g1 g2))
          clear g0 g1 g2 f0 f1 f2 a0 a1 a2 d0 d1 d2 hA hB hgrow hb6 hown6 hL ho5 hq5
          generalize w6.setCell ⟨wo.heap.size, 1, none⟩ (.slice ao6 (valsR r k ++ [x]).length cap6) = w7 at *
          go_wp2_with fail
          go_roundw
          case rel => exact ⟨k + 1, _, by omega, by go_num, ⟨GG.out.1, GG.out.2.1⟩, GG.out.2.2, by rw [VN.out]; exact OW6.out, B6.out⟩
          case measure => simp [intOf]; omega
      · have hclI : ¬ (k : Int) < (m : Int) := by omega
        have CV := hid (fun (W : World) => code_any 0 W)
        rw [show (0 : U8).toNat % 12 = codeR r k by rw [COUT.out k hcl]; rfl] at CV
        generalize codeV (codeR r k) = x at *
        clear ru
        go_wp2_with fail
        go_region_law (first
          | (go_simp; go_at_call 31; refine (CV.out _).mono ?_; rintro e w5 ⟨rfl, hb5⟩; have hL := (below_drewN wr.heap.size wr 1).trans hb5; have hq5 : wo.heap.size + 1 ≤ w5.heap.size := (by have := hL.size; omega); have ho5 := own_below hown2.drew hb5; obtain ⟨d0, d1, d2⟩ := KS.out _ hL; obtain ⟨a0, a1, a2⟩ := KS.out _ (hL.alloc hL.size (.cells #[.int .i64 x.1, .int .i64 x.2.1, .string x.2.2] 37)); clear hb5)
          | ((have hA := ho5.alloc (.cells #[.int .i64 x.1, .int .i64 x.2.1, .string x.2.2] 37); have hB : wo.heap.size + 1 ≤ (w5.alloc (.cells #[.int .i64 x.1, .int .i64 x.2.1, .string x.2.2] 37)).heap.size := Nat.le_trans hq5 (by simp); refine step_pushC (by rfl) _ _ 42 (by rfl) (wo.heap.size + 1) 37 (.agg #[.int .i64 0, .int .i64 0, .string (ByteArray.mk #[])]) 3 32 undVs infoV rfl (by decide) (by decide) cV cV_length cV_one _ (valsR r k) (by rfl) hA ⟨w5.heap.size, 0, none⟩ x (by rfl) (cells_newV w5 x) HVB.out hB ?_; intro v6 w6 hown6 hgrow; obtain ⟨ao6, cap6, rfl, -⟩ := RdC.of_owns cV_length hown6 (HVC.out x); have f0 := (hgrow.cell_far ⟨wo.heap.size, 0, none⟩ (World.block_lt_of_cell? _ _ a0) HNE.out).trans a0; have f1 := (hgrow.cell_far ⟨wo.heap.size, 1, none⟩ (World.block_lt_of_cell? _ _ a1) HNE.out).trans a1; have f2 := (hgrow.frozen_far ⟨wo.heap.size, 1, none⟩ (World.block_lt_of_cell? _ _ a1) HNE.out).trans a2)))
        all_goals
          have hb6 := below_push (hnx2.trans (hL.mono hsz2)) (Nat.le_of_succ_le hq5) (own_mono ho5 (by omega)) hgrow
          rw [show (valsR r k).length + 1 = (valsR r k ++ [x]).length by simp]
          have OW6 := hid (ownsRow_setCell_other hown6 (a := ⟨wo.heap.size, 1, none⟩) (fun e => Nat.not_succ_le_self _ (hown6.lt _ e).1) (.slice ao6 (valsR r k ++ [x]).length cap6))
          have B6 := hid (hb6.setCell (p := ⟨wo.heap.size, 1, none⟩) (by simp) (.slice ao6 (valsR r k ++ [x]).length cap6))
          have g0 : (w6.setCell ⟨wo.heap.size, 1, none⟩ (.slice ao6 (valsR r k ++ [x]).length cap6)).cell? ⟨wo.heap.size, 0, none⟩ = some (.int .i64 rid) := (World.cell?_setCell_other _ _ _ _ (by simp)).trans f0
          have g1 : (w6.setCell ⟨wo.heap.size, 1, none⟩ (.slice ao6 (valsR r k ++ [x]).length cap6)).cell? ⟨wo.heap.size, 1, none⟩ = some (.slice ao6 (valsR r k ++ [x]).length cap6) := World.cell?_setCell_same _ _ _ f1
          have g2 : (w6.setCell ⟨wo.heap.size, 1, none⟩ (.slice ao6 (valsR r k ++ [x]).length cap6)).frozen? ⟨wo.heap.size, 1, none⟩ = false := by simp [f2]
          have GG := hid (And.intro g0 (And.intro g1 g2))
          clear g0 g1 g2 f0 f1 f2 a0 a1 a2 d0 d1 d2 hA hB hgrow hb6 hown6 hL ho5 hq5
          generalize w6.setCell ⟨wo.heap.size, 1, none⟩ (.slice ao6 (valsR r k ++ [x]).length cap6) = w7 at *
          go_wp2_with fail
          go_roundw
          case rel => exact ⟨k + 1, _, by omega, by go_num, ⟨GG.out.1, GG.out.2.1⟩, GG.out.2.2, by rw [VN.out]; exact OW6.out, B6.out⟩
          case measure => simp [intOf]; omega
    · obtain rfl : n = k := by omega
      by_cases h8 : 8 < m
      · have h8I : (8 : Int) < (m : Int) := by omega
        obtain ⟨z1, ⟨y0, y1⟩, g1, -⟩ := KZ.out wr hnx2
        have hrb : wo.heap.size < wr.heap.size := World.block_lt_of_cell? _ _ c1
        have HNE := hid (show some wo.heap.size ≠ vv.ownBlock from fun e => by have := (hown2.lt _ e.symm).1; omega)
        have HN1 := hid (show some (w.heap.size + 1) ≠ vv.ownBlock from fun e => by have := (hown2.lt _ e.symm).1; have := SO.out; omega)
        have HLT1 := hid (show w.heap.size + 1 < wr.heap.size by have := SO.out; omega)
        have BA := hid (below_alloc wr (.cells #[.int .i64 0, .int .i64 0, .string (ByteArray.mk #[])] 37))
        have CC := hid (And.intro c0 (And.intro c1 (And.intro cf (And.intro y0 (And.intro y1 g1)))))
        have HNX := hid hnx2
        have HOW := hid hown2
        have HRB := hid hrb
        clear y0 y1 g1 hnx2 hown2 hrb
        go_wp2_with (at_builtin; refine wpList_pushC rfl _ _ 42 rfl (wo.heap.size + 1) 37 (.agg #[.int .i64 0, .int .i64 0, .string (ByteArray.mk #[])]) 3 32 undVs infoV rfl (by decide) (by decide) cV cV_length cV_one _ (valsR r n) (by rfl) (HOW.out.alloc (.cells #[.int .i64 0, .int .i64 0, .string (ByteArray.mk #[])] 37)) ⟨wr.heap.size, 0, none⟩ zeroV3 (by rfl) (cells_newV wr zeroV3) (by rw [HVL.out]; omega) (by have := HRB.out; simp; omega) ?_)
        intro v6 w6 hown6 hgrow
        have hown6' : w6.ownsRow (wo.heap.size + 1) 37 3 v6 (rowV r n).length ((rowV r n).flatMap cV) := by rw [RV.out, if_pos h8]; simpa [HVL.out] using hown6
        have RL := hid (show (rowV r n).length ≤ 9 by rw [RV.out, if_pos h8, List.length_append, HVL.out, List.length_singleton]; omega)
        obtain ⟨ao6, cap6, hv6, -⟩ := RdC.of_owns cV_length hown6' (by have := RL.out; omega)
        subst hv6
        have hb6 := below_push HNX.out (Nat.le_of_lt HRB.out) (own_mono HOW.out (by omega)) hgrow
        have fc : ∀ (bb o : Nat) (x : Value), bb < wr.heap.size → some bb ≠ vv.ownBlock → wr.cell? ⟨bb, o, none⟩ = some x → w6.cell? ⟨bb, o, none⟩ = some x := fun bb o x h1 h2 h3 => (hgrow.cell_far ⟨bb, o, none⟩ (Nat.lt_of_lt_of_le h1 BA.out.size) h2).trans ((BA.out.cell (p := ⟨bb, o, none⟩) h1).trans h3)
        have ff : ∀ (bb o : Nat), bb < wr.heap.size → some bb ≠ vv.ownBlock → wr.frozen? ⟨bb, o, none⟩ = false → w6.frozen? ⟨bb, o, none⟩ = false := fun bb o h1 h2 h3 => (hgrow.frozen_far ⟨bb, o, none⟩ (Nat.lt_of_lt_of_le h1 BA.out.size) h2).trans ((BA.out.frozen (p := ⟨bb, o, none⟩) h1).trans h3)
        have d0 := fc _ _ _ HRB.out HNE.out CC.out.1
        have d1 := fc _ _ _ HRB.out HNE.out CC.out.2.1
        have df := ff _ _ HRB.out HNE.out CC.out.2.2.1
        have e0 := fc _ _ _ HLT1.out HN1.out CC.out.2.2.2.1
        have e1 := fc _ _ _ HLT1.out HN1.out CC.out.2.2.2.2.1
        have g10 := ff _ _ HLT1.out HN1.out (CC.out.2.2.2.2.2 0)
        have g11 := ff _ _ HLT1.out HN1.out (CC.out.2.2.2.2.2 1)
        have hne : w.heap.size + 1 ≠ wo.heap.size := by have := SO.out; omega
        have OW7 := hid (ownsRow_setCell_other hown6' (a := ⟨wo.heap.size, 1, none⟩) (fun e => Nat.not_succ_le_self _ (hown6'.lt _ e).1) (.slice ao6 (rowV r n).length cap6))
        have B7 := hid ((BW.out.trans (hb6.mono BW.out.size)).setCell (p := ⟨wo.heap.size, 1, none⟩) (by show _ ≤ wo.heap.size; exact BW.out.size) (.slice ao6 (rowV r n).length cap6))
        obtain ⟨w7, hw7⟩ : ∃ w7 : World, w6.setCell ⟨wo.heap.size, 1, none⟩ (.slice ao6 (rowV r n).length cap6) = w7 := ⟨_, rfl⟩
        rw [hw7] at OW7 B7
        have k0 : w7.cell? ⟨wo.heap.size, 0, none⟩ = some (.int .i64 rid) := by rw [← hw7]; exact (World.cell?_setCell_other _ _ _ _ (by simp)).trans d0
        have k1 : w7.cell? ⟨wo.heap.size, 1, none⟩ = some (.slice ao6 (rowV r n).length cap6) := by rw [← hw7]; exact World.cell?_setCell_same _ _ _ d1
        have l0 : w7.cell? ⟨w.heap.size + 1, 0, none⟩ = some (.int .i64 0) := by rw [← hw7]; exact (World.cell?_setCell_other _ _ _ _ (by simp)).trans e0
        have l1 : w7.cell? ⟨w.heap.size + 1, 1, none⟩ = some (.slice none 0 0) := by rw [← hw7]; exact (World.cell?_setCell_other _ _ _ _ (by simp <;> (intro h; exact absurd h.symm hne))).trans e1
        have m0 : w7.frozen? ⟨w.heap.size + 1, 0, none⟩ = false := by rw [← hw7, World.frozen?_setCell]; exact g10
        have m1 : w7.frozen? ⟨w.heap.size + 1, 1, none⟩ = false := by rw [← hw7, World.frozen?_setCell]; exact g11
        have W7 := hid hw7
        clear hw7 hown6 hown6' hgrow hb6 fc ff e0 e1 g10 g11 hne hvl
        go_upto_region 11 with fail
        rw [W7.out]
        clear d0 d1 df
        go_wp2_with fail
        obtain ⟨wf, hwf⟩ : ∃ wf : World, (w7.setCell ⟨w.heap.size + 1, 0, none⟩ (.int .i64 rid)).setCell ⟨w.heap.size + 1, 1, none⟩ (.slice ao6 (rowV r n).length cap6) = wf := ⟨_, rfl⟩
        obtain ⟨q0, q1, QO⟩ := row_fin (by have := SO.out; omega) l0 l1 OW7.out hwf
        have QB : Below w.heap.size w wf := by rw [← hwf]; exact (B7.out.setCell (p := ⟨w.heap.size + 1, 0, none⟩) (by simp) _).setCell (p := ⟨w.heap.size + 1, 1, none⟩) (by simp) _
        rw [hwf, HRID.out]
        exact bodyPost_ret (v := .agg #[.int .i64 rid, .slice ao6 (rowV r n).length cap6]) (by simp [results, Tryz.results11, go_sem, q0, q1]) rfl ⟨_, rfl, RdC.of_owns cV_length QO (by have := RL.out; omega), fun j hj => far_own QO (by have := SO.out; omega), QB⟩
      · have h8I : ¬ (8 : Int) < (m : Int) := by omega
        obtain ⟨z1, ⟨y0, y1⟩, g1, -⟩ := KZ.out wr hnx2
        have g10 := g1 0
        have g11 := g1 1
        obtain ⟨ov, vcap, rfl, -⟩ := RdC.of_owns cV_length hown2 (by omega)
        have HRV := hid (show rowV r n = valsR r n by rw [RV.out, if_neg h8, List.append_nil])
        have HOW := hid hown2
        have HNX := hid hnx2
        have HVN := hid hvl
        clear hown2 hnx2 z1 g1 hvl
        go_wp2_with fail
        obtain ⟨wf, hwf⟩ : ∃ wf : World, (wr.setCell ⟨w.heap.size + 1, 0, none⟩ (.int .i64 rid)).setCell ⟨w.heap.size + 1, 1, none⟩ (.slice ov (valsR r n).length vcap) = wf := ⟨_, rfl⟩
        obtain ⟨q0, q1, QO⟩ := row_fin (by have := SO.out; omega) y0 y1 HOW.out hwf
        have QB : Below w.heap.size w wf := by rw [← hwf]; exact ((BW.out.trans (HNX.out.mono BW.out.size)).setCell (p := ⟨w.heap.size + 1, 0, none⟩) (by simp) _).setCell (p := ⟨w.heap.size + 1, 1, none⟩) (by simp) _
        rw [hwf, HRID.out, HRV.out]
        exact bodyPost_ret (v := .agg #[.int .i64 rid, .slice ov (valsR r n).length vcap]) (by simp [results, Tryz.results11, go_sem, q0, q1]) rfl ⟨_, rfl, RdC.of_owns cV_length QO (by rw [HVN.out]; omega), fun j hj => far_own QO (by have := SO.out; omega), QB⟩

end Go.Proofs.YtdiafhbbmliefaaGreatDoor

