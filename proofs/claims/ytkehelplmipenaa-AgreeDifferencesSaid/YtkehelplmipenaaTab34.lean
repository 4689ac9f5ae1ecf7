/- The law AgreeHolds. -/
import Derived.Test.YtkehelplmipenaaTab33
import Derived.Test.YtkehelplmipenaaTab31
import Derived.Test.YtkehelplmipenaaTab24
namespace Go.Proofs.Ytkehelplmipenaa
open Go.RowKit
set_option linter.unusedVariables false

/-- What two boxes, a recipe's and a pair's, leave in each later world. -/
theorem two_boxes (w : World) (x y z a b : Value) (tr tf : TypeId) (W : World) (h : Below ((w.alloc (.cells #[x, y, z] tr)).alloc (.cells #[a, b] tf)).heap.size ((w.alloc (.cells #[x, y, z] tr)).alloc (.cells #[a, b] tf)) W) :
    (W.cell? ⟨w.heap.size, 0, none⟩ = some x ∧ W.cell? ⟨w.heap.size, 1, none⟩ = some y ∧ W.cell? ⟨w.heap.size, 2, none⟩ = some z) ∧
    (W.cell? ⟨w.heap.size + 1, 0, none⟩ = some a ∧ W.cell? ⟨w.heap.size + 1, 1, none⟩ = some b) ∧ ∀ i : Nat, W.frozen? ⟨w.heap.size + 1, i, none⟩ = false := by
  have hb01 := below_alloc (w.alloc (.cells #[x, y, z] tr)) (.cells #[a, b] tf)
  refine ⟨cells3 W (hb01.trans (h.mono hb01.size)), ?_, fun i => ?_⟩
  · have := cells2 (w := w.alloc (.cells #[x, y, z] tr)) W h
    rwa [show (w.alloc (.cells #[x, y, z] tr)).heap.size = w.heap.size + 1 by simp] at this
  · refine (h.frozen (p := ⟨w.heap.size + 1, i, none⟩) (by simp)).trans ?_
    have : (w.alloc (.cells #[x, y, z] tr)).heap.size = w.heap.size + 1 := by simp
    rw [← this]; simp
theorem set2w {W : World} {b : Nat} {x y x' y' : Value} (h0 : W.cell? ⟨b, 0, none⟩ = some x') (h1 : W.cell? ⟨b, 1, none⟩ = some y') {W3 : World} (hW : (W.setCell ⟨b, 0, none⟩ x).setCell ⟨b, 1, none⟩ y = W3) :
    W3.cell? ⟨b, 0, none⟩ = some x ∧ W3.cell? ⟨b, 1, none⟩ = some y := by
  subst hW
  refine ⟨?_, ?_⟩
  · rw [World.cell?_setCell_other _ _ _ _ (by simp)]; exact World.cell?_setCell_same _ _ _ h0
  · exact World.cell?_setCell_same _ _ _ ((World.cell?_setCell_other _ _ _ _ (by simp)).trans h1)
theorem RdT.set2 {W : World} {x y av rv : Value} {t : T3} {b : Nat} (h : RdT W av rv t) (h1 : FarV av (some b)) (h2 : FarV rv (some b)) (h3 : ∀ r ∈ t.2.2, FarV r.2.1 (some b)) : RdT ((W.setCell ⟨b, 0, none⟩ x).setCell ⟨b, 1, none⟩ y) av rv t :=
  ⟨RdE.setFar (p := ⟨b, 1, none⟩) (RdE.setFar (p := ⟨b, 0, none⟩) h.1 h1) h1, RdC.setFar (p := ⟨b, 1, none⟩) (RdC.setFar (p := ⟨b, 0, none⟩) h.2.1 h2) h2, fun r hr => RdC.setFar (p := ⟨b, 1, none⟩) (RdC.setFar (p := ⟨b, 0, none⟩) (h.2.2 r hr) (h3 r hr)) (h3 r hr)⟩
theorem cell_set2 {W : World} {x y : Value} {b c o : Nat} (h : c ≠ b) : ((W.setCell ⟨b, 0, none⟩ x).setCell ⟨b, 1, none⟩ y).cell? ⟨c, o, none⟩ = W.cell? ⟨c, o, none⟩ := by
  rw [World.cell?_setCell_far _ ⟨b, 1, none⟩ ⟨c, o, none⟩ _ (Ne.symm h), World.cell?_setCell_far _ ⟨b, 0, none⟩ ⟨c, o, none⟩ _ (Ne.symm h)]
theorem setsL_ok {t : T3} (h : tabE2 t = 0) : setsL t = cntL (pairsS t.2.2) := by unfold setsL; rw [if_pos h]
theorem good_wide {t : T3} (h : GoodT t) : Wide t.2.1.length t.2.2 ∧ t.2.1.length ≤ 16 := ⟨fun r hr => ((tabE2_ok h.1).2.2 r hr).1, (tabE2_ok h.1).1⟩

attribute [local irreducible] Go.wpQuiet
set_option maxHeartbeats 3200000 in
set_option maxRecDepth 100000 in
theorem gHoldsL (a g : U8) (rr : List RcR) (rv : Value) (f : F) (w : World) (hr : RdRc w rv rr) :
    Calls Try.prog 10 #[.agg #[.int .u8 (a.toNat : Int), .int .u8 (g.toNat : Int), rv], .agg #[.int .u32 (iv f.1), .int .u32 (iv f.2)]] w fun e w' => e = .returned (.bool true) ∧ Below w.heap.size w w' := by
  have TC := hid (fun W h => two_boxes w (.int .u8 (a.toNat : Int)) (.int .u8 (g.toNat : Int)) rv (.int .u32 (iv f.1)) (.int .u32 (iv f.2)) 50 58 W h)
  have TB := hid (fun (W : World) (h : RdRc W rv rr) (hm : 8 < rr.length) => table_big a g rr rv 8 W h hm)
  have TK := hid (fun (W : World) (h : RdRc W rv rr) (hm : rr.length ≤ 8) => table_ok a g rr rv 8 W h hm (Nat.le_refl _))
  have AW := hid (fun (W : World) => awake27_any W)
  generalize (a.toNat : Int) = ai at *
  generalize (g.toNat : Int) = gi at *
  have hb00 := below_alloc w (.cells #[.int .u8 ai, .int .u8 gi, rv] 50)
  have hb01 := below_alloc (w.alloc (.cells #[.int .u8 ai, .int .u8 gi, rv] 50)) (.cells #[.int .u32 (iv f.1), .int .u32 (iv f.2)] 58)
  have hb0 := hb00.trans (hb01.mono hb00.size)
  have RR := hid (hr.below hb0)
  obtain ⟨w0, hw0⟩ : ∃ w0 : World, (w.alloc (.cells #[.int .u8 ai, .int .u8 gi, rv] 50)).alloc (.cells #[.int .u32 (iv f.1), .int .u32 (iv f.2)] 58) = w0 := ⟨_, rfl⟩
  have hs0 : w0.heap.size = w.heap.size + 1 + 1 := by rw [← hw0]; simp
  rw [hw0] at hb0 RR TC
  have B0 := hid hb0
  have W0 := hid hw0
  have HS0 := hid hs0
  obtain ⟨ro, rcap, hv, hrl, hrc⟩ := RR.out.split
  subst hv
  obtain ⟨⟨q0, q1, q2⟩, ⟨p0, p1⟩, -⟩ := TC.out _ (Below.refl _ _)
  clear hb0 hw0 hb00 hb01 hrc hr hs0
  by_cases hm : rr.length ≤ 8
  · replace TK := hid (fun (W : World) (h : RdRc W (.slice ro rr.length rcap) rr) => TK.out W h hm)
    clear TB
    go_enter Try.func10, Try.ntmps10
    go_wp2_with fail
    rw [W0.out]
    go_wp2_with fail
    refine (TK.out _ RR.out).mono ?_
    rintro e w1 ⟨av, tv, t, rfl, hT, hG, -, hK, hF, hb1⟩
    obtain ⟨ao, acap, hva, -⟩ := hT.1.split
    obtain ⟨to, tcap, hvt, -⟩ := RdR.split hT.2
    obtain ⟨nm, ats, rs⟩ := t
    simp only at hva hvt hK hF
    subst hva hvt
    have HW := hid (good_wide hG)
    have HE := hid (show tabE2 (nm, ats, rs) = 0 from hG.1)
    have h5 : ats.length ≤ 5 := hG.2.1
    have hb2 := below_alloc w1 (.cells #[.string nm, .slice ao ats.length acap, .slice to rs.length tcap] 25)
    have C3 := hid (fun W h => cells3 (w := w1) (a := .string nm) (b := .slice ao ats.length acap) (c := .slice to rs.length tcap) (t := 25) W h)
    have T2 := hid (hT.below hb2)
    obtain ⟨w2, hw2⟩ : ∃ w2 : World, w1.alloc (.cells #[.string nm, .slice ao ats.length acap, .slice to rs.length tcap] 25) = w2 := ⟨_, rfl⟩
    rw [hw2] at hb2 C3 T2
    have W2 := hid hw2
    have N1 := hid hb1.size
    have D2 := hid (hb1.trans (hb2.mono hb1.size))
    have HF2 := hid hF
    obtain ⟨tb, htb⟩ : ∃ tb, w1.heap.size = tb := ⟨_, rfl⟩
    rw [htb] at C3
    have HTB := hid htb
    have htb2 : w0.heap.size ≤ tb := by have := N1.out; omega
    have HTB2 := hid htb2
    clear hb2 hw2 hT hF hb1 hG hK htb htb2 q0 q1 q2 p0 p1 TK
    go_wp2_with fail
    rw [HTB.out, W2.out]
    refine (AW.out _).mono ?_
    rintro e w3 ⟨rfl, hb3⟩
    obtain ⟨c0, c1, c2⟩ := C3.out _ hb3
    have D3 := hid (D2.out.trans (hb3.mono D2.out.size))
    obtain ⟨-, ⟨p0, p1⟩, pf⟩ := TC.out _ D3.out
    have pf0 := pf 0
    have pf1 := pf 1
    have T3 := hid (T2.out.below hb3)
    have FU := hid (fun (W : World) => full_any (ats.length : Int) W)
    rw [Int.toNat_natCast, show min ats.length 32 = ats.length by omega] at FU
    unfold enc at FU
    obtain ⟨M, hM⟩ : ∃ M, fullN ats.length = M := ⟨_, rfl⟩
    rw [hM] at FU
    have HM := hid hM
    have D3s := hid hb3.size
    clear pf hb3 hM T2
    go_wp2_with fail
    refine (FU.out _).mono ?_
    rintro e w' ⟨rfl, rfl⟩
    obtain ⟨L1, hL1⟩ : ∃ L1, f.1 &&& M = L1 := ⟨_, rfl⟩
    obtain ⟨R1, hR1⟩ : ∃ R1, f.2 &&& M = R1 := ⟨_, rfl⟩
    have L1s := hid (show sub L1 (fullN ats.length) by rw [HM.out, ← hL1]; exact and_sub_right _ _)
    have R1s := hid (show sub R1 (fullN ats.length) by rw [HM.out, ← hR1]; exact and_sub_right _ _)
    obtain ⟨w4, hw4⟩ : ∃ w4 : World, (w3.setCell ⟨w.heap.size + 1, 0, none⟩ (.int .u32 (iv L1))).setCell ⟨w.heap.size + 1, 1, none⟩ (.int .u32 (iv R1)) = w4 := ⟨_, rfl⟩
    have hne : tb ≠ w.heap.size + 1 := by have := HTB2.out; have := HS0.out; omega
    have r0 : w4.cell? ⟨tb, 0, none⟩ = some (.string nm) := by rw [← hw4, cell_set2 hne]; exact c0
    have r1 : w4.cell? ⟨tb, 1, none⟩ = some (.slice ao ats.length acap) := by rw [← hw4, cell_set2 hne]; exact c1
    have r2 : w4.cell? ⟨tb, 2, none⟩ = some (.slice to rs.length tcap) := by rw [← hw4, cell_set2 hne]; exact c2
    obtain ⟨s0, s1⟩ := set2w p0 p1 hw4
    have FF := HF2.out (w.heap.size + 1) (by have := HS0.out; omega)
    have T4 := hid (show RdT w4 (.slice ao ats.length acap) (.slice to rs.length tcap) (nm, ats, rs) by rw [← hw4]; exact RdT.set2 T3.out FF.1 FF.2.1 FF.2.2)
    have E4 := hid (show Below w.heap.size w w4 by rw [← hw4]; exact ((B0.out.trans (D3.out.mono (by have := HS0.out; omega))).setCell (p := ⟨w.heap.size + 1, 0, none⟩) (by simp) _).setCell (p := ⟨w.heap.size + 1, 1, none⟩) (by simp) _)
    have X4 := hid hw4
    have HL1 := hid hL1
    have HR1 := hid hR1
    have AS := hid (fun (W : World) (h : Below w4.heap.size w4 W) => asetsR (nm, ats, rs) _ _ W (T4.out.below h))
    rw [HE.out, setsL_ok HE.out] at AS
    have HLD := hid (fun (v : Value) (W : World) (h : RdCt W v (cntL (pairsS rs))) => aholds_any (cntL (pairsS rs)) (L1, R1) v W h)
    rw [holds_sat HW.out.1 (Nat.le_trans HW.out.2 (by decide)) (f := (L1, R1)) L1s.out R1s.out] at HLD
    have SAT := hid (fun (f : F) (W : World) (h : Below w4.heap.size w4 W) => rsat_any (nm, ats, rs) f _ _ W (T4.out.below h) HE.out)
    have CLO := hid (fun (v : Value) (W : World) (h : RdCt W v (cntL (pairsS rs))) => aclos_any (cntL (pairsS rs)) ats.length HW.out.2 L1 v W h)
    have CSAT := hid (fun (i : Nat) (hi : i < ats.length) => clos_sat HW.out.1 (Nat.le_trans HW.out.2 (by decide)) L1s.out hi)
    have COV := hid (clos_over (m := ats.length) (s := L1) (l := cntL (pairsS rs)))
    rw [HM.out] at CLO CSAT COV
    generalize cntL (pairsS rs) = CL at *
    generalize closC M L1 CL = CC at *
    obtain ⟨SB, hSB⟩ : ∃ SB, satB rs (L1, R1) = SB := ⟨_, rfl⟩
    rw [hSB] at HLD
    have HSB := hid hSB
    clear hSB
    simp only at AS SAT HLD
    have e0 : ((w3.setCell ⟨w.heap.size + 1, 0, none⟩ (.int .u32 (iv (f.1 &&& M)))).setCell ⟨w.heap.size + 1, 1, none⟩ (.int .u32 (iv (f.2 &&& M)))).cell? ⟨tb, 0, none⟩ = some (.string nm) := by rw [cell_set2 hne]; exact c0
    have e1 : ((w3.setCell ⟨w.heap.size + 1, 0, none⟩ (.int .u32 (iv (f.1 &&& M)))).setCell ⟨w.heap.size + 1, 1, none⟩ (.int .u32 (iv (f.2 &&& M)))).cell? ⟨tb, 1, none⟩ = some (.slice ao ats.length acap) := by rw [cell_set2 hne]; exact c1
    have e2 : ((w3.setCell ⟨w.heap.size + 1, 0, none⟩ (.int .u32 (iv (f.1 &&& M)))).setCell ⟨w.heap.size + 1, 1, none⟩ (.int .u32 (iv (f.2 &&& M)))).cell? ⟨tb, 2, none⟩ = some (.slice to rs.length tcap) := by rw [cell_set2 hne]; exact c2
    clear hL1 hR1 hw4 c0 c1 c2 hne FF
    go_wp2_with fail
    rw [HL1.out, HR1.out, X4.out]
    refine (AS.out _ (Below.refl _ _)).mono ?_
    rintro e w5 ⟨lv, rfl, hl, hb5⟩
    have hsz5 := hb5.size
    have N5 := hid hb5
    have RL := hid hl
    have E5 := hid (E4.out.trans (hb5.mono E4.out.size))
    obtain ⟨lo, lcap, hvl, -⟩ := RdCt.split hl
    subst hvl
    have C1 := hid (fun x : After w5 => Calls.after x (HLD.out _ x.world (RdC.below RL.out x.below)))
    have C2 := hid (fun x : After w5 => Calls.after x (SAT.out (L1, R1) x.world (N5.out.trans (x.below.mono hsz5))))
    rw [HSB.out] at C2
    have g0 := (hb5.cell (p := ⟨tb, 0, none⟩) (World.block_lt_of_cell? _ _ r0)).trans r0
    have g1 := (hb5.cell (p := ⟨tb, 1, none⟩) (World.block_lt_of_cell? _ _ r1)).trans r1
    have g2 := (hb5.cell (p := ⟨tb, 2, none⟩) (World.block_lt_of_cell? _ _ r2)).trans r2
    have g3 := (hb5.cell (p := ⟨w.heap.size + 1, 0, none⟩) (World.block_lt_of_cell? _ _ s0)).trans s0
    have g4 := (hb5.cell (p := ⟨w.heap.size + 1, 1, none⟩) (World.block_lt_of_cell? _ _ s1)).trans s1
    have GG := hid (And.intro g0 (And.intro g1 (And.intro g2 (And.intro g3 g4))))
    have m0 : ∀ x : After w5, x.world.cell? ⟨tb, 0, none⟩ = some (.string nm) := fun x => After.cell g0 x
    have m1 : ∀ x : After w5, x.world.cell? ⟨tb, 1, none⟩ = some (.slice ao ats.length acap) := fun x => After.cell g1 x
    have m2 : ∀ x : After w5, x.world.cell? ⟨tb, 2, none⟩ = some (.slice to rs.length tcap) := fun x => After.cell g2 x
    have m3 : ∀ x : After w5, x.world.cell? ⟨w.heap.size + 1, 0, none⟩ = some (.int .u32 (iv L1)) := fun x => After.cell g3 x
    have m4 : ∀ x : After w5, x.world.cell? ⟨w.heap.size + 1, 1, none⟩ = some (.int .u32 (iv R1)) := fun x => After.cell g4 x
    clear e0 e1 e2 p0 p1 pf0 pf1 hl hb5 r0 r1 r2 s0 s1 g0 g1 g2 g3 g4
    go_wp2_with fail
    refine wp_region_after (by kernel_rfl) (by kernel_rfl) ?_
    repeat (any_goals (quiet_step (first | (with_reducible exact C1.out _) | exact C2.out _)))
    refine wpQuiet_nil ?_
    intro wq hbq
    have Nq := hid (N5.out.trans (hbq.mono hsz5))
    have Eq := hid (E5.out.trans (hbq.mono E5.out.size))
    have RLq := hid (RdC.below RL.out hbq)
    have k0 := (hbq.cell (p := ⟨tb, 0, none⟩) (World.block_lt_of_cell? _ _ GG.out.1)).trans GG.out.1
    have k1 := (hbq.cell (p := ⟨tb, 1, none⟩) (World.block_lt_of_cell? _ _ GG.out.2.1)).trans GG.out.2.1
    have k2 := (hbq.cell (p := ⟨tb, 2, none⟩) (World.block_lt_of_cell? _ _ GG.out.2.2.1)).trans GG.out.2.2.1
    have k3 := (hbq.cell (p := ⟨w.heap.size + 1, 0, none⟩) (World.block_lt_of_cell? _ _ GG.out.2.2.2.1)).trans GG.out.2.2.2.1
    have k4 := (hbq.cell (p := ⟨w.heap.size + 1, 1, none⟩) (World.block_lt_of_cell? _ _ GG.out.2.2.2.2)).trans GG.out.2.2.2.2
    have KK := hid (And.intro k0 (And.intro k1 (And.intro k2 (And.intro k3 k4))))
    clear hbq m0 m1 m2 m3 m4 C1 C2
    go_wp2_with fail
    refine (CLO.out _ _ RLq.out).mono ?_
    rintro e w6 ⟨rfl, hb6⟩
    have hsz6 := hb6.size
    have N6 := hid (Nq.out.trans (hb6.mono Nq.out.size))
    have E6 := hid (Eq.out.trans (hb6.mono Eq.out.size))
    have q0 := (hb6.cell (p := ⟨tb, 0, none⟩) (World.block_lt_of_cell? _ _ k0)).trans k0
    have q1 := (hb6.cell (p := ⟨tb, 1, none⟩) (World.block_lt_of_cell? _ _ k1)).trans k1
    have q2 := (hb6.cell (p := ⟨tb, 2, none⟩) (World.block_lt_of_cell? _ _ k2)).trans k2
    have q3 := (hb6.cell (p := ⟨w.heap.size + 1, 0, none⟩) (World.block_lt_of_cell? _ _ k3)).trans k3
    have QQ := hid (And.intro q0 (And.intro q1 (And.intro q2 q3)))
    clear hb6 k0 k1 k2 k3 k4
    go_wp2_with fail
    go_loopw [63] (fun i wr => ∃ k : Nat, k ≤ ats.length ∧ i = .int .i64 k ∧ Below w6.heap.size w6 wr) (fun i _ => ats.length - (intOf i).toNat)
    case atStart => exact ⟨0, Nat.zero_le _, rfl, Below.refl _ _⟩
    case round =>
      obtain ⟨k, hk, rfl, hnx⟩ := hrel
      have hsz7 := hnx.size
      have NX := hid hnx
      have n0 : (0 : Int) ≤ (k : Int) := by omega
      by_cases hlt : k < ats.length
      · have C1 := hid (fun x : After wr => Calls.after_same x (has_any CC k (by omega) x.world))
        have C2 := hid (fun x : After wr => Calls.after x (SAT.out (L1, bit k) x.world (N6.out.trans ((NX.out.trans (x.below.mono hsz7)).mono N6.out.size))))
        rw [CSAT.out k hlt] at C1
        have m0 : ∀ x : After wr, x.world.cell? ⟨tb, 0, none⟩ = some (.string nm) := fun x => After.cell ((hnx.cell (p := ⟨tb, 0, none⟩) (World.block_lt_of_cell? _ _ QQ.out.1)).trans QQ.out.1) x
        have m1 : ∀ x : After wr, x.world.cell? ⟨tb, 1, none⟩ = some (.slice ao ats.length acap) := fun x => After.cell ((hnx.cell (p := ⟨tb, 1, none⟩) (World.block_lt_of_cell? _ _ QQ.out.2.1)).trans QQ.out.2.1) x
        have m2 : ∀ x : After wr, x.world.cell? ⟨tb, 2, none⟩ = some (.slice to rs.length tcap) := fun x => After.cell ((hnx.cell (p := ⟨tb, 2, none⟩) (World.block_lt_of_cell? _ _ QQ.out.2.2.1)).trans QQ.out.2.2.1) x
        have m3 : ∀ x : After wr, x.world.cell? ⟨w.heap.size + 1, 0, none⟩ = some (.int .u32 (iv L1)) := fun x => After.cell ((hnx.cell (p := ⟨w.heap.size + 1, 0, none⟩) (World.block_lt_of_cell? _ _ QQ.out.2.2.2)).trans QQ.out.2.2.2) x
        generalize satB rs (L1, bit k) = SK at *
        unfold enc bit at *
        clear hnx q0 q1 q2 q3
        go_wp2_with fail
        refine wp_region_after (by kernel_rfl) (by kernel_rfl) ?_
        repeat (any_goals (quiet_step (first | (with_reducible exact C1.out _) | exact C2.out _)))
        refine wpQuiet_nil ?_
        intro wz hbz
        have NZ := hid (NX.out.trans (hbz.mono hsz7))
        clear hbz m0 m1 m2 m3 C1 C2
        go_wp2_with fail
        go_roundw
        case rel => exact ⟨k + 1, by omega, by go_num, NZ.out⟩
        case measure => simp [intOf]; omega
      · have EF := hid (E6.out.trans (hnx.mono E6.out.size))
        clear hnx
        go_wp2_with fail
        go_ret
        exact ⟨ret_bool COV.out, EF.out⟩
  · replace TB := hid (fun (W : World) (h : RdRc W (.slice ro rr.length rcap) rr) => TB.out W h (by omega))
    clear TK
    go_enter Try.func10, Try.ntmps10
    go_wp2_with fail
    rw [W0.out]
    go_wp2_with fail
    refine (TB.out _ RR.out).mono ?_
    rintro e w1 ⟨rfl, hb1⟩
    have B1 := hid ((B0.out.trans (hb1.mono B0.out.size)).alloc (Nat.le_trans B0.out.size hb1.size) (.cells #[.string (ByteArray.mk #[]), .slice none 0 0, .slice none 0 0] 25))
    clear hb1
    go_wp2_with fail
    refine (AW.out _).mono ?_
    rintro e w2 ⟨rfl, hb2⟩
    have B2 := hid (B1.out.trans (hb2.mono B1.out.size))
    clear hb2
    go_wp2_with fail
    refine (AW.out _).mono ?_
    rintro e w3 ⟨rfl, hb3⟩
    have B3 := hid (B2.out.trans (hb3.mono B2.out.size))
    clear hb3
    go_wp2_with fail
    go_ret
    exact ⟨rfl, B3.out⟩

end Go.Proofs.Ytkehelplmipenaa
