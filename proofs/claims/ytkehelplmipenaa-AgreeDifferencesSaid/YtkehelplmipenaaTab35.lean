/- The law AgreeDifferences. -/
import Derived.Test.YtkehelplmipenaaTab34
namespace Go.Proofs.Ytkehelplmipenaa
open Go.RowKit
set_option linter.unusedVariables false

theorem two_boxes1 (w : World) (x y z a : Value) (tr tf : TypeId) (W : World) (h : Below ((w.alloc (.cells #[x, y, z] tr)).alloc (.cells #[a] tf)).heap.size ((w.alloc (.cells #[x, y, z] tr)).alloc (.cells #[a] tf)) W) :
    (W.cell? ⟨w.heap.size, 0, none⟩ = some x ∧ W.cell? ⟨w.heap.size, 1, none⟩ = some y ∧ W.cell? ⟨w.heap.size, 2, none⟩ = some z) ∧
    W.cell? ⟨w.heap.size + 1, 0, none⟩ = some a ∧ W.frozen? ⟨w.heap.size + 1, 0, none⟩ = false := by
  have hb01 := below_alloc (w.alloc (.cells #[x, y, z] tr)) (.cells #[a] tf)
  have e : (w.alloc (.cells #[x, y, z] tr)).heap.size = w.heap.size + 1 := by simp
  refine ⟨cells3 W (hb01.trans (h.mono hb01.size)), ?_, ?_⟩
  · refine (h.cell (p := ⟨w.heap.size + 1, 0, none⟩) (by simp)).trans ?_
    rw [← e]; simp
  · refine (h.frozen (p := ⟨w.heap.size + 1, 0, none⟩) (by simp)).trans ?_
    rw [← e]; simp
theorem RdT.set1 {W : World} {x av rv : Value} {t : T3} {b : Nat} (h : RdT W av rv t) (h1 : FarV av (some b)) (h2 : FarV rv (some b)) (h3 : ∀ r ∈ t.2.2, FarV r.2.1 (some b)) : RdT (W.setCell ⟨b, 0, none⟩ x) av rv t :=
  ⟨RdE.setFar (p := ⟨b, 0, none⟩) h.1 h1, RdC.setFar (p := ⟨b, 0, none⟩) h.2.1 h2, fun r hr => RdC.setFar (p := ⟨b, 0, none⟩) (h.2.2 r hr) (h3 r hr)⟩
theorem RdT.drew {W : World} {av rv : Value} {t : T3} (h : RdT W av rv t) : RdT W.drew av rv t := h.below (below_drewN _ W 1)

theorem u8modT (b : U8) (m : Nat) : ((b.toNat : Int)).tmod (m : Int) = ((b.toNat % m : Nat) : Int) := by rw [Int.tmod_eq_emod_of_nonneg (by omega)]; rfl
theorem adiff1_any (s : S) (b : Nat) (x : S) (w : World) (hc : w.cell? ⟨b, 0, none⟩ = some (enc s)) :
    Calls Try.prog 26 (#[enc x] ++ #[.pointer (some ⟨b, 0, none⟩)]) w fun e w' => e = .returned (.bool (x &&& s == 0#32)) ∧ w = w' := by
  show Calls Try.prog 26 #[enc x, .pointer (some ⟨b, 0, none⟩)] w _
  unfold enc at hc ⊢
  go_enter Try.func26, Try.ntmps26
  go_wp2
  go_ret
  exact ⟨rfl, rfl⟩

attribute [local irreducible] Go.wpQuiet
set_option maxHeartbeats 3200000 in
set_option maxRecDepth 100000 in
theorem gDifferencesL (a g : U8) (rr : List RcR) (rv : Value) (s : S) (at8 : U8) (w : World) (hr : RdRc w rv rr) :
    Calls Try.prog 6 #[.agg #[.int .u8 (a.toNat : Int), .int .u8 (g.toNat : Int), rv], .int .u32 (iv s), .int .u8 (at8.toNat : Int)] w fun e w' => e = .returned (.bool true) ∧ Below w.heap.size w w' := by
  have TC := hid (fun W h => two_boxes1 w (.int .u8 (a.toNat : Int)) (.int .u8 (g.toNat : Int)) rv (.int .u32 (iv s)) 50 33 W h)
  have TB := hid (fun (W : World) (h : RdRc W rv rr) (hm : 8 < rr.length) => table_big a g rr rv 8 W h hm)
  have TK := hid (fun (W : World) (h : RdRc W rv rr) (hm : rr.length ≤ 8) => table_ok a g rr rv 8 W h hm (Nat.le_refl _))
  have AW := hid (fun (W : World) => awake27_any W)
  generalize (a.toNat : Int) = ai at *
  generalize (g.toNat : Int) = gi at *
  have hb00 := below_alloc w (.cells #[.int .u8 ai, .int .u8 gi, rv] 50)
  have hb01 := below_alloc (w.alloc (.cells #[.int .u8 ai, .int .u8 gi, rv] 50)) (.cells #[.int .u32 (iv s)] 33)
  have hb0 := hb00.trans (hb01.mono hb00.size)
  have RR := hid (hr.below hb0)
  obtain ⟨w0, hw0⟩ : ∃ w0 : World, (w.alloc (.cells #[.int .u8 ai, .int .u8 gi, rv] 50)).alloc (.cells #[.int .u32 (iv s)] 33) = w0 := ⟨_, rfl⟩
  have hs0 : w0.heap.size = w.heap.size + 1 + 1 := by rw [← hw0]; simp
  rw [hw0] at hb0 RR TC
  have B0 := hid hb0
  have W0 := hid hw0
  have HS0 := hid hs0
  obtain ⟨ro, rcap, hv, hrl, hrc⟩ := RR.out.split
  subst hv
  obtain ⟨⟨q0, q1, q2⟩, p0, -⟩ := TC.out _ (Below.refl _ _)
  clear hb0 hw0 hb00 hb01 hrc hr hs0
  by_cases hm : rr.length ≤ 8
  · replace TK := hid (fun (W : World) (h : RdRc W (.slice ro rr.length rcap) rr) => TK.out W h hm)
    clear TB
    have UM := hid (fun (m : Nat) => show (wrap64 (at8.toNat : Int)).tmod (m : Int) = ((at8.toNat % m : Nat) : Int) by rw [show wrap64 (at8.toNat : Int) = (at8.toNat : Int) by have := at8.isLt; unfold wrap64; omega]; exact u8modT at8 m)
    generalize hat : (at8.toNat : Int) = ati at *
    generalize at8.toNat = atn at *
    clear hat
    go_enter Try.func6, Try.ntmps6
    go_wp2_with fail
    rw [W0.out]
    go_wp2_with fail
    refine (TK.out _ RR.out).mono ?_
    rintro e w1 ⟨av, tv, t, rfl, hT, hG, -, hK, hF, hb1⟩
    obtain ⟨ao, acap, hva, -⟩ := hT.1.split
    obtain ⟨to, tcap, hvt, -⟩ := RdR.split hT.2
    obtain ⟨nm, ats, rs⟩ := t
    simp only at hva hvt hK hF
    subst hva hvt
    have HW := hid (good_wide hG)
    have HE := hid (show tabE2 (nm, ats, rs) = 0 from hG.1)
    have h5 : ats.length ≤ 5 := hG.2.1
    have hb2 := below_alloc w1 (.cells #[.string nm, .slice ao ats.length acap, .slice to rs.length tcap] 25)
    have C3 := hid (fun W h => cells3 (w := w1) (a := .string nm) (b := .slice ao ats.length acap) (c := .slice to rs.length tcap) (t := 25) W h)
    have T2 := hid (hT.below hb2)
    obtain ⟨w2, hw2⟩ : ∃ w2 : World, w1.alloc (.cells #[.string nm, .slice ao ats.length acap, .slice to rs.length tcap] 25) = w2 := ⟨_, rfl⟩
    rw [hw2] at hb2 C3 T2
    have W2 := hid hw2
    have N1 := hid hb1.size
    have D2 := hid (hb1.trans (hb2.mono hb1.size))
    have HF2 := hid hF
    obtain ⟨tb, htb⟩ : ∃ tb, w1.heap.size = tb := ⟨_, rfl⟩
    rw [htb] at C3
    have HTB := hid htb
    have htb2 : w0.heap.size ≤ tb := by have := N1.out; omega
    have HTB2 := hid htb2
    clear hb2 hw2 hT hF hb1 hG hK htb htb2 q0 q1 q2 p0 TK
    go_wp2_with fail
    rw [HTB.out, W2.out]
    refine (AW.out _).mono ?_
    rintro e w3 ⟨rfl, hb3⟩
    obtain ⟨c0, c1, c2⟩ := C3.out _ hb3
    have D3 := hid (D2.out.trans (hb3.mono D2.out.size))
    obtain ⟨-, p0, pf⟩ := TC.out _ D3.out
    have T3 := hid (T2.out.below hb3)
    clear hb3 T2
    by_cases hz : ats.length = 0
    · have hz1 : ((ats.length : Int) == 0) = true := by rw [hz]; rfl
      have HZ := hid hz
      clear hz
      go_wp2_with fail
      refine (AW.out _).mono ?_
      rintro e w4 ⟨rfl, hb4⟩
      have E4 := hid (B0.out.trans (D3.out.mono B0.out.size))
      have E5 := hid (E4.out.trans (hb4.mono E4.out.size))
      clear hb4
      go_wp2_with fail
      go_ret
      exact ⟨rfl, E5.out⟩
    · have hz1 : ((ats.length : Int) == 0) = false := by rw [beq_eq_false_iff_ne]; omega
      have UA := UM.out ats.length
      obtain ⟨A, hA⟩ : ∃ A, atn % ats.length = A := ⟨_, rfl⟩
      have hAl : A < ats.length := by rw [← hA]; exact Nat.mod_lt _ (by omega)
      rw [hA] at UA
      have FU := hid (fun (W : World) => full_any (ats.length : Int) W)
      rw [Int.toNat_natCast, show min ats.length 32 = ats.length by omega] at FU
      unfold enc at FU
      obtain ⟨M, hM⟩ : ∃ M, fullN ats.length = M := ⟨_, rfl⟩
      rw [hM] at FU
      have HM := hid hM
      have HAL := hid hAl
      have a0 : (0 : Int) ≤ (A : Int) := by omega
      have hz2 : (ats.length : Int) ≠ 0 := by omega
      clear hM hA UM hAl
      have hmin : min A 32 = A := by have := HAL.out; omega
      go_wp2_with fail
      refine wp_region_still_tail 9 (by kernel_rfl) (by kernel_rfl) ?_
      simp only [List.take_succ_cons, List.take_zero, List.drop_succ_cons, List.drop_zero]
      repeat still_step
      still_call ((FU.out _).mono (fun _ _ h => ⟨h.1, h.2.symm⟩))
      repeat still_step
      refine wpStill_nil ?_
      have hne : tb ≠ w.heap.size + 1 := by have := HTB2.out; have := HS0.out; omega
      obtain ⟨w4, hw4⟩ : ∃ w4 : World, (w3.setCell ⟨w.heap.size + 1, 0, none⟩ (.int .u32 (iv (s &&& (M &&& ~~~ (1#32 <<< A)))))).drew = w4 := ⟨_, rfl⟩
      have r0 : w4.cell? ⟨tb, 0, none⟩ = some (.string nm) := by rw [← hw4, World.cell?_drew, World.cell?_setCell_far _ ⟨w.heap.size + 1, 0, none⟩ ⟨tb, 0, none⟩ _ (Ne.symm hne)]; exact c0
      have r1 : w4.cell? ⟨tb, 1, none⟩ = some (.slice ao ats.length acap) := by rw [← hw4, World.cell?_drew, World.cell?_setCell_far _ ⟨w.heap.size + 1, 0, none⟩ ⟨tb, 1, none⟩ _ (Ne.symm hne)]; exact c1
      have r2 : w4.cell? ⟨tb, 2, none⟩ = some (.slice to rs.length tcap) := by rw [← hw4, World.cell?_drew, World.cell?_setCell_far _ ⟨w.heap.size + 1, 0, none⟩ ⟨tb, 2, none⟩ _ (Ne.symm hne)]; exact c2
      have r3 : w4.cell? ⟨w.heap.size + 1, 0, none⟩ = some (.int .u32 (iv (s &&& (M &&& ~~~ (1#32 <<< A))))) := by rw [← hw4, World.cell?_drew]; exact World.cell?_setCell_same _ _ _ p0
      have FF := HF2.out (w.heap.size + 1) (by have := HS0.out; omega)
      have T4 := hid (show RdT w4 (.slice ao ats.length acap) (.slice to rs.length tcap) (nm, ats, rs) by rw [← hw4]; exact (RdT.set1 T3.out FF.1 FF.2.1 FF.2.2).drew)
      have E4 := hid (show Below w.heap.size w w4 by rw [← hw4]; exact ((B0.out.trans (D3.out.mono (by have := HS0.out; omega))).setCell (p := ⟨w.heap.size + 1, 0, none⟩) (by simp) _).drew)
      obtain ⟨X, hX⟩ : ∃ X, s &&& (M &&& ~~~ (1#32 <<< A)) = X := ⟨_, rfl⟩
      have X4 := hid hw4
      have XS := hid (show sub X (fullN ats.length) by rw [HM.out, ← hX]; exact sub_trans (and_sub_right _ _) (and_sub_left _ _))
      have XA := hid (show X.getLsbD A = false by rw [← hX, BitVec.getLsbD_and, BitVec.getLsbD_and, BitVec.getLsbD_not, show (1#32 <<< A) = bit A from rfl, bit_get A A (by have := HAL.out; omega)]; simp)
      have HX := hid hX
      rw [hX] at r3
      have e0 : (w3.setCell ⟨w.heap.size + 1, 0, none⟩ (.int .u32 (iv (s &&& (M &&& ~~~ (1#32 <<< A)))))).drew.cell? ⟨tb, 0, none⟩ = some (.string nm) := by rw [X4.out]; exact r0
      have e1 : (w3.setCell ⟨w.heap.size + 1, 0, none⟩ (.int .u32 (iv (s &&& (M &&& ~~~ (1#32 <<< A)))))).drew.cell? ⟨tb, 1, none⟩ = some (.slice ao ats.length acap) := by rw [X4.out]; exact r1
      have e2 : (w3.setCell ⟨w.heap.size + 1, 0, none⟩ (.int .u32 (iv (s &&& (M &&& ~~~ (1#32 <<< A)))))).drew.cell? ⟨tb, 2, none⟩ = some (.slice to rs.length tcap) := by rw [X4.out]; exact r2
      have DF := hid (fun (W : World) (h : Below w4.heap.size w4 W) => adiffR (nm, ats, rs) _ _ (A : Int) W (T4.out.below h))
      have har : arityE (nm, ats, rs) (A : Int) = 0 := by unfold arityE; rw [if_neg (by rw [HE.out]; simp), if_neg]; show ¬ ((A : Int) < 0 ∨ (ats.length : Int) ≤ (A : Int)); have := HAL.out; omega
      rw [har, show difL (nm, ats, rs) (A : Int) = keepS downR (diffL ats.length A (pairsS rs)) by unfold difL; rw [if_pos har]; rfl] at DF
      have HH := hid (dif_sat HW.out.1 (Nat.le_trans HW.out.2 (by decide)) HAL.out XS.out XA.out)
      have SAT := hid (fun (f : F) (W : World) (h : Below w4.heap.size w4 W) => rsat_any (nm, ats, rs) f _ _ W (T4.out.below h) HE.out)
      obtain ⟨SB, hSB⟩ : ∃ SB, satB rs (X, bit A) = SB := ⟨_, rfl⟩
      rw [hSB] at HH
      have HSB := hid hSB
      generalize keepS downR (diffL ats.length A (pairsS rs)) = DL at *
      simp only at SAT DF
      clear hSB hX hw4 har c0 c1 c2 hne FF FU hz1 hz2
      go_wp2_with fail
      rw [HX.out] at X4
      rw [HX.out, X4.out]
      refine (DF.out _ (Below.refl _ _)).mono ?_
      rintro e w5 ⟨lv, rfl, hl, hb5⟩
      have hsz5 := hb5.size
      have N5 := hid hb5
      have RL := hid hl
      have E5 := hid (E4.out.trans (hb5.mono E4.out.size))
      obtain ⟨lo, lcap, hvl, -⟩ := hl.split
      subst hvl
      have g0 := (hb5.cell (p := ⟨tb, 0, none⟩) (World.block_lt_of_cell? _ _ r0)).trans r0
      have g1 := (hb5.cell (p := ⟨tb, 1, none⟩) (World.block_lt_of_cell? _ _ r1)).trans r1
      have g2 := (hb5.cell (p := ⟨tb, 2, none⟩) (World.block_lt_of_cell? _ _ r2)).trans r2
      have g3 := (hb5.cell (p := ⟨w.heap.size + 1, 0, none⟩) (World.block_lt_of_cell? _ _ r3)).trans r3
      have CF := hid (containsFunc_any 26 #[.pointer (some ⟨w.heap.size + 1, 0, none⟩)] (fun d => d &&& X == 0#32) DL _ w5 RL.out (enters _ _ _ Try.func26 (by kernel_rfl) rfl) (fun x => adiff1_any X _ x w5 (by unfold enc; exact g3)))
      obtain ⟨HB, hHB⟩ : ∃ HB, (DL.any fun d => d &&& X == 0#32) = HB := ⟨_, rfl⟩
      rw [hHB] at CF HH
      clear hl hb5 r0 r1 r2 r3 hHB e0 e1 e2 p0 pf
      go_wp2_with fail
      refine CF.out.mono ?_
      rintro e w' ⟨rfl, rfl⟩
      have C2 := hid (fun x : After w5 => Calls.after x (SAT.out (X, bit A) x.world (N5.out.trans (x.below.mono hsz5))))
      rw [HSB.out] at C2
      have m0 : ∀ x : After w5, x.world.cell? ⟨tb, 0, none⟩ = some (.string nm) := fun x => After.cell g0 x
      have m1 : ∀ x : After w5, x.world.cell? ⟨tb, 1, none⟩ = some (.slice ao ats.length acap) := fun x => After.cell g1 x
      have m2 : ∀ x : After w5, x.world.cell? ⟨tb, 2, none⟩ = some (.slice to rs.length tcap) := fun x => After.cell g2 x
      have m3 : ∀ x : After w5, x.world.cell? ⟨w.heap.size + 1, 0, none⟩ = some (.int .u32 (iv X)) := fun x => After.cell g3 x
      unfold bit at C2
      clear g0 g1 g2 g3
      go_wp2_with fail
      refine wp_region_after (by kernel_rfl) (by kernel_rfl) ?_
      repeat (any_goals (quiet_step (first | exact C2.out _)))
      refine wpQuiet_nil ?_
      intro wq hbq
      have Eq := hid (E5.out.trans (hbq.mono E5.out.size))
      clear hbq m0 m1 m2 m3 C2
      go_wp2_with fail
      go_ret
      exact ⟨ret_bool (by rw [← HH.out]; simp), Eq.out⟩
  · replace TB := hid (fun (W : World) (h : RdRc W (.slice ro rr.length rcap) rr) => TB.out W h (by omega))
    clear TK
    generalize (at8.toNat : Int) = ati at *
    go_enter Try.func6, Try.ntmps6
    go_wp2_with fail
    rw [W0.out]
    go_wp2_with fail
    refine (TB.out _ RR.out).mono ?_
    rintro e w1 ⟨rfl, hb1⟩
    have B1 := hid ((B0.out.trans (hb1.mono B0.out.size)).alloc (Nat.le_trans B0.out.size hb1.size) (.cells #[.string (ByteArray.mk #[]), .slice none 0 0, .slice none 0 0] 25))
    clear hb1
    go_wp2_with fail
    refine (AW.out _).mono ?_
    rintro e w2 ⟨rfl, hb2⟩
    have B2 := hid (B1.out.trans (hb2.mono B1.out.size))
    clear hb2
    go_wp2_with fail
    refine (AW.out _).mono ?_
    rintro e w3 ⟨rfl, hb3⟩
    have B3 := hid (B2.out.trans (hb3.mono B2.out.size))
    clear hb3
    go_wp2_with fail
    go_ret
    exact ⟨rfl, B3.out⟩

end Go.Proofs.Ytkehelplmipenaa
