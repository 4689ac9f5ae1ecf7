/- Texts that belong together, in one file. -/
import Derived.Test.YtalejolehccclaaGreatDoorGTabB
import Derived.Test.YtalejolehccclaaGreatDoorMulQ
import Derived.Test.YtalejolehccclaaGreatDoorGTopB
import Derived.Test.YtalejolehccclaaGreatDoorAfter
import Derived.Deep.RegionHeld3
import Derived.Deep.DeepCutAuto
import Derived.Test.YtalejolehccclaaGreatDoorCells
import Derived.Test.YtalejolehccclaaGreatDoorBase
import Derived.Test.YtalejolehccclaaGreatDoorGFdmA
import Derived.Test.YtalejolehccclaaGreatDoorGTopA
import Derived.Test.YtalejolehccclaaGreatDoorGFdmC
/- The walks of ratio's abs and gcd. -/
namespace Go.Proofs.YtalejolehccclaaGreatDoor
open Go.RowKit
set_option linter.unusedVariables false

theorem rabs_any (n : Nat) (hn : n < 9223372036854775808) (w : World) :
  Calls Tryz.prog 115 #[.int .i64 (n : Int)] w fun e w' => e = .returned (.int .u64 (n : Int)) /\ w = w' := by
 have n0 : (0 : Int) <= (n : Int) := by omega
 have n1 : (n : Int) < 9223372036854775808 := by omega
 have d0 : decide ((n : Int) < 0) = false := by rw [decide_eq_false_iff_not]; omega
 have hw : IntKind.u64.wrap (n : Int) = (n : Int) := by unfold IntKind.wrap; simp [IntKind.bits, IntKind.signed]; omega
 clear hn
 go_enter Tryz.func115, Tryz.ntmps115
 go_wp2_with fail
 go_ret
 exact ⟨by first | rfl | rw [hw], rfl⟩
theorem tmod_natR (x l : Nat) : (x : Int).tmod (l : Int) = ((x % l : Nat) : Int) := by rw [Int.tmod_eq_emod_of_nonneg (by omega)]; rfl
theorem ret_u64 {a b : Nat} (h : a = b) : Ending.returned (.int .u64 (a : Int)) = Ending.returned (.int .u64 (b : Int)) := by rw [h]
theorem rgcd_any (a b : Nat) (ha : a < 9223372036854775808) (hb : b < 9223372036854775808) (w : World) :
  Calls Tryz.prog 114 #[.int .u64 (a : Int), .int .u64 (b : Int)] w fun e w' => e = .returned (.int .u64 ((Nat.gcd a b : Nat) : Int)) /\ Below w.heap.size w w' := by
 obtain ⟨G, hG⟩ : ∃ G, Nat.gcd a b = G := ⟨_, rfl⟩
 rw [hG]
 have HG := hid hG
 have HA := hid (And.intro ha hb)
 clear hG ha hb
 go_enter Tryz.func114, Tryz.ntmps114
 go_wp2_with fail
 go_loopw [0, 1] (fun x y wr => ∃ p q : Nat, x = .int .u64 (p : Int) /\ y = .int .u64 (q : Int) /\ Hid (Nat.gcd p q = G /\ p < 9223372036854775808 /\ q < 9223372036854775808) /\ Below w.heap.size w wr) (fun _ y _ => (intOf y).toNat)
 case atStart => exact ⟨a, b, rfl, rfl, hid ⟨HG.out, HA.out⟩, Below.refl _ _⟩
 case round =>
  obtain ⟨p, q, rfl, rfl, H, hnx⟩ := hrel
  have NX := hid hnx
  clear hnx
  have q0 : (0 : Int) <= (q : Int) := by omega
  have p0 : (0 : Int) <= (p : Int) := by omega
  by_cases hq : q = 0
  ·subst hq
   have GP := hid (show p = G by have := H.out.1; rwa [Nat.gcd_zero_right] at this)
   clear q0
   go_wp2_with fail
   go_ret
   exact ⟨ret_u64 GP.out, NX.out⟩
  ·have hpos : 0 < q := by omega
   have q1 : (0 : Int) < (q : Int) := by omega
   have q2 : ¬ (q : Int) = 0 := by omega
   have q3 : ((q : Int) == 0) = false := beq_eq_false_iff_ne.2 q2
   have TM := tmod_natR p q
   have qb : (q : Int) <= 9223372036854775807 := by have := H.out.2.2; omega
   have pb : (p : Int) <= 9223372036854775807 := by have := H.out.2.1; omega
   have ML := hid (Nat.mod_lt p hpos)
   go_wp2_with fail
   go_quiet (fail)
   go_wp2_with fail
   have hm : (p : Int) % (q : Int) = ((p % q : Nat) : Int) := rfl
   rw [hm]
   refine ⟨⟨q, p % q, rfl, rfl, hid ⟨?_, H.out.2.2, ?_⟩, below_drewN' NX.out _⟩, ?_⟩
   ·rw [<- H.out.1, Nat.gcd_comm p q, Nat.gcd_rec q p, Nat.gcd_comm (p % q) q]
   ·have := ML.out; have := H.out.2.2; omega
   ·have := ML.out; simp only [intOf]; omega

set_option maxHeartbeats 800000 in
theorem rof4_any (num den : Nat) (hn : num < 9223372036854775808) (hd : den < 9223372036854775808) (w : World) :
  Calls Tryz.prog 154 #[.bool false, .int .u64 (num : Int), .int .u64 (den : Int)] w fun e w' => e = .returned (.tuple #[.agg #[.int .i64 (num : Int), .int .i64 (den : Int)], .int .i64 0]) /\ Below w.heap.size w w' := by
 have a0 : (0 : Int) <= (num : Int) := by omega
 have b0 : (0 : Int) <= (den : Int) := by omega
 have a1 : (num : Int) <= 9223372036854775807 := by omega
 have b1 : (den : Int) <= 9223372036854775807 := by omega
 have d1 : decide ((num : Int) > 9223372036854775807) = false := by rw [decide_eq_false_iff_not]; omega
 have d2 : decide ((den : Int) > 9223372036854775807) = false := by rw [decide_eq_false_iff_not]; omega
 have hb1 := below_alloc w (.cells #[.int .i64 0, .int .i64 0] 75)
 have hb2 := below_alloc (w.alloc (.cells #[.int .i64 0, .int .i64 0] 75)) (.cells #[.int .i64 (num : Int), .int .i64 (den : Int)] 75)
 have HB := hid (hb1.trans (hb2.mono hb1.size))
 clear hn hd hb1 hb2
 go_enter Tryz.func154, Tryz.ntmps154
 have c1 := below_alloc w (.cells #[.int .i64 (num : Int), .int .i64 (den : Int)] 75)
 have c2 := below_alloc (w.alloc (.cells #[.int .i64 (num : Int), .int .i64 (den : Int)] 75)) (.cells #[.int .i64 (num : Int), .int .i64 (den : Int)] 75)
 have RC := hid (cells2 (w := w) (a := .int .i64 (num : Int)) (b := .int .i64 (den : Int)) (t := 75) _ c2)
 have BF := hid (c1.trans (c2.mono c1.size))
 clear c1 c2
 go_wp2_with fail
 obtain ⟨r0, r1⟩ := RC.out
 exact bodyPost_ret (v := .tuple #[.agg #[.int .i64 (num : Int), .int .i64 (den : Int)], .int .i64 0]) (by simp [results, Tryz.results154, go_sem, r0, r1]) rfl ⟨rfl, BF.out⟩

end Go.Proofs.YtalejolehccclaaGreatDoor

/- The walks of ratio's Make, Valid, times, cmp, Cmp at the fractions of approximate dependencies; approx's known and measures. -/
namespace Go.Proofs.YtalejolehccclaaGreatDoor
open Go.RowKit
set_option linter.unusedVariables false

theorem set2j {W : World} {b : Nat} {x y x' y' : Value} (h0 : W.cell? ⟨b, 0, none⟩ = some x') (h1 : W.cell? ⟨b, 1, none⟩ = some y') {W3 : World} (hW : (W.setCell ⟨b, 0, none⟩ x).setCell ⟨b, 1, none⟩ y = W3) :
  W3.cell? ⟨b, 0, none⟩ = some x /\ W3.cell? ⟨b, 1, none⟩ = some y := by
 subst hW
 refine ⟨?_, ?_⟩
 ·rw [World.cell?_setCell_other _ _ _ _ (by simp)]; exact World.cell?_setCell_same _ _ _ h0
 ·exact World.cell?_setCell_same _ _ _ ((World.cell?_setCell_other _ _ _ _ (by simp)).trans h1)
set_option maxHeartbeats 800000 in
set_option maxRecDepth 100000 in
theorem rmake_any (n d : Nat) (hn : n < 9223372036854775808) (hd : d < 9223372036854775808) (h0 : 0 < d) (w : World) :
  Calls Tryz.prog 123 #[.int .i64 (n : Int), .int .i64 (d : Int)] w fun e w' => e = .returned (.tuple #[.agg #[.int .i64 ((n / Nat.gcd n d : Nat) : Int), .int .i64 ((d / Nat.gcd n d : Nat) : Int)], .int .i64 0]) /\ Below w.heap.size w w' := by
 have AN := hid (fun (W : World) => rabs_any n hn W)
 have AD := hid (fun (W : World) => rabs_any d hd W)
 have GC := hid (fun (W : World) => rgcd_any n d hn hd W)
 have OF := hid (fun (W : World) => rof4_any (n / Nat.gcd n d) (d / Nat.gcd n d) (by have := Nat.div_le_self n (Nat.gcd n d); omega) (by have := Nat.div_le_self d (Nat.gcd n d); omega) W)
 have gpos : 0 < Nat.gcd n d := Nat.gcd_pos_of_pos_right _ h0
 obtain ⟨g, hg⟩ : ∃ g, Nat.gcd n d = g := ⟨_, rfl⟩
 rw [hg] at GC OF gpos ⊢
 clear hg
 have q1 : (n : Int).tdiv (g : Int) = ((n / g : Nat) : Int) := by rw [Int.tdiv_eq_ediv_of_nonneg (by omega)]; rfl
 have q2 : (d : Int).tdiv (g : Int) = ((d / g : Nat) : Int) := by rw [Int.tdiv_eq_ediv_of_nonneg (by omega)]; rfl
 have r1 := Nat.div_le_self n g
 have r2 := Nat.div_le_self d g
 obtain ⟨x, hx⟩ : ∃ x, n / g = x := ⟨_, rfl⟩
 obtain ⟨y, hy⟩ : ∃ y, d / g = y := ⟨_, rfl⟩
 rw [hx] at q1 r1 OF ⊢
 rw [hy] at q2 r2 OF ⊢
 have n0 : (0 : Int) <= (n : Int) := by omega
 have d0 : (0 : Int) < (d : Int) := by omega
 have g0 : (0 : Int) < (g : Int) := by omega
 have x0 : (0 : Int) <= (x : Int) := by omega
 have y0 : (0 : Int) <= (y : Int) := by omega
 have x1 : (x : Int) <= 9223372036854775807 := by omega
 have y1 : (y : Int) <= 9223372036854775807 := by omega
 have wx : IntKind.u64.wrap (x : Int) = (x : Int) := by unfold IntKind.wrap; simp [IntKind.bits, IntKind.signed]; omega
 have wy : IntKind.u64.wrap (y : Int) = (y : Int) := by unfold IntKind.wrap; simp [IntKind.bits, IntKind.signed]; omega
 have d1 : ((d : Int) == 0) = false := by rw [beq_eq_false_iff_ne]; omega
 have g1 : ((g : Int) == 0) = false := by rw [beq_eq_false_iff_ne]; omega
 have g2 : ¬ ((g : Int) = 0) := by omega
 have g3 : ¬ (g = 0) := by omega
 have e1 : decide ((n : Int) < 0) = false := by rw [decide_eq_false_iff_not]; omega
 have e2 : decide ((d : Int) < 0) = false := by rw [decide_eq_false_iff_not]; omega
 have hb1 := below_alloc w (.cells #[.int .i64 0, .int .i64 0] 75)
 have C2 := hid (fun (W : World) h => cells2 (w := w) (a := .int .i64 0) (b := .int .i64 0) (t := 75) W h)
 have zf : ∀ j, (w.alloc (.cells #[.int .i64 0, .int .i64 0] 75)).frozen? ⟨w.heap.size, j, none⟩ = false := fun j => by simp
 have hs1 : (w.alloc (.cells #[.int .i64 0, .int .i64 0] 75)).heap.size = w.heap.size + 1 := by simp
 obtain ⟨wa, hwa⟩ : ∃ wa : World, w.alloc (.cells #[.int .i64 0, .int .i64 0] 75) = wa := ⟨_, rfl⟩
 rw [hwa] at hb1 C2 zf hs1
 have WA := hid hwa
 have B1 := hid hb1
 have HSA := hid hs1
 have ZF := hid zf
 clear hb1 hn hd h0 zf hs1 hwa hx hy r1 r2 gpos
 go_enter Tryz.func123, Tryz.ntmps123
 go_upto_region 1 with fail
 rw [WA.out]
 go_wp2_with fail
 refine (AN.out _).mono ?_
 rintro e w' ⟨rfl, rfl⟩
 go_wp2_with fail
 refine (AD.out _).mono ?_
 rintro e w' ⟨rfl, rfl⟩
 go_wp2_with fail
 refine (GC.out _).mono ?_
 rintro e w2 ⟨rfl, hb2⟩
 have H2 := hid hb2
 clear hb2
 go_wp2_with fail
 go_region_held3 (fun W => Below w.heap.size w W)
  (first | exact (by assumption) | exact B1.out.trans (H2.out.drew.mono B1.out.size) | exact B1.out.trans (H2.out.mono B1.out.size) | exact (hLb.setCell (p := ⟨w.heap.size, 0, none⟩) (Nat.le_refl _) _).setCell (p := ⟨w.heap.size, 1, none⟩) (Nat.le_refl _) _)
  (first
   | (go_at_call 154; refine (OF.out _).mono ?_; rintro e wb ⟨rfl, hbb⟩; have hLa := H2.out.drew.trans (hbb.mono H2.out.drew.size); have hLb := B1.out.trans (hLa.mono B1.out.size); have zc := C2.out _ hLa; obtain ⟨zc0, zc1⟩ := zc; have zf0 := (hLa.frozen (p := ⟨w.heap.size, 0, none⟩) (by show w.heap.size < wa.heap.size; rw [HSA.out]; omega)).trans (ZF.out 0); have zf1 := (hLa.frozen (p := ⟨w.heap.size, 1, none⟩) (by show w.heap.size < wa.heap.size; rw [HSA.out]; omega)).trans (ZF.out 1); clear hbb))
 all_goals
  obtain ⟨wf, hwf⟩ : ∃ wf : World, (wb.setCell ⟨w.heap.size, 0, none⟩ (.int .i64 (x : Int))).setCell ⟨w.heap.size, 1, none⟩ (.int .i64 (y : Int)) = wf := ⟨_, rfl⟩
  have BF := hid (show Below w.heap.size w wf by rw [<- hwf]; exact (hLb.setCell (p := ⟨w.heap.size, 0, none⟩) (Nat.le_refl _) _).setCell (p := ⟨w.heap.size, 1, none⟩) (Nat.le_refl _) _)
  obtain ⟨r0, r1⟩ := set2j zc0 zc1 hwf
  rw [hwf]
  clear hwf zc0 zc1 zf0 zf1 hLa hLb
  go_wp2_with fail
  exact bodyPost_ret (v := .tuple #[.agg #[.int .i64 (x : Int), .int .i64 (y : Int)], .int .i64 0]) (by simp [results, Tryz.results123, go_sem, r0, r1]) rfl ⟨rfl, BF.out⟩

set_option maxHeartbeats 800000 in
theorem rtimes_any (x y : Nat) (hx : x < 9223372036854775808) (hy : y < 9223372036854775808) (hxy : x * y < 9223372036854775808) (w : World) :
  Calls Tryz.prog 118 #[.int .u64 (x : Int), .int .u64 (y : Int)] w fun e w' => e = .returned (.agg #[.int .u64 0, .int .u64 ((x * y : Nat) : Int)]) /\ Below w.heap.size w w' := by
 have MU := hid (fun (W : World) => show Calls Tryz.prog 153 #[.int .u64 (x : Int), .int .u64 (y : Int)] W fun e w' => e = .returned (.tuple #[.int .u64 0, .int .u64 ((x * y : Nat) : Int)]) /\ w' = W from by
  have h := Any.bits_Mul64 Tryz.mulS x y (by omega) (by omega) W
  rw [Nat.div_eq_of_lt (by omega), Nat.mod_eq_of_lt (by omega)] at h
  exact h)
 obtain ⟨m, hm⟩ : ∃ m, x * y = m := ⟨_, rfl⟩
 rw [hm] at MU ⊢
 have hb1 := below_alloc w (.cells #[.int .u64 0, .int .u64 0] 176)
 obtain ⟨zc0, zc1⟩ := cells2 (w := w) (a := .int .u64 0) (b := .int .u64 0) (t := 176) _ (Below.refl _ _)
 have zf0 : (w.alloc (.cells #[.int .u64 0, .int .u64 0] 176)).frozen? ⟨w.heap.size, 0, none⟩ = false := by simp
 have zf1 : (w.alloc (.cells #[.int .u64 0, .int .u64 0] 176)).frozen? ⟨w.heap.size, 1, none⟩ = false := by simp
 obtain ⟨wa, hwa⟩ : ∃ wa : World, w.alloc (.cells #[.int .u64 0, .int .u64 0] 176) = wa := ⟨_, rfl⟩
 rw [hwa] at hb1 zc0 zc1 zf0 zf1
 have WA := hid hwa
 have B1 := hid hb1
 clear hx hy hxy hm hwa hb1
 go_enter Tryz.func118, Tryz.ntmps118
 go_upto_region 1 with fail
 rw [WA.out]
 go_wp2_with fail
 refine (MU.out _).mono ?_
 rintro e w' ⟨rfl, rfl⟩
 go_wp2_with fail
 obtain ⟨wf, hwf⟩ : ∃ wf : World, (w'.setCell ⟨w.heap.size, 0, none⟩ (.int .u64 0)).setCell ⟨w.heap.size, 1, none⟩ (.int .u64 (m : Int)) = wf := ⟨_, rfl⟩
 have BF := hid (show Below w.heap.size w wf by rw [<- hwf]; exact (B1.out.setCell (p := ⟨w.heap.size, 0, none⟩) (Nat.le_refl _) _).setCell (p := ⟨w.heap.size, 1, none⟩) (Nat.le_refl _) _)
 obtain ⟨r0, r1⟩ := set2j zc0 zc1 hwf
 rw [hwf]
 clear hwf zc0 zc1 zf0 zf1
 exact bodyPost_ret (v := .agg #[.int .u64 0, .int .u64 (m : Int)]) (by simp [results, Tryz.results118, go_sem, r0, r1]) rfl ⟨rfl, BF.out⟩
def sgnN (n : Nat) : Int := if n = 0 then 0 else 1
set_option maxHeartbeats 800000 in
theorem rwcmp_any (n : Nat) (hn : n < 9223372036854775808) (w : World) :
  Calls Tryz.prog 119 #[.agg #[.int .u64 0, .int .u64 (n : Int)], .agg #[.int .u64 0, .int .u64 0]] w fun e w' => e = .returned (.int .i64 (sgnN n)) /\ Below w.heap.size w w' := by
 have hb1 := below_alloc w (.cells #[.int .u64 0, .int .u64 (n : Int)] 176)
 have hb2 := below_alloc (w.alloc (.cells #[.int .u64 0, .int .u64 (n : Int)] 176)) (.cells #[.int .u64 0, .int .u64 0] 176)
 have BF := hid (hb1.trans (hb2.mono hb1.size))
 clear hb1 hb2
 by_cases h0 : n = 0
 ·subst h0
  clear hn
  go_enter Tryz.func119, Tryz.ntmps119
  go_wp2_with fail
  go_ret
  exact ⟨rfl, BF.out⟩
 ·have SG := hid (show sgnN n = 1 from if_neg h0)
  have c1 : ((n : Int) == 0) = false := by rw [beq_eq_false_iff_ne]; omega
  have c2 : decide ((n : Int) < 0) = false := by rw [decide_eq_false_iff_not]; omega
  have c3 : ¬ ((n : Int) = 0) := by omega
  rw [SG.out]
  clear h0 hn
  go_enter Tryz.func119, Tryz.ntmps119
  go_wp2_with fail
  go_ret
  exact ⟨rfl, BF.out⟩
attribute [local irreducible] Go.wpQuiet
set_option maxHeartbeats 1600000 in
set_option maxRecDepth 100000 in
theorem rcmp_any (n d : Nat) (hn : n < 9223372036854775808) (hd : d < 9223372036854775808) (w : World) :
  Calls Tryz.prog 69 #[.agg #[.int .i64 (n : Int), .int .i64 (d : Int)], .agg #[.int .i64 0, .int .i64 1]] w fun e w' => e = .returned (.int .i64 (sgnN n)) /\ Below w.heap.size w w' := by
 have hb1 := below_alloc w (.cells #[.int .i64 (n : Int), .int .i64 (d : Int)] 75)
 have hb2 := below_alloc (w.alloc (.cells #[.int .i64 (n : Int), .int .i64 (d : Int)] 75)) (.cells #[.int .i64 0, .int .i64 1] 75)
 obtain ⟨c0, c1⟩ := cells2 (w := w) (a := .int .i64 (n : Int)) (b := .int .i64 (d : Int)) (t := 75) _ hb2
 obtain ⟨e0, e1⟩ := cells2 (w := w.alloc (.cells #[.int .i64 (n : Int), .int .i64 (d : Int)] 75)) (a := .int .i64 0) (b := .int .i64 1) (t := 75) _ (Below.refl _ _)
 rw [show (w.alloc (.cells #[.int .i64 (n : Int), .int .i64 (d : Int)] 75)).heap.size = w.heap.size + 1 by simp] at e0 e1
 have B0 := hid (hb1.trans (hb2.mono hb1.size))
 obtain ⟨w0, hw0⟩ : ∃ w0 : World, (w.alloc (.cells #[.int .i64 (n : Int), .int .i64 (d : Int)] 75)).alloc (.cells #[.int .i64 0, .int .i64 1] 75) = w0 := ⟨_, rfl⟩
 rw [hw0] at B0 c0 c1 e0 e1
 have W0 := hid hw0
 have AN := hid (fun i : After w0 => Calls.after_same i (rabs_any n hn i.world))
 have AD := hid (fun i : After w0 => Calls.after_same i (rabs_any d hd i.world))
 have A0 := hid (fun i : After w0 => show Calls Tryz.prog 115 #[.int .i64 0] i.world fun e w' => e = .returned (.int .u64 0) /\ ∃ j : After w0, w' = j.world from Calls.after_same i (rabs_any 0 (by omega) i.world))
 have A1 := hid (fun i : After w0 => show Calls Tryz.prog 115 #[.int .i64 1] i.world fun e w' => e = .returned (.int .u64 1) /\ ∃ j : After w0, w' = j.world from Calls.after_same i (rabs_any 1 (by omega) i.world))
 have TN := hid (fun i : After w0 => show Calls Tryz.prog 118 #[.int .u64 (n : Int), .int .u64 1] i.world fun e w' => e = .returned (.agg #[.int .u64 0, .int .u64 (n : Int)]) /\ ∃ j : After w0, w' = j.world from by
  have h := Calls.after i (rtimes_any n 1 hn (by omega) (by omega) i.world)
  rw [Nat.mul_one] at h
  exact h)
 have TD := hid (fun i : After w0 => show Calls Tryz.prog 118 #[.int .u64 0, .int .u64 (d : Int)] i.world fun e w' => e = .returned (.agg #[.int .u64 0, .int .u64 0]) /\ ∃ j : After w0, w' = j.world from by
  have h := Calls.after i (rtimes_any 0 d (by omega) hd (by omega) i.world)
  rw [Nat.zero_mul] at h
  exact h)
 have CM := hid (fun i : After w0 => Calls.after i (rwcmp_any n hn i.world))
 have f0 : ∀ i : After w0, i.world.cell? ⟨w.heap.size, 0, none⟩ = some (.int .i64 (n : Int)) := fun i => After.cell c0 i
 have f1 : ∀ i : After w0, i.world.cell? ⟨w.heap.size, 1, none⟩ = some (.int .i64 (d : Int)) := fun i => After.cell c1 i
 have g0 : ∀ i : After w0, i.world.cell? ⟨w.heap.size + 1, 0, none⟩ = some (.int .i64 0) := fun i => After.cell e0 i
 have g1 : ∀ i : After w0, i.world.cell? ⟨w.heap.size + 1, 1, none⟩ = some (.int .i64 1) := fun i => After.cell e1 i
 have k0 : (0 : Int) <= (n : Int) := by omega
 have k1 : decide ((n : Int) < 0) = false := by rw [decide_eq_false_iff_not]; omega
 obtain ⟨sg, hsg⟩ : ∃ sg, sgnN n = sg := ⟨_, rfl⟩
 rw [hsg] at CM ⊢
 have HCC := hid (And.intro c0 c1)
 clear hn hd hb1 hb2 hw0 hsg
 go_enter Tryz.func69, Tryz.ntmps69
 go_upto_region 1 with fail
 rw [W0.out]
 go_wp2_with fail
 clear c0 c1 e0 e1
 refine wp_region_after (by kernel_rfl) (by kernel_rfl) ?_
 repeat (any_goals (quiet_step (first | with_reducible exact AN.out _ | with_reducible exact AD.out _ | with_reducible exact A0.out _ | with_reducible exact A1.out _ | with_reducible exact TN.out _ | with_reducible exact TD.out _ | with_reducible exact CM.out _)))
 refine wpQuiet_nil ?_
 intro wq hq
 have c0 := (hq.cell (p := ⟨w.heap.size, 0, none⟩) (World.block_lt_of_cell? _ _ HCC.out.1)).trans HCC.out.1
 have BQ := hid (B0.out.trans (hq.mono B0.out.size))
 clear hq f0 f1 g0 g1
 go_wp2_with fail
 go_ret
 exact ⟨rfl, BQ.out⟩
set_option maxHeartbeats 800000 in
theorem rvalid_any (w : World) : Calls Tryz.prog 65 #[.agg #[.int .i64 0, .int .i64 1]] w fun e w' => e = .returned (.bool true) /\ Below w.heap.size w w' := by
 obtain ⟨c0, c1⟩ := cells2 (w := w) (a := .int .i64 0) (b := .int .i64 1) (t := 75) _ (Below.refl _ _)
 have B0 := hid (below_alloc w (.cells #[.int .i64 0, .int .i64 1] 75))
 obtain ⟨w0, hw0⟩ : ∃ w0 : World, w.alloc (.cells #[.int .i64 0, .int .i64 1] 75) = w0 := ⟨_, rfl⟩
 rw [hw0] at B0 c0 c1
 have W0 := hid hw0
 have A0 := hid (fun i : After w0 => show Calls Tryz.prog 115 #[.int .i64 0] i.world fun e w' => e = .returned (.int .u64 0) /\ ∃ j : After w0, w' = j.world from Calls.after_same i (rabs_any 0 (by omega) i.world))
 have G0 := hid (fun i : After w0 => show Calls Tryz.prog 114 #[.int .u64 0, .int .u64 1] i.world fun e w' => e = .returned (.int .u64 1) /\ ∃ j : After w0, w' = j.world from Calls.after i (rgcd_any 0 1 (by omega) (by omega) i.world))
 have f0 : ∀ i : After w0, i.world.cell? ⟨w.heap.size, 0, none⟩ = some (.int .i64 0) := fun i => After.cell c0 i
 have f1 : ∀ i : After w0, i.world.cell? ⟨w.heap.size, 1, none⟩ = some (.int .i64 1) := fun i => After.cell c1 i
 clear hw0
 go_enter Tryz.func65, Tryz.ntmps65
 go_upto_region 1 with fail
 rw [W0.out]
 clear c0 c1
 go_wp2_with fail
 refine wp_region_after (by kernel_rfl) (by kernel_rfl) ?_
 repeat (any_goals (quiet_step (first | exact A0.out _ | exact G0.out _)))
 refine wpQuiet_nil ?_
 intro wq hq
 have BQ := hid (B0.out.trans (hq.mono B0.out.size))
 clear hq f0 f1
 go_wp2_with fail
 go_ret
 exact ⟨rfl, BQ.out⟩
theorem ameasures_any (w : World) : Calls Tryz.prog 64 #[.int .i64 3] w fun e w' => e = .returned (.bool true) /\ w = w' := by
 go_enter Tryz.func64, Tryz.ntmps64
 go_wp2
 go_ret
 exact ⟨rfl, rfl⟩
set_option maxHeartbeats 800000 in
theorem aknown_any (t : T3) (av rv : Value) (w : World) (ht : RdT w av rv t) (hk : tabE2 t = 0) :
  Calls Tryz.prog 63 #[.agg #[.string t.1, av, rv], .slice none 0 0] w fun e w' => e = .returned (.int .i64 0) /\ Below w.heap.size w w' := by
 have hb0 := below_alloc w (.cells #[.string t.1, av, rv] 32)
 have C3 := hid (fun W h => cells3 (w := w) (a := .string t.1) (b := av) (c := rv) (t := 32) W h)
 have T0 := hid (ht.below hb0)
 obtain ⟨w0, hw0⟩ : ∃ w0 : World, w.alloc (.cells #[.string t.1, av, rv] 32) = w0 := ⟨_, rfl⟩
 rw [hw0] at hb0 C3 T0
 have B0 := hid hb0
 have W0 := hid hw0
 have hsz0 := hb0.size
 clear hb0 hw0
 have VA := hid (tvalid_any t av rv w0 T0.out)
 rw [tabE2_tab hk] at VA
 obtain ⟨nm, ats, rs⟩ := t
 obtain ⟨ao, acap, hva, -⟩ := T0.out.1.split
 obtain ⟨ro, rcap, hvr, -⟩ := RdR.split T0.out.2
 simp only at hva hvr
 subst hva hvr
 obtain ⟨k0, k1, k2⟩ := C3.out _ (Below.refl _ _)
 clear ht hk T0
 go_enter Tryz.func63, Tryz.ntmps63
 go_wp2_with fail
 rw [W0.out]
 go_wp2_with fail
 refine VA.out.mono ?_
 rintro e w1 ⟨rfl, hb1⟩
 have B1 := hid (B0.out.trans (hb1.mono hsz0))
 clear hb1 k0 k1 k2 VA
 go_wp2_with fail
 go_loopw [15] (fun i wr => i = .int .i64 0 /\ wr = w1) (fun i _ => 0)
 case atStart => exact ⟨rfl, rfl⟩
 case round =>
  obtain ⟨rfl, rfl⟩ := hrel
  go_wp2_with fail
  go_ret
  exact ⟨rfl, B1.out⟩

end Go.Proofs.YtalejolehccclaaGreatDoor

/- Rows of slices of sets, each with a row of the call's own (as Grp). No program. -/
namespace Go.Proofs.YtalejolehccclaaGreatDoor
open Go.RowKit

abbrev GpS := Value × List S
structure OwnGs (w : World) (B BI : Nat) (tO tI : TypeId) (v : Value) (gs : List GpS) : Prop where
 outer : w.ownsRow B tO 1 v gs.length (gs.map Prod.fst)
 inner : ∀ g ∈ gs, w.ownsRow BI tI 1 g.1 g.2.length (g.2.map enc)
 apart : ∀ (i j : Nat) (g h : GpS), gs[i]? = some g -> gs[j]? = some h -> i ≠ j -> g.1.ownBlock = none ∨ g.1.ownBlock ≠ h.1.ownBlock
 away : ∀ g ∈ gs, g.1.ownBlock = none ∨ g.1.ownBlock ≠ v.ownBlock

section
variable {w w' : World} {B BI : Nat} {tO tI : TypeId} {v : Value} {gs : List GpS}
theorem OwnGs.nil (w : World) (B BI : Nat) (tO tI : TypeId) : OwnGs w B BI tO tI (.slice none 0 0) [] :=
 ⟨World.ownsRow_nil _ _ _ _, by simp, by simp, by simp⟩
theorem OwnGs.kept {row : Option Nat} (h : OwnGs w B BI tO tI v gs) (hg : w.grownBy w' row) (hv : v.ownBlock = none ∨ v.ownBlock ≠ row) (hi : ∀ g ∈ gs, g.1.ownBlock = none ∨ g.1.ownBlock ≠ row) : OwnGs w' B BI tO tI v gs :=
 ⟨h.outer.kept hg hv, fun g hm => (h.inner g hm).kept hg (hi g hm), h.apart, h.away⟩
theorem OwnGs.below (h : OwnGs w B BI tO tI v gs) (hb : Below w.heap.size w w') : OwnGs w' B BI tO tI v gs :=
 ⟨own_below h.outer hb, fun g hg => own_below (h.inner g hg) hb, h.apart, h.away⟩
theorem OwnGs.push {v' : Value} (h : OwnGs w B BI tO tI v gs) (ho : w'.ownsRow B tO 1 v' (gs ++ [((.slice none 0 0, []) : GpS)]).length ((gs ++ [((.slice none 0 0, []) : GpS)]).map Prod.fst)) (hg : w.grownBy w' v.ownBlock) (hl : v'.ownBlock = v.ownBlock ∨ v'.ownBlock = some w.heap.size) :
  OwnGs w' B BI tO tI v' (gs ++ [(.slice none 0 0, [])]) := by
 refine ⟨ho, fun g hm => ?_, fun i j g k hi hj hij => ?_, fun g hm => ?_⟩
 ·rcases List.mem_append.1 hm with hm | hm
  ·exact (h.inner g hm).kept hg (h.away g hm)
  ·rw [List.mem_singleton] at hm; subst hm; exact World.ownsRow_nil _ _ _ _
 ·by_cases h1 : i < gs.length
  ·rw [List.getElem?_append_left h1] at hi
   by_cases h2 : j < gs.length
   ·rw [List.getElem?_append_left h2] at hj
    exact h.apart i j g k hi hj hij
   ·rw [List.getElem?_append_right (by omega)] at hj
    have hj0 := (List.getElem?_eq_some_iff.1 hj).1
    simp at hj0
    have : j - gs.length = 0 := by omega
    rw [this] at hj
    simp at hj; subst hj
    cases hb : g.1.ownBlock with
    | none => exact .inl rfl
    | some b => exact .inr (by simp [Value.ownBlock])
  ·rw [List.getElem?_append_right (by omega)] at hi
   have hi0 := (List.getElem?_eq_some_iff.1 hi).1
   simp at hi0
   have : i - gs.length = 0 := by omega
   rw [this] at hi
   simp at hi; subst hi
   exact .inl rfl
 ·rcases List.mem_append.1 hm with hm | hm
  ·rcases hl with e | e
   ·rw [e]; exact h.away g hm
   ·cases hb : g.1.ownBlock with
    | none => exact .inl rfl
    | some b =>
     refine .inr ?_
     rw [e]
     intro e2
     have := ((h.inner g hm).lt b hb).2
     simp at e2; omega
  ·rw [List.mem_singleton] at hm; subst hm; exact .inl rfl
theorem OwnGs.add {o n cap i : Nat} {g : GpS} {u' : Value} {x : S} (h : OwnGs w B BI tO tI (.slice (some ⟨o, 0, none⟩) n cap) gs) (hi : gs[i]? = some g)
  (ho : w'.ownsRow BI tI 1 u' (g.2 ++ [x]).length ((g.2 ++ [x]).map enc)) (hg : w.grownBy w' g.1.ownBlock) (hl : u'.ownBlock = g.1.ownBlock ∨ u'.ownBlock = some w.heap.size) (hn : n = gs.length) :
  OwnGs (w'.setCell ⟨o, i, none⟩ u') B BI tO tI (.slice (some ⟨o, 0, none⟩) n cap) (gs.set i (u', g.2 ++ [x])) := by
 subst hn
 have hgm := List.mem_of_getElem? hi
 have haw : ∀ k ∈ gs, k.1.ownBlock ≠ some o := by
  intro k hk e
  rcases h.away k hk with h1 | h1
  ·rw [h1] at e; cases e
  ·exact h1 e
 have hlt : o < w.heap.size := (h.outer.lt o rfl).2
 have huo : u'.ownBlock ≠ some o := by
  rcases hl with e | e
  ·rw [e]; exact haw g hgm
  ·rw [e]; simp; omega
 have hout : w'.ownsRow B tO 1 (.slice (some ⟨o, 0, none⟩) gs.length cap) gs.length (gs.map Prod.fst) := by
  refine h.outer.kept hg (.inr ?_)
  intro e
  exact haw g hgm e.symm
 have hne : ∀ (j : Nat) (k : GpS), gs[j]? = some k -> j ≠ i -> k.1.ownBlock = none ∨ k.1.ownBlock ≠ u'.ownBlock := by
  intro j k hj hji
  rcases hl with e | e
  ·rw [e]; exact h.apart j i k g hj hi hji
  ·cases hb : k.1.ownBlock with
   | none => exact .inl rfl
   | some b =>
    refine .inr ?_
    rw [e]
    intro e2
    have := ((h.inner k (List.mem_of_getElem? hj)).lt b hb).2
    simp at e2; omega
 refine ⟨?_, fun k hm => ?_, fun a b k l ha hb hab => ?_, fun k hm => ?_⟩
 ·have := (hout.stored i u').1
  rw [List.length_set, List.map_set]
  exact this
 ·obtain ⟨j, hj⟩ := List.mem_iff_getElem?.1 hm
  rw [List.getElem?_set] at hj
  by_cases e : i = j
  ·subst e
   rw [if_pos rfl] at hj
   split at hj
   ·obtain rfl := Option.some.inj hj
    exact ownsRow_setCell_other ho huo _
   ·cases hj
  ·rw [if_neg e] at hj
   refine ownsRow_setCell_other ((h.inner k (List.mem_of_getElem? hj)).kept hg ?_) (haw k (List.mem_of_getElem? hj)) _
   exact h.apart j i k g hj hi (Ne.symm e)
 ·rw [List.getElem?_set] at ha hb
  by_cases e : i = a
  ·subst e
   rw [if_pos rfl] at ha
   split at ha
   ·obtain rfl := Option.some.inj ha
    rw [if_neg hab] at hb
    rcases hne b l hb (Ne.symm hab) with h1 | h1
    ·by_cases hz : u'.ownBlock = none
     ·exact .inl hz
     ·right; rw [h1]; exact hz
    ·exact .inr (Ne.symm h1)
   ·cases ha
  ·rw [if_neg e] at ha
   by_cases e2 : i = b
   ·subst e2
    rw [if_pos rfl] at hb
    split at hb
    ·obtain rfl := Option.some.inj hb
     exact hne a k ha (Ne.symm e)
    ·cases hb
   ·rw [if_neg e2] at hb
    exact h.apart a b k l ha hb hab
 ·obtain ⟨j, hj⟩ := List.mem_iff_getElem?.1 hm
  rw [List.getElem?_set] at hj
  by_cases e : i = j
  ·subst e
   rw [if_pos rfl] at hj
   split at hj
   ·obtain rfl := Option.some.inj hj
    exact .inr huo
   ·cases hj
  ·rw [if_neg e] at hj
   exact .inr (haw k (List.mem_of_getElem? hj))
def RdGs (w : World) (v : Value) (gs : List GpS) : Prop := RdE Prod.fst w v gs /\ ∀ g ∈ gs, RdE enc w g.1 g.2
theorem RdGs.below (h : RdGs w v gs) (hb : Below w.heap.size w w') : RdGs w' v gs := ⟨h.1.below hb, fun g hg => (h.2 g hg).below hb⟩
theorem OwnGs.rd (h : OwnGs w B BI tO tI v gs) (h1 : gs.length <= 100000) (h2 : ∀ g ∈ gs, g.2.length <= 100000) : RdGs w v gs :=
 ⟨RdE.of_owns h.outer (by omega), fun g hg => RdE.of_owns (h.inner g hg) (by have := h2 g hg; omega)⟩

theorem OwnGs.made {w : World} {B BI n : Nat} {tO tI : TypeId} {v : Value} (ho : w.ownsRow B tO 1 v n (List.replicate n (.slice none 0 0))) : OwnGs w B BI tO tI v (List.replicate n (((.slice none 0 0), []) : GpS)) := by
 refine ⟨by rw [List.length_replicate, List.map_replicate]; exact ho, fun g hg => ?_, fun i j g h hi _ _ => ?_, fun g hg => ?_⟩
 ·rw [List.eq_of_mem_replicate hg]; exact World.ownsRow_nil _ _ _ _
 ·rw [List.eq_of_mem_replicate (List.mem_of_getElem? hi)]; exact .inl rfl
 ·rw [List.eq_of_mem_replicate hg]; exact .inl rfl

end

end Go.Proofs.YtalejolehccclaaGreatDoor

/- Plain laws of approximate dependencies: when the classes are not divided. No program of its own. -/
namespace Go.Proofs.YtalejolehccclaaGreatDoor
open Go.RowKit
set_option linter.unusedVariables false

section
variable {κ : Type} [DecidableEq κ]
theorem ded_one {ks : List κ} (h : ks ≠ []) : (dedK ks).length = 1 ↔ ∀ x ∈ ks, ∀ y ∈ ks, x = y := by
 constructor
 ·intro h1 x hx y hy
  match hd : dedK ks, h1 with
  | [z], _ =>
   have e1 := mem_dedK.2 hx
   have e2 := mem_dedK.2 hy
   rw [hd, List.mem_singleton] at e1 e2
   rw [e1, e2]
 ·intro ha
  obtain ⟨x, hx⟩ := List.exists_mem_of_ne_nil _ h
  match hd : dedK ks with
  | [] => have := mem_dedK.2 hx; rw [hd] at this; cases this
  | [z] => rfl
  | z :: u :: l =>
   have hn := dedK_nodup ks
   rw [hd, List.nodup_cons] at hn
   have e := ha z (mem_dedK.1 (by rw [hd]; simp)) u (mem_dedK.1 (by rw [hd]; simp))
   exact absurd (by rw [e]; simp) hn.1
theorem grp_one {f : Int -> κ} {c : List Int} (h : c ≠ []) : (grpOf (c.map fun i => (f i, i))).length = 1 ↔ ∀ x ∈ c, ∀ y ∈ c, f x = f y := by
 unfold grpOf
 rw [List.length_map, ded_one (by simpa using h)]
 constructor
 ·intro hk x hx y hy
  exact hk (f x) (by simp; exact ⟨x, hx, rfl⟩) (f y) (by simp; exact ⟨y, hy, rfl⟩)
 ·intro hk x hx y hy
  simp only [List.map_map, List.mem_map, Function.comp_apply] at hx hy
  obtain ⟨p, hp, rfl⟩ := hx
  obtain ⟨q, hq, rfl⟩ := hy
  exact hk p hp q hq
end
def partsA (Y : List (List Int)) (c : List Int) : List (List Int) := grpOf (c.map fun i => (labP Y i.toNat, i))
theorem parts_all {κ κ' : Type} [DecidableEq κ] [DecidableEq κ'] {ks : List κ} {ks' : List κ'} (hl : ks'.length = ks.length) :
  (∀ c ∈ clsK ks, (partsA (clsK ks') c).length = 1) ↔ ∀ (i j : Nat) (a b : κ) (a' b' : κ'), ks[i]? = some a -> ks[j]? = some b -> ks'[i]? = some a' -> ks'[j]? = some b' -> a = b -> a' = b' := by
 constructor
 ·intro h i j a b a' b' h1 h2 h3 h4 e
  subst e
  by_cases hij : i = j
  ·subst hij; rw [h3] at h4; exact Option.some.inj h4
  ·have m1 : (i : Int) ∈ idsOf (ixL ks) a := mem_ids.2 ⟨i, h1, rfl⟩
   have m2 : (j : Int) ∈ idsOf (ixL ks) a := mem_ids.2 ⟨j, h2, rfl⟩
   have l2 : 2 <= (idsOf (ixL ks) a).length := by
    match hc : idsOf (ixL ks) a with
    | [] => rw [hc] at m1; cases m1
    | [z] => rw [hc, List.mem_singleton] at m1 m2; omega
    | _ :: _ :: _ => simp
   have hc := h _ (mem_cls.2 ⟨a, List.mem_of_getElem? h1, rfl, l2⟩)
   unfold partsA at hc
   rw [grp_one (by intro e; rw [e] at m1; cases m1)] at hc
   have := hc _ m1 _ m2
   simp only [Int.toNat_natCast] at this
   exact (lab_iff ks' h3 h4).1 this
 ·intro h c hc
  obtain ⟨k, hk, rfl, h2⟩ := mem_cls.1 hc
  unfold partsA
  rw [grp_one (by intro e; rw [e] at h2; simp at h2)]
  intro x hx y hy
  obtain ⟨i, hi, rfl⟩ := mem_ids.1 hx
  obtain ⟨j, hj, rfl⟩ := mem_ids.1 hy
  obtain ⟨a', ha⟩ := get_some (show i < ks'.length by rw [hl]; exact (List.getElem?_eq_some_iff.1 hi).1)
  obtain ⟨b', hb⟩ := get_some (show j < ks'.length by rw [hl]; exact (List.getElem?_eq_some_iff.1 hj).1)
  simp only [Int.toNat_natCast]
  exact (lab_iff ks' ha hb).2 (h i j k k a' b' hi hj ha hb rfl)
theorem parts_det {m : Nat} {rs : List Row3} (h : FineR m rs) {a : Nat} (ha : a < m) {s : S} (hs : sub s (fullN m)) :
  (∀ c ∈ clsK (keyOn rs s), (partsA (clsK (keyOn rs (s ||| bit a))) c).length = 1) ↔ detB rs a s = true := by
 have hs2 : sub (s ||| bit a) (fullN m) := sub_or.2 ⟨hs, bit_full ha h.le⟩
 rw [parts_all (by rw [keyOn_length, keyOn_length]), det_iff h ha hs]
 constructor
 ·intro hk r hr q hq hx
  obtain ⟨i, hi⟩ := List.mem_iff_getElem?.1 hr
  obtain ⟨j, hj⟩ := List.mem_iff_getElem?.1 hq
  have := hk i j _ _ _ _ (keyOn_at hi s) (keyOn_at hj s) (keyOn_at hi _) (keyOn_at hj _) ((key_iff h hr hq hs).2 hx)
  rw [key_iff h hr hq hs2] at this
  exact (sub_or.1 this).2
 ·intro hk i j x y x' y' h1 h2 h3 h4 e
  obtain ⟨r, hr, rfl⟩ := keyOn_get h1
  obtain ⟨q, hq, rfl⟩ := keyOn_get h2
  rw [keyOn_at hr] at h3
  rw [keyOn_at hq] at h4
  cases h3; cases h4
  rw [key_iff h (List.mem_of_getElem? hr) (List.mem_of_getElem? hq) hs] at e
  rw [key_iff h (List.mem_of_getElem? hr) (List.mem_of_getElem? hq) hs2]
  exact sub_or.2 ⟨e, hk _ (List.mem_of_getElem? hr) _ (List.mem_of_getElem? hq) e⟩
theorem parts_sum (Y : List (List Int)) (c : List Int) : ((partsA Y c).map fun p => (p.length : Int)).sum = (c.length : Int) := by
 have h := grp_sum (c.map fun i => (labP Y i.toNat, i))
 have e : ∀ l : List (List Int), (l.map fun p => (p.length : Int) - 1).sum = (l.map fun p => (p.length : Int)).sum - (l.length : Int) := by
  intro l
  induction l with
  | nil => rfl
  | cons x l ih => rw [List.map_cons, List.sum_cons, ih, List.map_cons, List.sum_cons, List.length_cons]; push_cast; omega
 rw [e] at h
 have hl : (partsA Y c).length = (dedK ((c.map fun i => (labP Y i.toNat, i)).map (·.1))).length := by unfold partsA grpOf; rw [List.length_map]
 unfold partsA at hl ⊢
 rw [hl, List.length_map] at h
 omega
theorem parts_ne {Y : List (List Int)} {c p : List Int} (hp : p ∈ partsA Y c) : 1 <= p.length := by
 unfold partsA grpOf at hp
 obtain ⟨k, hk, rfl⟩ := List.mem_map.1 hp
 obtain ⟨q, hq, rfl⟩ := List.mem_map.1 (mem_dedK.1 hk)
 unfold idsOf
 rw [List.length_map]
 exact List.length_pos_of_mem (List.mem_filter.2 ⟨hq, by simp⟩)

end Go.Proofs.YtalejolehccclaaGreatDoor

/- The walk of approx.groups. -/
namespace Go.Proofs.YtalejolehccclaaGreatDoor
open Go.RowKit
set_option linter.unusedVariables false

abbrev IK := { n : Int // inI n }
def mkIK (x : Int) : IK := if h : inI x then ⟨x, h⟩ else ⟨0, by unfold inI; omega⟩
theorem mkIK_val {x : Int} (h : inI x) : (mkIK x).1 = x := by unfold mkIK; rw [dif_pos h]
def intKeys {P : Program} {k : TypeId} (hk : P.underlying k = some (.int .i64)) : KeyE P k IK where
 law := Maps.int_keyed hk
 val n := .int .i64 n.1
 lit n := .int .i64 n.1
 key n := Maps.keyOf_int_mk hk (wfI n.2)
 inj x y h := by simp only [Lit.int.injEq] at h; exact Subtype.ext h.2
def keyJ (Y : List (List Int)) (c : List Int) : List (IK × Int) := c.map fun x => (mkIK (labP Y x.toNat), x)
theorem keyJ_length (Y : List (List Int)) (c : List Int) : (keyJ Y c).length = c.length := by unfold keyJ; simp
theorem keyJ_at {Y : List (List Int)} {c : List Int} {j : Nat} {x : Int} (h : c[j]? = some x) : (keyJ Y c)[j]? = some (mkIK (labP Y x.toNat), x) := by unfold keyJ; rw [List.getElem?_map, h]; rfl
theorem keyJ_parts {Y : List (List Int)} {c : List Int} (hin : ∀ x ∈ c, inI (labP Y x.toNat)) : grpOf (keyJ Y c) = partsA Y c := by
 unfold partsA
 have h := (grpOf_rename (fun k : IK => k.1) (keyJ Y c) (fun p _ q _ e => Subtype.ext e)).1
 rw [<- h]
 congr 1
 unfold keyJ
 rw [List.map_map]
 apply List.map_congr_left
 intro x hx
 show ((mkIK (labP Y x.toNat)).1, x) = _
 rw [mkIK_val (hin x hx)]
theorem undIntJ : Tryz.prog.underlying 3 = some (.int .i64) := by kernel_rfl
theorem undMapII : Tryz.prog.underlying 218 = some (.map 3 3) := by kernel_rfl
theorem undGrpT : Tryz.prog.underlying 181 = some (.slice 114) := by kernel_rfl
theorem infoGrpT : (Tryz.prog.info? 114).map (fun i => (i.zero, i.size, i.bytes)) = some (some (.slice none 0 0), 1, 24) := by kernel_rfl
theorem undGrpsT : Tryz.prog.underlying 179 = some (.slice 181) := by kernel_rfl
theorem infoGrpsT : (Tryz.prog.info? 181).map (fun i => (i.zero, i.size, i.bytes)) = some (some (.slice none 0 0), 1, 24) := by kernel_rfl
abbrev OwnII := OwnG (intKeys (P := Tryz.prog) (k := 3) undIntJ) (.int .i64 0)
theorem boxTF (w : World) (x y z a b : Value) (tr tf : TypeId) (W : World) (h : Below ((w.alloc (.cells #[x, y, z] tr)).alloc (.cells #[a, b] tf)).heap.size ((w.alloc (.cells #[x, y, z] tr)).alloc (.cells #[a, b] tf)) W) :
  (W.cell? ⟨w.heap.size, 0, none⟩ = some x /\ W.cell? ⟨w.heap.size, 1, none⟩ = some y /\ W.cell? ⟨w.heap.size, 2, none⟩ = some z) ∧
  (W.cell? ⟨w.heap.size + 1, 0, none⟩ = some a /\ W.cell? ⟨w.heap.size + 1, 1, none⟩ = some b) := by
 have hb01 := below_alloc (w.alloc (.cells #[x, y, z] tr)) (.cells #[a, b] tf)
 refine ⟨cells3 W (hb01.trans (h.mono hb01.size)), ?_⟩
 have := cells2 (w := w.alloc (.cells #[x, y, z] tr)) W h
 rwa [show (w.alloc (.cells #[x, y, z] tr)).heap.size = w.heap.size + 1 by simp] at this
theorem RdG.grown {w w' : World} {v : Value} {gs : List Gp} {o : Option Nat} (h : RdG w v gs) (hg : w.grownBy w' o) (hf : FarV v o) (hf2 : ∀ g ∈ gs, FarV g.1 o) : RdG w' v gs :=
 ⟨RdE.grown h.1 hg hf, fun g hm => RdE.grown (h.2 g hm) hg (hf2 g hm)⟩
theorem farV_none (v : Value) : FarV v none := fun a len cap _ _ e => by cases e
structure OutsJ (w : World) (u : Value) (outs : List (Value × List Gp)) : Prop where
 rd : ∀ p ∈ outs, RdG w p.1 p.2
 far : ∀ p ∈ outs, FarV p.1 u.ownBlock /\ ∀ g ∈ p.2, FarV g.1 u.ownBlock
theorem OutsJ.below {w w' : World} {u : Value} {outs : List (Value × List Gp)} (h : OutsJ w u outs) (hb : Below w.heap.size w w') : OutsJ w' u outs := ⟨fun p hp => (h.rd p hp).below hb, h.far⟩
theorem OutsJ.push {w w' : World} {u u' v : Value} {gs : List Gp} {outs : List (Value × List Gp)} (h : OutsJ w u outs) (hr : RdG w v gs) (hf : FarV v u.ownBlock) (hf2 : ∀ g ∈ gs, FarV g.1 u.ownBlock) (hg : w.grownBy w' u.ownBlock) (hl : u'.ownBlock = u.ownBlock ∨ u'.ownBlock = some w.heap.size) : OutsJ w' u' (outs ++ [(v, gs)]) := by
 have key : ∀ p ∈ outs ++ [(v, gs)], RdG w p.1 p.2 /\ FarV p.1 u.ownBlock /\ ∀ g ∈ p.2, FarV g.1 u.ownBlock := by
  intro p hp
  rcases List.mem_append.1 hp with hp | hp
  ·exact ⟨h.rd p hp, h.far p hp⟩
  ·rw [List.mem_singleton] at hp; subst hp; exact ⟨hr, hf, hf2⟩
 refine ⟨fun p hp => ?_, fun p hp => ?_⟩
 ·obtain ⟨h1, h2, h3⟩ := key p hp
  exact h1.grown hg h2 h3
 ·obtain ⟨h1, h2, h3⟩ := key p hp
  rcases hl with e | e
  ·rw [e]; exact ⟨h2, h3⟩
  ·rw [e]; exact ⟨RdE.blk h1.1 (Nat.le_refl _), fun g hm => RdE.blk (h1.2 g hm) (Nat.le_refl _)⟩

set_option maxHeartbeats 12800000 in
set_option maxRecDepth 100000 in
theorem agroups_any (t : T3) (av rv : Value) (s : S) (a : Nat) (w : World) (ht : RdT w av rv t) (hT : Tab w) (hE : tabE2 t = 0) (hok : okT t) (hs : sub s (fullN t.2.1.length)) (ha : a < t.2.1.length) (hm32 : t.2.1.length <= 32) :
  Calls Tryz.prog 120 #[.agg #[.string t.1, av, rv], .agg #[.int .u32 (iv s), .int .u32 (iv (bit a))]] w fun e w' => ∃ (v' : Value) (outs : List (Value × List Gp)), e = .returned v' /\ RdE Prod.fst w' v' outs /\ (∀ p ∈ outs, RdG w' p.1 p.2) /\ outs.map (fun p => p.2.map (·.2)) = (clsK (keyOn t.2.2 s)).map (partsA (clsK (keyOn t.2.2 (s ||| bit a)))) /\ Below w.heap.size w w' := by
 have hs2 : sub (s ||| bit a) (fullN t.2.1.length) := sub_or.2 ⟨hs, bit_full ha hm32⟩
 have h200 : t.2.2.length <= 200 := by have := (tabE2_ok hE).2.1; omega
 have BB := hid (fun (W : World) h => boxTF w (.string t.1) av rv (.int .u32 (iv s)) (.int .u32 (iv (bit a))) 32 80 W h)
 have hb00 := below_alloc w (.cells #[.string t.1, av, rv] 32)
 have hb01 := below_alloc (w.alloc (.cells #[.string t.1, av, rv] 32)) (.cells #[.int .u32 (iv s), .int .u32 (iv (bit a))] 80)
 have hb0 := hb00.trans (hb01.mono hb00.size)
 obtain ⟨w0, hw0⟩ : ∃ w0 : World, (w.alloc (.cells #[.string t.1, av, rv] 32)).alloc (.cells #[.int .u32 (iv s), .int .u32 (iv (bit a))] 80) = w0 := ⟨_, rfl⟩
 rw [hw0] at hb0 BB
 have B0 := hid hb0
 have W0 := hid hw0
 have hsz0 := hb0.size
 have T0 := hid (ht.below hb0)
 have HT0 := hid (hT.below hb0)
 have OF1 := hid (fun (W : World) (h : Below w0.heap.size w0 W) => pOf_any t av rv s W (T0.out.below h) (HT0.out.below h) hE hok hs)
 have OF2 := hid (fun (W : World) (h : Below w0.heap.size w0 W) => pOf_any t av rv (s ||| bit a) W (T0.out.below h) (HT0.out.below h) hE hok hs2)
 have OKX := hid (cls_okQ (ks := keyOn t.2.2 s) (by rw [keyOn_length]; omega))
 have OKY := hid (cls_okQ (ks := keyOn t.2.2 (s ||| bit a)) (by rw [keyOn_length]; omega))
 obtain ⟨nm, ats, rs⟩ := t
 obtain ⟨ro, rcap, hvr, -⟩ := RdR.split T0.out.2
 obtain ⟨ao, acap, hva, -⟩ := T0.out.1.split
 simp only at hva hvr
 subst hva hvr
 replace h200 : rs.length <= 200 := h200
 replace OF1 := hid (fun (W : World) (h : Below w0.heap.size w0 W) => show Calls Tryz.prog 101 #[.agg #[.string nm, .slice ao ats.length acap, .slice ro rs.length rcap], .int .u32 (iv s)] W fun e w' => ∃ (v' : Value) (gs : List Gp), e = .returned (.tuple #[.agg #[.int .i64 (rs.length : Int), v'], .int .i64 0]) /\ RdG w' v' gs /\ gs.map (·.2) = clsK (keyOn rs s) /\ FarG W.heap.size v' gs /\ Below W.heap.size W w' from OF1.out W h)
 replace OF2 := hid (fun (W : World) (h : Below w0.heap.size w0 W) => show Calls Tryz.prog 101 #[.agg #[.string nm, .slice ao ats.length acap, .slice ro rs.length rcap], .int .u32 (iv (s ||| bit a))] W fun e w' => ∃ (v' : Value) (gs : List Gp), e = .returned (.tuple #[.agg #[.int .i64 (rs.length : Int), v'], .int .i64 0]) /\ RdG w' v' gs /\ gs.map (·.2) = clsK (keyOn rs (s ||| bit a)) /\ FarG W.heap.size v' gs /\ Below W.heap.size W w' from OF2.out W h)
 replace OKX : Hid (okQ rs.length (clsK (keyOn rs s))) := hid (by have h := OKX.out; rwa [keyOn_length] at h)
 replace OKY : Hid (okQ rs.length (clsK (keyOn rs (s ||| bit a)))) := hid (by have h := OKY.out; rwa [keyOn_length] at h)
 show Calls _ _ _ _ fun e w' => ∃ (v' : Value) (outs : List (Value × List Gp)), e = .returned v' /\ RdE Prod.fst w' v' outs /\ (∀ p ∈ outs, RdG w' p.1 p.2) /\ outs.map (fun p => p.2.map (·.2)) = (clsK (keyOn rs s)).map (partsA (clsK (keyOn rs (s ||| bit a)))) /\ Below w.heap.size w w'
 generalize clsK (keyOn rs s) = X at *
 generalize clsK (keyOn rs (s ||| bit a)) = Y at *
 obtain ⟨n, hn⟩ : ∃ n, rs.length = n := ⟨_, rfl⟩
 rw [hn] at OF1 OF2 OKX OKY BB W0 h200 ⊢
 have OR := hid (show ∀ x y : S, iv (x ||| y) = iv (x ||| y) from fun _ _ => rfl)
 obtain ⟨sa, hsa⟩ : ∃ sa, s ||| bit a = sa := ⟨_, rfl⟩
 have HSA := hid hsa
 rw [hsa] at OF2
 obtain ⟨bb, hbb⟩ : ∃ bb, bit a = bb := ⟨_, rfl⟩
 rw [hbb] at BB W0 HSA ⊢
 have n9 : (n : Int) <= 1000 := by omega
 have n0 : (0 : Int) <= (n : Int) := by omega
 have HN := hid (show n <= 1000 by omega)
 obtain ⟨i0, hi, hz0, hz1, hz2⟩ := info_parts infoPJ
 have I0 := hid hi
 have I1 := hid hz0
 have I2 := hid hz1
 have I3 := hid (show i0.bytes * n <= 281474976710656 by rw [hz2]; omega)
 obtain ⟨⟨t00, t01, t02⟩, ⟨f00, f01⟩⟩ := BB.out _ (Below.refl _ _)
 clear ht hT hE hok hs hs2 ha hm32 hb00 hb01 hb0 hw0 h200 hn hi hz0 hz1 hz2 hsa hbb OR T0 HT0
 go_enter Tryz.func120, Tryz.ntmps120
 go_upto_region 1 with fail
 rw [W0.out]
 go_wp2_with fail
 refine (OF1.out _ (Below.refl _ _)).mono ?_
 rintro e w1 ⟨vx, gx, rfl, hrx, hmx, -, hb1⟩
 obtain ⟨xo, xcap, rfl, -, -⟩ := hrx.split
 have CX := hid (fun (W : World) h => cells2 (w := w1) (a := .int .i64 (n : Int)) (b := .slice xo gx.length xcap) (t := 158) W h)
 have hb2 := below_alloc w1 (.cells #[.int .i64 (n : Int), .slice xo gx.length xcap] 158)
 have RX1 := hid (hrx.below hb2)
 have MX := hid hmx
 have D2 := hid (hb1.trans (hb2.mono hb1.size))
 obtain ⟨w2, hw2⟩ : ∃ w2 : World, w1.alloc (.cells #[.int .i64 (n : Int), .slice xo gx.length xcap] 158) = w2 := ⟨_, rfl⟩
 rw [hw2] at CX RX1 D2
 have W2 := hid hw2
 clear hb1 hb2 hrx hmx hw2 t00 t01 t02 f00 f01
 obtain ⟨⟨t00, t01, t02⟩, ⟨f00, f01⟩⟩ := BB.out _ D2.out
 obtain ⟨x00, x01⟩ := CX.out _ (Below.refl _ _)
 go_upto_region 2 with fail
 rw [W2.out]
 go_wp2_with fail
 rw [HSA.out]
 refine (OF2.out _ D2.out).mono ?_
 rintro e w3 ⟨vy, gy, rfl, hry, hmy, -, hb3⟩
 obtain ⟨yo, ycap, rfl, -, hgc⟩ := hry.split
 have CY := hid (fun (W : World) h => cells2 (w := w3) (a := .int .i64 (n : Int)) (b := .slice yo gy.length ycap) (t := 158) W h)
 have hb4 := below_alloc w3 (.cells #[.int .i64 (n : Int), .slice yo gy.length ycap] 158)
 have MY := hid hmy
 have GC := hid (fun (q : Nat) (g : Gp) (h : gy[q]? = some g) (W : World) (hW : Below (w3.alloc (.cells #[.int .i64 (n : Int), .slice yo gy.length ycap] 158)).heap.size (w3.alloc (.cells #[.int .i64 (n : Int), .slice yo gy.length ycap] 158)) W) => show (∃ b off, yo = some ⟨b, off, none⟩ /\ W.cell? ⟨b, off + q, none⟩ = some g.1) /\ ∃ ao2 cap2, g.1 = .slice ao2 g.2.length cap2 /\ ∀ (j : Nat) (x : Int), g.2[j]? = some x -> ∃ b off, ao2 = some ⟨b, off, none⟩ /\ ∀ W', Below (w3.alloc (.cells #[.int .i64 (n : Int), .slice yo gy.length ycap] 158)).heap.size (w3.alloc (.cells #[.int .i64 (n : Int), .slice yo gy.length ycap] 158)) W' -> W'.cell? ⟨b, off + j, none⟩ = some (.int .i64 x) from by
  obtain ⟨⟨b, off, e1, h1⟩, ao2, cap2, e2, h2⟩ := hgc q g h
  refine ⟨⟨b, off, e1, h1 _ (hb4.trans (hW.mono hb4.size))⟩, ao2, cap2, e2, fun j x hx => ?_⟩
  obtain ⟨b2, off2, e3, h3⟩ := h2 j x hx
  exact ⟨b2, off2, e3, fun W' hW' => h3 _ (hb4.trans (hW'.mono hb4.size))⟩)
 have D34 := hid (hb3.trans (hb4.mono hb3.size))
 obtain ⟨w4, hw4⟩ : ∃ w4 : World, w3.alloc (.cells #[.int .i64 (n : Int), .slice yo gy.length ycap] 158) = w4 := ⟨_, rfl⟩
 rw [hw4] at CY GC D34
 have W4 := hid hw4
 have D4 := hid (D2.out.trans (D34.out.mono D2.out.size))
 have RX4 := hid (RX1.out.below D34.out)
 have CX4 := hid (fun (W : World) (h : Below w4.heap.size w4 W) => CX.out W (D34.out.trans (h.mono D34.out.size)))
 have BB4 := hid (fun (W : World) (h : Below w4.heap.size w4 W) => BB.out W (D4.out.trans (h.mono D4.out.size)))
 have HG := hid (show gy.length <= n by have h := OKY.out.num; rw [<- MY.out, List.length_map] at h; exact h)
 have CA := hid (fun (q : Nat) (g : Gp) (h : gy[q]? = some g) => show Y[q]? = some g.2 by rw [<- MY.out, List.getElem?_map, h]; rfl)
 have CLN := hid (show Y.length = gy.length by rw [<- MY.out, List.length_map])
 clear hb3 hb4 hry hmy hgc hw4 t00 t01 t02 f00 f01 x00 x01 OF1 OF2 RX1 CX BB D34 MY W2
 obtain ⟨⟨t00, t01, t02⟩, -⟩ := BB4.out _ (Below.refl _ _)
 go_upto_region 3 with fail
 rw [W4.out]
 go_wp2_with (at_make; refine wpList_make_full _ rfl _ _ 114 rfl w4.heap.size 3 i0 (.int .i64 0) 1 undPJ I0.out I1.out I2.out _ _ _ _ n rfl rfl (by simp) (by simp) I3.out (by have := HN.out; unfold maxLen; omega) (Nat.le_refl _) ?_)
 intro w5 hown hgrow
 have hb1 : Below w4.heap.size w4 w5 := ⟨hgrow.os, hgrow.tape, hgrow.output, hgrow.size, fun k hk => hgrow.block k hk (fun e => by cases e)⟩
 have B1 := hid hb1
 obtain ⟨sb, hsb⟩ : ∃ sb, w4.heap.size = sb := ⟨_, rfl⟩
 have O1 := hid (show w5.ownsRow sb 3 1 (.slice (some ⟨sb, 0, none⟩) n n) n ((fillL n 0 fL 0).map encJ) by
  rw [<- hsb, fillL_zero, List.map_replicate]
  first | exact hown | simpa [toList_madeCells_one, Value.cells, encJ] using hown)
 have HSB := hid hsb
 rw [hsb]
 clear hown hgrow hb1 hsb t00 t01 t02
 go_wp2_with fail
 go_loopw [47] (fun i wr => ∃ k : Nat, k <= n /\ i = .int .i64 k /\ wr.ownsRow sb 3 1 (.slice (some ⟨sb, 0, none⟩) n n) n ((fillL n 0 fL k).map encJ) /\ Below sb w4 wr) (fun i _ => n - (intOf i).toNat)
 case atStart => exact ⟨0, Nat.zero_le _, rfl, O1.out, by rw [<- HSB.out]; exact B1.out⟩
 case round =>
  obtain ⟨k, hk, rfl, hown, hnx⟩ := hrel
  have k0 : (0 : Int) <= (k : Int) := by omega
  by_cases hlt : k < n
  ·have hcell : wr.cell? ⟨sb, k, none⟩ = some (.int .i64 0) := by
    rw [hown.cellAt k (by omega), List.getElem?_map, fillL_at hlt, if_neg (by omega)]; rfl
   have hfz : wr.frozen? ⟨sb, k, none⟩ = false := hown.frozenAt _
   have HO := hid hown
   have HNX := hid hnx
   have kn : (k : Int) < (n : Int) := by omega
   have k9 : (k : Int) <= 1000 := by omega
   clear hown hnx
   go_wp2_with fail
   have ST := HO.out.stored k (.int .i64 (-1 - (k : Int)))
   have e : ((fillL n 0 fL k).map encJ).set k (.int .i64 (-1 - (k : Int))) = (fillL n 0 fL (k + 1)).map encJ := by rw [<- fillL_set, List.map_set]; rfl
   rw [e] at ST
   go_roundw
   case rel => exact ⟨k + 1, by omega, by go_num, ST.1, HNX.out.grown ST.2 (by have := HNX.out.size; have := HSB.out; omega) (fun j hj => by cases hj; exact Nat.le_refl _)⟩
   case measure => simp [intOf]; omega
  ·have hke : n <= k := by omega
   rw [fillL_all hke] at hown
   have O2 := hid (show wr.ownsRow sb 3 1 (.slice (some ⟨sb, 0, none⟩) n n) n ((labR n (Y.take 0)).map encJ) from hown)
   have NX2 := hid hnx
   obtain ⟨d0, d1⟩ := CY.out wr (by rw [HSB.out]; exact hnx)
   clear hown hnx
   go_wp2_with fail
   go_loopw [59] (fun i wr => ∃ q : Nat, q <= gy.length /\ i = .int .i64 q /\ wr.ownsRow sb 3 1 (.slice (some ⟨sb, 0, none⟩) n n) n ((labR n (Y.take q)).map encJ) /\ Below sb w4 wr) (fun i _ => gy.length - (intOf i).toNat)
   case atStart => exact ⟨0, Nat.zero_le _, rfl, O2.out, NX2.out⟩
   case round =>
    obtain ⟨wo, rfl⟩ : ∃ wo : World, wo = wr := ⟨_, rfl⟩
    obtain ⟨q, hq, rfl, hown, hnx⟩ := hrel
    have q0 : (0 : Int) <= (q : Int) := by omega
    have q9 : (q : Int) <= 1000 := by have := HG.out; have := HN.out; omega
    have BW := hid (show Below w4.heap.size w4 wo by rw [HSB.out]; exact hnx)
    by_cases hlt : q < gy.length
    ·obtain ⟨⟨g1, g2⟩, hg⟩ := get_some hlt
     obtain ⟨⟨b, off, rfl, e0⟩, ao2, cap2, hgf, hcc⟩ := GC.out q (g1, g2) hg wo BW.out
     simp only at hgf
     subst hgf
     have CQ := hid (CA.out q _ hg)
     have HCC := hid hcc
     have HLT := hid hlt
     have HO := hid hown
     have HNX := hid hnx
     have GLEN := hid (show g2.length <= 1000 by have h1 := OKY.out.len g2 (List.mem_of_getElem? CQ.out); have h2 := HN.out; omega)
     clear hg hcc hown hnx hlt
     go_wp2_with fail
     go_loopw [66] (fun j wr => ∃ jn : Nat, jn <= g2.length /\ j = .int .i64 jn /\ wr.ownsRow sb 3 1 (.slice (some ⟨sb, 0, none⟩) n n) n ((labR n (preC Y q jn)).map encJ) /\ Below sb w4 wr) (fun j _ => g2.length - (intOf j).toNat)
     case atStart => exact ⟨0, Nat.zero_le _, rfl, by rw [show labR n (preC Y q 0) = labR n (Y.take q) from List.map_congr_left fun j _ => labP_start Y q j]; exact HO.out, HNX.out⟩
     case round =>
      obtain ⟨jn, hj, rfl, hown, hnx⟩ := hrel
      have j0 : (0 : Int) <= (jn : Int) := by omega
      have j9 : (jn : Int) <= 1000 := by have := GLEN.out; omega
      by_cases hlj : jn < g2.length
      ·obtain ⟨x, hx⟩ := get_some hlj
       obtain ⟨i, rfl, hin⟩ := okP_mem OKY.out.ok CQ.out hx
       obtain ⟨ib, ioff, rfl, hic⟩ := HCC.out jn _ hx
       have e1 := hic wr (by rw [HSB.out]; exact hnx)
       have SS := hid (lab_set OKY.out.ok CQ.out hx)
       have i0' : (0 : Int) <= (i : Int) := by omega
       have m5 : (i : Int) < (n : Int) := by omega
       obtain ⟨lb, hlb⟩ : ∃ lb, labP (preC Y q jn) i = lb := ⟨_, rfl⟩
       have hcell : wr.cell? ⟨sb, i, none⟩ = some (.int .i64 lb) := by
        rw [hown.cellAt i (by omega), List.getElem?_map, labR_at hin, hlb]; rfl
       have hfz : wr.frozen? ⟨sb, i, none⟩ = false := hown.frozenAt _
       have HO2 := hid hown
       have HNX2 := hid hnx
       have HLJ := hid hlj
       clear hx hin hic hown hnx hlj hlb
       go_wp2_with fail
       have ST := HO2.out.stored i (.int .i64 (q : Int))
       have e : (((labR n (preC Y q jn)).map encJ).set i (.int .i64 (q : Int))) = (labR n (preC Y q (jn + 1))).map encJ := by rw [<- SS.out, List.map_set]; rfl
       rw [e] at ST
       go_roundw
       case rel => exact ⟨jn + 1, by have := HLJ.out; omega, by go_num, ST.1, HNX2.out.grown ST.2 (by have := HNX2.out.size; have := HSB.out; omega) (fun j hj => by cases hj; exact Nat.le_refl _)⟩
       case measure => have := HLJ.out; simp [intOf]; omega
      ·have hpe := preC_end CQ.out (show g2.length <= jn by omega)
       rw [hpe] at hown
       have HO2 := hid hown
       have HNX2 := hid hnx
       clear hpe hown hnx
       go_wp2_with fail
       go_roundw
       case rel => exact ⟨q + 1, by have := HLT.out; omega, by go_num, HO2.out, HNX2.out⟩
       case measure => have := HLT.out; simp [intOf]; omega
    ·have hqe : Y.length <= q := by rw [CLN.out]; omega
     rw [List.take_of_length_le hqe] at hown
     have RCL := hid (show RdE encJ wo (.slice (some ⟨sb, 0, none⟩) n n) (labR n Y) from by
      have h := RdE.of_owns (f := encJ) (xs := labR n Y) (v := .slice (some ⟨sb, 0, none⟩) n n) (w := wo) (by rw [labR_length]; exact hown) (by rw [labR_length]; have := HN.out; omega)
      exact h)
     have DW := hid (show Below w4.heap.size w4 wo by rw [HSB.out]; exact hnx)
     have RXW := hid (RX4.out.below DW.out)
     have BW0 := hid (B0.out.trans (D4.out.mono B0.out.size))
     have BF0 := hid (show Below w.heap.size w wo from BW0.out.trans (DW.out.mono BW0.out.size))
     have CLS := hid (fun (i : Nat) (hi : i < n) (W : World) (h : Below wo.heap.size wo W) => show W.cell? ⟨sb, i, none⟩ = some (.int .i64 (labP Y i)) from (h.cell (p := ⟨sb, i, none⟩) (hown.lt sb rfl).2).trans (by rw [hown.cellAt i (by omega), List.getElem?_map, labR_at hi]; rfl))
     obtain ⟨xo', xcap', hxf, -, xgc⟩ := RXW.out.split
     simp only [Value.slice.injEq, true_and] at hxf
     obtain ⟨rfl, rfl⟩ := hxf
     have XC := hid xgc
     have XQ := hid (fun (q : Nat) (g : Gp) (h : gx[q]? = some g) => show X[q]? = some g.2 by rw [<- MX.out, List.getElem?_map, h]; rfl)
     have XLN := hid (show X.length = gx.length by rw [<- MX.out, List.length_map])
     have XG := hid (show gx.length <= n by have h := OKX.out.num; rw [XLN.out] at h; exact h)
     have XP := hid (fun (q j : Nat) (c : List Int) (x : Int) (hc : X[q]? = some c) (hx : c[j]? = some x) => okP_mem OKX.out.ok hc hx)
     have XL := hid (fun (q : Nat) (c : List Int) (hc : X[q]? = some c) => OKX.out.len c (List.mem_of_getElem? hc))
     have YB := hid (fun (i : Nat) (hi : i < n) => show inI (labP Y i) from by have := lab_bound OKY.out i hi; unfold inI; omega)
     obtain ⟨PY, hPY⟩ : ∃ PY, partsA Y = PY := ⟨_, rfl⟩
     have HPY := hid hPY
     have KP := hid (fun (c : List Int) (h : ∀ x ∈ c, inI (labP Y x.toNat)) => show grpOf (keyJ Y c) = PY c from by rw [<- hPY]; exact keyJ_parts h)
     clear hPY
     obtain ⟨d0', d1'⟩ := CX4.out wo DW.out
     clear hown hnx hqe d0 d1 CA GC CLN HG CX4 BB4 CY I0 I1 I2 I3 W4 W0 D4 D2 RX4 O1 O2 NX2 RCL DW RXW BW0 OKX OKY MX xgc B1 HSA B0 HSB
     have hmm := @run_makeMap Tryz.prog
     go_wp2_with fail
     go_loopw [15, 79] (fun u i wr => ∃ (q : Nat) (outs : List (Value × List Gp)), q <= gx.length /\ i = .int .i64 q /\ wr.ownsRow wo.heap.size 181 1 u outs.length (outs.map Prod.fst) /\ OutsJ wr u outs /\ Hid (outs.map (fun p => p.2.map (·.2)) = (X.take q).map PY) /\ Below wo.heap.size wo wr) (fun _ i _ => gx.length - (intOf i).toNat)
     case atStart => exact ⟨0, [], Nat.zero_le _, rfl, World.ownsRow_nil _ _ _ _, ⟨by simp, by simp⟩, hid rfl, Below.refl _ _⟩
     case round =>
      obtain ⟨wc, rfl⟩ : ∃ wc : World, wc = wr := ⟨_, rfl⟩
      obtain ⟨q, outs, hq, rfl, hown, houts, HM, hnx⟩ := hrel
      have q0 : (0 : Int) <= (q : Int) := by omega
      have q9 : (q : Int) <= 1000 := by have := XG.out; have := HN.out; omega
      have HOL := hid (show outs.length <= q by have h := congrArg List.length HM.out; rw [List.length_map, List.length_map, List.length_take] at h; omega)
      by_cases hlt : q < gx.length
      ·obtain ⟨⟨g1, g2⟩, hg⟩ := get_some hlt
       obtain ⟨⟨b, off, rfl, hce⟩, ao2, cap2, hgf, hcc⟩ := XC.out q (g1, g2) hg
       simp only at hgf
       subst hgf
       have e0 := hce wc hnx
       have CQ := hid (XQ.out q _ hg)
       have HCC := hid hcc
       have QLT := hid hlt
       have HO := hid hown
       have HOUT := hid houts
       have HNX := hid hnx
       have GLEN := hid (show g2.length <= 1000 by have h1 := XL.out q g2 CQ.out; have h2 := HN.out; omega)
       have RES := hid (show grpOf (keyJ Y g2) = PY g2 from KP.out g2 (fun x hx => by
        obtain ⟨j, hj⟩ := List.mem_iff_getElem?.1 hx
        obtain ⟨i, rfl, hi⟩ := XP.out q j g2 x CQ.out hj
        rw [Int.toNat_natCast]; exact YB.out i hi))
       have LBA2 := hid (fun (j : Nat) (x : Int) (h : g2[j]? = some x) => keyJ_at (Y := Y) h)
       have LBL := hid (keyJ_length Y g2)
       obtain ⟨LB, hLB⟩ : ∃ LB, keyJ Y g2 = LB := ⟨_, rfl⟩
       rw [hLB] at RES LBA2 LBL
       have HM0 := hid (OwnG.made (intKeys (P := Tryz.prog) (k := 3) undIntJ) (.int .i64 0) wc)
       have NX1 := hid (below_alloc wc (.map #[] 0))
       clear hg hce hcc hown houts hnx hlt hLB
       go_wp2_with fail
       go_loopw [18, 86] (fun u i wr => ∃ (k : Nat) (gs : List Gp), k <= g2.length /\ i = .int .i64 k /\ OwnII wr wc.heap.size gs.length (placeV (dedK ((LB.take k).map (·.1)))) (hasK (dedK ((LB.take k).map (·.1)))) /\ OwnGr wr (wc.heap.size + 1) 114 3 u gs /\ Hid (gs.map (·.2) = grpOf (LB.take k)) /\ Below wc.heap.size wc wr) (fun _ i _ => g2.length - (intOf i).toNat)
       case atStart => exact ⟨0, [], Nat.zero_le _, rfl, HM0.out.congr (fun s => by rw [List.take_zero]; rfl) (fun s => by rw [List.take_zero]; rfl), OwnGr.nil _ _ _ _, hid (by rw [List.take_zero]; rfl), NX1.out⟩
       case round =>
        obtain ⟨wk, rfl⟩ : ∃ wk : World, wk = wr := ⟨_, rfl⟩
        obtain ⟨jn, gs, hk, rfl, hmap, hgr, HG, hnx⟩ := hrel
        have hsz := hnx.size
        have i0 : (0 : Int) <= (jn : Int) := by omega
        have i9 : (jn : Int) <= 1000 := by have := GLEN.out; omega
        have HGL0 := hid (show gs.length <= jn by have h := congrArg List.length HG.out; rw [List.length_map] at h; have h2 := grpOf_length (LB.take jn); have h3 := List.length_take_le jn LB; omega)
        have HGE := hid (show ∀ g ∈ gs, g.2.length <= 1000 from fun g hg => by
         have h1 : g.2 ∈ grpOf (LB.take jn) := by rw [<- HG.out]; exact List.mem_map.2 ⟨g, hg, rfl⟩
         have h2 := grpOf_bound h1
         have h3 := List.length_take_le jn LB
         have h4 := LBL.out
         have h5 := GLEN.out
         omega)
        have NXO := hid (show Below wo.heap.size wo wk from HNX.out.trans (hnx.mono HNX.out.size))
        by_cases hlt : jn < g2.length
        ·obtain ⟨x, hx⟩ := get_some hlt
         have LB1 := hid (LBA2.out jn x hx)
         obtain ⟨i, rfl, hin⟩ := XP.out q jn g2 x CQ.out hx
         obtain ⟨ib, ioff, rfl, hic⟩ := HCC.out jn _ hx
         have e1 := hic wk NXO.out
         have e2 := CLS.out i hin wk NXO.out
         have hn1 : (i : Int) < (n : Int) := by omega
         have hn0 : (0 : Int) <= (i : Int) := by omega
         have IN := YB.out i hin
         rw [Int.toNat_natCast] at LB1
         obtain ⟨lb, hlb⟩ : ∃ lb, labP Y i = lb := ⟨_, rfl⟩
         rw [hlb] at e2 IN LB1
         obtain ⟨K, hK⟩ : ∃ K, mkIK lb = K := ⟨_, rfl⟩
         have KAB := hid (show Value.int .i64 lb = (intKeys (P := Tryz.prog) (k := 3) undIntJ).val K from by show _ = Value.int .i64 K.1; rw [<- hK, mkIK_val IN])
         rw [hK] at LB1
         have HLT := hid hlt
         have NXQ := hid hnx
         have MPQ := hid (show OwnII wk wc.heap.size _ _ _ from hmap)
         have GRQ := hid (show OwnGr wk (wc.heap.size + 1) 114 3 _ gs from hgr)
         obtain ⟨go, gcap, hge⟩ := own_slicePI hgr.outer
         subst hge
         have TN := hid (take_next LB1.out)
         obtain ⟨L, hL⟩ : ∃ L, LB.take jn = L := ⟨_, rfl⟩
         rw [hL] at TN HG MPQ
         clear hmap hgr hnx hL hlt hk hx hin hic hlb hK IN
         by_cases hmem : K ∈ dedK (L.map (·.1))
         ·have HPP := hid (show hasK (dedK (L.map (·.1))) K = true from hasK_in hmem)
          have HAT := grpOf_at hmem
          obtain ⟨OLD, HDK⟩ := grpOf_old (i : Int) hmem
          have HFV := hid (placeV_in hmem)
          have PLT := posK_lt hmem
          have DL : (dedK (L.map (·.1))).length = gs.length := by
           have h := congrArg List.length HG.out
           rw [List.length_map] at h
           rw [h]; unfold grpOf; rw [List.length_map]
          obtain ⟨p, hp⟩ : ∃ p, posK (dedK (L.map (·.1))) K = p := ⟨_, rfl⟩
          rw [hp] at HAT OLD HFV PLT
          rw [<- HG.out, List.getElem?_map] at HAT
          obtain ⟨⟨gv, gl⟩, hpos⟩ := get_some (show p < gs.length by omega)
          rw [hpos] at HAT
          simp only [Option.map_some, Option.some.injEq] at HAT
          have HPOS := hid hpos
          have HPL := hid (show p < gs.length by omega)
          have FG := hid (fun (v8 : Value) => show Hid ((gs.set p (v8, gl ++ [(i : Int)])).map (·.2) = grpOf (L ++ [(K, (i : Int))])) from hid (by rw [OLD, <- HAT, <- HG.out, List.map_set]))
          have MPW := hid (show OwnII wk wc.heap.size gs.length (placeV (dedK ((L ++ [(K, (i : Int))]).map (·.1)))) (hasK (dedK ((L ++ [(K, (i : Int))]).map (·.1)))) by rw [HDK]; exact MPQ.out)
          obtain ⟨o, gcap', hform⟩ := own_formK GRQ.out.outer (by omega)
          simp only [Value.slice.injEq, true_and] at hform
          obtain ⟨rfl, rfl⟩ := hform
          have OWG := GRQ
          have NXW := NXQ
          have HGL := hid (show gl.length <= 1000 from HGE.out _ (List.mem_of_getElem? hpos))
          clear hmem HAT OLD HDK PLT DL hp hpos
          have gcell0 : wk.cell? ⟨o, p, none⟩ = some gv := by rw [OWG.out.outer.cellAt p (by have := HPL.out; omega), List.getElem?_map, HPOS.out]; rfl
          have pn : (p : Int) < (gs.length : Int) := by have := HPL.out; omega
          have p0 : (0 : Int) <= (p : Int) := by omega
          have GMEM := hid (List.mem_of_getElem? HPOS.out)
          have GI := hid (show wk.ownsRow (wc.heap.size + 1) 3 1 gv gl.length (gl.map encJ) from OWG.out.inner _ GMEM.out)
          obtain ⟨gvo, gvcap, hgf⟩ := own_slicePI GI.out
          subst hgf
          have HGNE := hid (show (Value.slice gvo gl.length gvcap).ownBlock ≠ some o from fun e => by
           rcases OWG.out.away _ GMEM.out with h | h
           ·rw [show (Value.slice gvo gl.length gvcap).ownBlock = none from h] at e; cases e
           ·exact h e)
          have HO1 := hid (OWG.out.outer.lt o rfl)
          have gcell : wk.cell? ⟨o, p, none⟩ = some (.slice gvo gl.length gvcap) := gcell0
          clear gcell0
          have XB := hid (show Below wk.heap.size wk (wk.alloc (.cells #[.int .i64 (i : Int)] 3)) from below_alloc _ _)
          have GI2 := hid (own_below GI.out XB.out)
          have OWG2 := hid (OWG.out.below XB.out)
          have NX2 := hid (NXW.out.trans (XB.out.mono NXW.out.size))
          have MP2 := hid (MPW.out.below XB.out)
          have SZW := hid (show wc.heap.size + 1 <= (wk.alloc (.cells #[.int .i64 (i : Int)] 3)).heap.size by have := HO1.out; have := XB.out.size; omega)
          have CN := hid (show (wk.alloc (.cells #[.int .i64 (i : Int)] 3)).cell? ⟨wk.heap.size, 0, none⟩ = some (encJ (i : Int)) from cell_new (w := wk))
          have gcell2 : (wk.alloc (.cells #[.int .i64 (i : Int)] 3)).cell? ⟨o, p, none⟩ = some (.slice gvo gl.length gvcap) := ((below_alloc wk (.cells #[.int .i64 (i : Int)] 3)).cell (p := ⟨o, p, none⟩) HO1.out.2).trans gcell
          go_wp2_with (first | (at_lookup; refine wpList_glook_ok (E := intKeys (P := Tryz.prog) (k := 3) undIntJ) (z := .int .i64 0) (f := placeV (dedK (L.map (·.1)))) (p := hasK (dedK (L.map (·.1)))) (n := gs.length) (b := wc.heap.size) (e := 3) rfl _ _ 218 rfl undMapII (Tryz.zeroValue3 _) rfl MPQ.out K KAB.out ?_; rw [HFV.out, HPP.out]) | (at_builtin; refine wpList_pushE rfl _ _ 114 rfl (wc.heap.size + 1) 3 (.int .i64 0) 8 undPJ infoPJ rfl (by decide) encJ _ gl rfl GI2.out ⟨wk.heap.size, 0, none⟩ (i : Int) rfl rfl CN.out (by have := HGL.out; omega) SZW.out ?_))
          intro v8 w8 hown8 hg8 hv8
          obtain ⟨ao8, n8, cap8, rfl⟩ := own_sliceN hown8
          have ho8 := OWG2.out.outer.kept hg8 (.inr (fun e => HGNE.out e.symm))
          have hc8 := (ho8.cellAt p (by have := HPL.out; omega)).trans (show (gs.map Prod.fst)[p]? = some (.slice gvo gl.length gvcap) by rw [List.getElem?_map, HPOS.out]; rfl)
          have hf8 : w8.frozen? ⟨o, p, none⟩ = false := ho8.frozenAt _
          have OG9 := hid (OwnGr.add (x := (i : Int)) OWG2.out HPOS.out (by simpa using hown8) hg8 (hv8.imp id fun h => by simpa using h) rfl)
          have ST9 := (ho8.stored p (.slice ao8 n8 cap8)).2
          have MP8 := MP2.out.kept hg8 (fun e => by have := (GI2.out.lt _ e.symm).1; omega)
          have MP9 := hid (MP8.kept ST9 (by intro e; have := HO1.out.1; simp at e; omega))
          have NX8 := NX2.out.grown hg8 NX2.out.size (fun j hj => by have := (GI2.out.lt j hj).1; omega)
          have NX9 := hid (NX8.grown ST9 NX8.size (fun j hj => by have h1 := HO1.out.1; simp at hj; omega))
          have HG9 := hid (FG.out (.slice ao8 n8 cap8))
          clear hown8 hg8 hv8 ho8 ST9 MP8 NX8 gcell gcell2
          go_wp2_with fail
          go_roundw
          case rel => exact ⟨jn + 1, gs.set p (.slice ao8 n8 cap8, gl ++ [(i : Int)]), by have := HLT.out; omega, by go_num, by rw [List.length_set, TN.out]; exact MP9.out, OG9.out, by rw [TN.out]; exact HG9, NX9.out⟩
          case measure => have := HLT.out; simp [intOf]; omega
         ·have HPP := hid (show hasK (dedK (L.map (·.1))) K = false from hasK_out hmem)
          obtain ⟨NEW, HDK⟩ := grpOf_new (i : Int) hmem
          have HFV := hid (show placeV (dedK (L.map (·.1))) K = .int .i64 0 from if_neg hmem)
          have DL : (dedK (L.map (·.1))).length = gs.length := by
           have h := congrArg List.length HG.out
           rw [List.length_map] at h
           rw [h]; unfold grpOf; rw [List.length_map]
          have PV := hid (fun (s : IK) => show (if s = K then Value.int .i64 (gs.length : Nat) else placeV (dedK (L.map (·.1))) s) = placeV (dedK ((L ++ [(K, (i : Int))]).map (·.1))) s by rw [HDK, <- placeV_new hmem s, DL])
          have PD := hid (fun (s : IK) => show (if s = K then true else hasK (dedK (L.map (·.1))) s) = hasK (dedK ((L ++ [(K, (i : Int))]).map (·.1))) s by rw [HDK, hasK_snoc])
          have GSM := hid (show (gs ++ [((.slice none 0 0, []) : Gp)])[gs.length]? = some (.slice none 0 0, []) by simp)
          have FG0 := hid (fun (v8 : Value) => show Hid (((gs ++ [((.slice none 0 0, []) : Gp)]).set gs.length (v8, [] ++ [(i : Int)])).map (·.2) = grpOf (L ++ [(K, (i : Int))])) from hid (by rw [NEW, <- HG.out]; simp))
          clear hmem NEW HDK DL
          have hgl0 : gs.length <= 1000 := by have := HGL0.out; omega
          have HGLX := hid hgl0
          go_wp2_with (first
           | (at_lookup; refine wpList_glook_ok (E := intKeys (P := Tryz.prog) (k := 3) undIntJ) (z := .int .i64 0) (f := placeV (dedK (L.map (·.1)))) (p := hasK (dedK (L.map (·.1)))) (n := gs.length) (b := wc.heap.size) (e := 3) rfl _ _ 218 rfl undMapII (Tryz.zeroValue3 _) rfl MPQ.out K KAB.out ?_; rw [HFV.out, HPP.out])
           | (at_mapUpdate; refine wpList_gput (E := intKeys (P := Tryz.prog) (k := 3) undIntJ) (e := 3) rfl _ _ _ 218 rfl undMapII rfl MPQ.out (by have := HGLX.out; unfold maxLen; omega) K (.int .i64 (gs.length : Int)) KAB.out rfl ?_))
          intro w4 hm4 hg4
          have GR4 : OwnGr w4 (wc.heap.size + 1) 114 3 (.slice go gs.length gcap) gs := GRQ.out.kept hg4 (fun k hk => by cases hk; omega)
          have nx4 : Below wc.heap.size wc w4 := NXQ.out.grown hg4 NXQ.out.size (fun j hj => by cases hj; exact Nat.le_refl _)
          have MP4 := hid (show OwnII w4 wc.heap.size (gs.length + 1) (placeV (dedK ((L ++ [(K, (i : Int))]).map (·.1)))) (hasK (dedK ((L ++ [(K, (i : Int))]).map (·.1)))) from hm4.congr (fun s => PV.out s) (fun s => PD.out s))
          have HGR4 := hid GR4
          have NX4 := hid nx4
          have HSZ4 := hid (show wc.heap.size + 1 <= w4.heap.size from MP4.out.lt)
          clear hm4 hg4 GR4 nx4 PV PD e1 e2
          go_wp2_with (at_builtin; refine wpList_pushE rfl _ _ 181 rfl (wc.heap.size + 1) 114 (.slice none 0 0) 24 undGrpT infoGrpT rfl (by decide) (Prod.fst : Gp -> Value) _ gs rfl (HGR4.out.outer.alloc _) ⟨w4.heap.size, 0, none⟩ ((.slice none 0 0, []) : Gp) rfl rfl (by simp) (by have := HGLX.out; omega) (by have := HSZ4.out; simp; omega) ?_)
          intro v5 w5 hown5 hg5 hl5
          have b5 := below_alloc w4 (.cells #[.slice none 0 0] 114)
          have GR5 := (HGR4.out.below b5).push (by simpa using hown5) hg5 (hl5.imp id fun h => by simpa using h)
          have HNB := hid (fun (j : Nat) (e : (Value.slice go gs.length gcap).ownBlock = some j) => HGR4.out.outer.lt j e)
          have hm6 := (MP4.out.below b5).kept hg5 (by
           intro e
           have := (HNB.out _ e.symm).1
           omega)
          have nx6 := below_push NX4.out NX4.out.size (own_mono HGR4.out.outer (show wc.heap.size <= wc.heap.size + 1 by omega)) hg5
          obtain ⟨gs1, hgs1⟩ : ∃ gs1, gs ++ [((.slice none 0 0, []) : Gp)] = gs1 := ⟨_, rfl⟩
          have GLN := hid (show gs1.length = gs.length + 1 by rw [<- hgs1]; simp)
          rw [hgs1] at GR5 GSM FG0
          obtain ⟨o, gcap', hform⟩ := own_formK GR5.outer (by have := GLN.out; omega)
          subst hform
          obtain ⟨p, hp⟩ : ∃ p, gs.length = p := ⟨_, rfl⟩
          have HPOS := hid GSM.out
          have HPL := hid (show gs.length < gs1.length by have := GLN.out; omega)
          have MPW := hid (show OwnII w5 wc.heap.size gs1.length (placeV (dedK ((L ++ [(K, (i : Int))]).map (·.1)))) (hasK (dedK ((L ++ [(K, (i : Int))]).map (·.1)))) by rw [GLN.out]; exact hm6)
          have OWG := hid GR5
          have NXW := hid nx6
          obtain ⟨gv, hgv⟩ : ∃ gv : Value, .slice none 0 0 = gv := ⟨_, rfl⟩
          obtain ⟨gl, hgl⟩ : ∃ gl : List Int, [] = gl := ⟨_, rfl⟩
          rw [hgv, hgl] at HPOS
          have FG := hid (fun (v8 : Value) => show Hid ((gs1.set gs.length (v8, gl ++ [(i : Int)])).map (·.2) = grpOf (L ++ [(K, (i : Int))])) by rw [<- hgl]; exact FG0.out v8)
          have HGL := hid (show gl.length <= 1000 by rw [<- hgl]; simp)
          rw [hp] at HPOS HPL FG
          clear hown5 hg5 hl5 b5 GR5 HNB hm6 nx6 hgs1 GSM FG0 hgl GLN NX4 MP4 HGR4
          rw [hp]
          clear hgv hp
          have gcell0 : w5.cell? ⟨o, p, none⟩ = some gv := by rw [OWG.out.outer.cellAt p (by have := HPL.out; omega), List.getElem?_map, HPOS.out]; rfl
          have pn : (p : Int) < (gs1.length : Int) := by have := HPL.out; omega
          have p0 : (0 : Int) <= (p : Int) := by omega
          have GMEM := hid (List.mem_of_getElem? HPOS.out)
          have GI := hid (show w5.ownsRow (wc.heap.size + 1) 3 1 gv gl.length (gl.map encJ) from OWG.out.inner _ GMEM.out)
          obtain ⟨gvo, gvcap, hgf⟩ := own_slicePI GI.out
          subst hgf
          have HGNE := hid (show (Value.slice gvo gl.length gvcap).ownBlock ≠ some o from fun e => by
           rcases OWG.out.away _ GMEM.out with h | h
           ·rw [show (Value.slice gvo gl.length gvcap).ownBlock = none from h] at e; cases e
           ·exact h e)
          have HO1 := hid (OWG.out.outer.lt o rfl)
          have gcell : w5.cell? ⟨o, p, none⟩ = some (.slice gvo gl.length gvcap) := gcell0
          clear gcell0
          have XB := hid (show Below w5.heap.size w5 (w5.alloc (.cells #[.int .i64 (i : Int)] 3)) from below_alloc _ _)
          have GI2 := hid (own_below GI.out XB.out)
          have OWG2 := hid (OWG.out.below XB.out)
          have NX2 := hid (NXW.out.trans (XB.out.mono NXW.out.size))
          have MP2 := hid (MPW.out.below XB.out)
          have SZW := hid (show wc.heap.size + 1 <= (w5.alloc (.cells #[.int .i64 (i : Int)] 3)).heap.size by have := HO1.out; have := XB.out.size; omega)
          have CN := hid (show (w5.alloc (.cells #[.int .i64 (i : Int)] 3)).cell? ⟨w5.heap.size, 0, none⟩ = some (encJ (i : Int)) from cell_new (w := w5))
          have gcell2 : (w5.alloc (.cells #[.int .i64 (i : Int)] 3)).cell? ⟨o, p, none⟩ = some (.slice gvo gl.length gvcap) := ((below_alloc w5 (.cells #[.int .i64 (i : Int)] 3)).cell (p := ⟨o, p, none⟩) HO1.out.2).trans gcell
          go_wp2_with (at_builtin; refine wpList_pushE rfl _ _ 114 rfl (wc.heap.size + 1) 3 (.int .i64 0) 8 undPJ infoPJ rfl (by decide) encJ _ gl rfl GI2.out ⟨w5.heap.size, 0, none⟩ (i : Int) rfl rfl CN.out (by have := HGL.out; omega) SZW.out ?_)
          intro v8 w8 hown8 hg8 hv8
          obtain ⟨ao8, n8, cap8, rfl⟩ := own_sliceN hown8
          have ho8 := OWG2.out.outer.kept hg8 (.inr (fun e => HGNE.out e.symm))
          have hc8 := (ho8.cellAt p (by have := HPL.out; omega)).trans (show (gs1.map Prod.fst)[p]? = some (.slice gvo gl.length gvcap) by rw [List.getElem?_map, HPOS.out]; rfl)
          have hf8 : w8.frozen? ⟨o, p, none⟩ = false := ho8.frozenAt _
          have OG9 := hid (OwnGr.add (x := (i : Int)) OWG2.out HPOS.out (by simpa using hown8) hg8 (hv8.imp id fun h => by simpa using h) rfl)
          have ST9 := (ho8.stored p (.slice ao8 n8 cap8)).2
          have MP8 := MP2.out.kept hg8 (fun e => by have := (GI2.out.lt _ e.symm).1; omega)
          have MP9 := hid (MP8.kept ST9 (by intro e; have := HO1.out.1; simp at e; omega))
          have NX8 := NX2.out.grown hg8 NX2.out.size (fun j hj => by have := (GI2.out.lt j hj).1; omega)
          have NX9 := hid (NX8.grown ST9 NX8.size (fun j hj => by have h1 := HO1.out.1; simp at hj; omega))
          have HG9 := hid (FG.out (.slice ao8 n8 cap8))
          clear hown8 hg8 hv8 ho8 ST9 MP8 NX8 gcell gcell2
          go_wp2_with fail
          go_roundw
          case rel => exact ⟨jn + 1, gs1.set p (.slice ao8 n8 cap8, gl ++ [(i : Int)]), by have := HLT.out; omega, by go_num, by rw [List.length_set, TN.out]; exact MP9.out, OG9.out, by rw [TN.out]; exact HG9, NX9.out⟩
          case measure => have := HLT.out; simp [intOf]; omega
        ·have hje : g2.length <= jn := by omega
         have HG2 := hid (show gs.map (·.2) = PY g2 by have h := HG.out; rw [List.take_of_length_le (by rw [LBL.out]; omega), RES.out] at h; exact h)
         have RDJ := hid (hgr.rd (by have := HGL0.out; omega) (fun g hg => by have := HGE.out g hg; omega))
         have OWNK := hid (own_below HO.out hnx)
         have OUTK := hid (HOUT.out.below hnx)
         obtain ⟨ugo, ugcap, hue⟩ := own_slicePI hgr.outer
         have FARU := hid (show FarV u18 u15.ownBlock /\ ∀ g ∈ gs, FarV g.1 u15.ownBlock from by
          cases hu : u15.ownBlock with
          | none => exact ⟨farV_none _, fun g _ => farV_none _⟩
          | some j =>
           have hj := (HO.out.lt j hu).2
           exact ⟨far_own hgr.outer (by omega), fun g hg => far_own (hgr.inner g hg) (by omega)⟩)
         have HNK := hid NXO.out
         have HSK := hid (show wo.heap.size <= wk.heap.size from NXO.out.size)
         have BA := hid (below_alloc wk (.cells #[u18] 181))
         clear hmap hgr hnx HG hje
         subst hue
         go_wp2_with (at_builtin; refine wpList_pushE rfl _ _ 179 rfl wo.heap.size 181 (.slice none 0 0) 24 undGrpsT infoGrpsT rfl (by decide) (Prod.fst : (Value × List Gp) -> Value) _ outs rfl (OWNK.out.alloc _) ⟨wk.heap.size, 0, none⟩ ((.slice ugo gs.length ugcap, gs) : Value × List Gp) rfl rfl (by simp) (by have := HOL.out; omega) (by have := HSK.out; simp; omega) ?_)
         intro v8 w8 hown8 hg8 hl8
         have OU8 := hid ((OUTK.out.below BA.out).push (RDJ.out.below BA.out) FARU.out.1 FARU.out.2 hg8 (hl8.imp id fun h => by simpa using h))
         have OW8 := hid (show w8.ownsRow wo.heap.size 181 1 v8 (outs ++ [((.slice ugo gs.length ugcap, gs) : Value × List Gp)]).length ((outs ++ [((.slice ugo gs.length ugcap, gs) : Value × List Gp)]).map Prod.fst) by simpa using hown8)
         have NX8 := hid (below_push HNK.out HSK.out OWNK.out hg8)
         have HM8 := hid (show (outs ++ [((.slice ugo gs.length ugcap, gs) : Value × List Gp)]).map (fun p => p.2.map (·.2)) = (X.take (q + 1)).map PY by
          rw [take_next CQ.out, List.map_append, List.map_append, HM.out, List.map_singleton, List.map_singleton, HG2.out])
         clear hown8 hg8 hl8
         go_wp2_with fail
         go_roundw
         case rel => exact ⟨q + 1, outs ++ [((.slice ugo gs.length ugcap, gs) : Value × List Gp)], by have := QLT.out; omega, by go_num, OW8.out, OU8.out, HM8, NX8.out⟩
         case measure => have := QLT.out; simp [intOf]; omega
      ·have HMF := hid (show outs.map (fun p => p.2.map (·.2)) = X.map PY by have h := HM.out; rwa [List.take_of_length_le (by rw [XLN.out]; omega)] at h)
       have RF := hid (RdE.of_owns hown (by have := HOL.out; omega))
       have RO := hid houts.rd
       have BF := hid (BF0.out.trans (hnx.mono BF0.out.size))
       clear hown houts hnx
       go_wp2_with fail
       go_ret
       exact ⟨_, outs, rfl, RF.out, RO.out, by rw [HPY.out]; exact HMF.out, BF.out⟩

end Go.Proofs.YtalejolehccclaaGreatDoor

/- The walks of approx's size, best, measured. -/
namespace Go.Proofs.YtalejolehccclaaGreatDoor
open Go.RowKit
set_option linter.unusedVariables false

def sumG (gs : List Gp) : Nat := (gs.map fun g => g.2.length).sum
theorem sumG_next {gs : List Gp} {k : Nat} {g : Gp} (h : gs[k]? = some g) : sumG (gs.take (k + 1)) = sumG (gs.take k) + g.2.length := by
 unfold sumG; rw [take_next h, List.map_append, List.sum_append]; simp
theorem sumG_le {gs : List Gp} {m : Nat} (h : ∀ g ∈ gs, g.2.length <= m) : sumG gs <= m * gs.length := by
 unfold sumG
 induction gs with
 | nil => simp
 | cons x gs ih =>
  have h1 := h x (by simp)
  have h2 := ih (fun g hg => h g (by simp [hg]))
  rw [List.map_cons, List.sum_cons, List.length_cons, Nat.mul_succ]
  omega
theorem sumG_take_le {gs : List Gp} {m : Nat} (h : ∀ g ∈ gs, g.2.length <= m) (k : Nat) : sumG (gs.take k) <= m * gs.length := by
 refine Nat.le_trans (sumG_le (m := m) fun g hg => h g (List.mem_of_mem_take hg)) (Nat.mul_le_mul_left _ ?_)
 rw [List.length_take]; omega
theorem sumG_best : ∀ {gs : List Gp}, (∀ g ∈ gs, 1 <= g.2.length) -> ∀ (k : Nat) (g : Gp), gs[k]? = some g -> g.2.length + (gs.length - 1) <= sumG gs /\ (gs.length = 1 -> sumG gs = g.2.length) := by
 intro gs
 induction gs with
 | nil => intro _ k g h; simp at h
 | cons x gs ih =>
  intro h k g hk
  have hx := h x (by simp)
  have hg : ∀ g ∈ gs, 1 <= g.2.length := fun g hg => h g (by simp [hg])
  have hs : sumG (x :: gs) = x.2.length + sumG gs := rfl
  have hlen : gs.length <= sumG gs := by
   unfold sumG
   clear ih h hk hx hs
   induction gs with
   | nil => simp
   | cons y gs ih =>
    have := hg y (by simp)
    have := ih (fun g hm => hg g (by simp [hm]))
    simp only [List.map_cons, List.sum_cons, List.length_cons]
    omega
  rw [hs, List.length_cons]
  cases k with
  | zero =>
   simp only [List.getElem?_cons_zero, Option.some.injEq] at hk
   subst hk
   refine ⟨by omega, fun h1 => ?_⟩
   have : gs = [] := List.eq_nil_of_length_eq_zero (by omega)
   subst this; rfl
  | succ k =>
   rw [List.getElem?_cons_succ] at hk
   have hp := (List.getElem?_eq_some_iff.1 hk).1
   obtain ⟨h1, -⟩ := ih hg k g hk
   exact ⟨by omega, fun h1 => by omega⟩
set_option maxHeartbeats 800000 in
theorem agsize_any (gs : List Gp) (v : Value) (w : World) (hv : RdG w v gs) (hl : gs.length <= 1000) (hg : ∀ g ∈ gs, g.2.length <= 1000) :
  Calls Tryz.prog 121 #[v] w fun e w' => e = .returned (.int .i64 ((sumG gs : Nat) : Int)) /\ w = w' := by
 obtain ⟨ao, cap, rfl, -, hc⟩ := hv.split
 have HC := hid hc
 have HL := hid hl
 have SM := hid (fun k => sumG_take_le hg k)
 have HG := hid hg
 clear hv hc hg hl
 go_enter Tryz.func121, Tryz.ntmps121
 go_wp2_with fail
 go_loopw [3, 8] (fun u i wr => ∃ k : Nat, k <= gs.length /\ i = .int .i64 k /\ u = .int .i64 ((sumG (gs.take k) : Nat) : Int) /\ w = wr) (fun _ i _ => gs.length - (intOf i).toNat)
 case atStart => exact ⟨0, Nat.zero_le _, rfl, rfl, rfl⟩
 case round =>
  obtain ⟨k, hk, rfl, rfl, rfl⟩ := hrel
  have k0 : (0 : Int) <= (k : Int) := by omega
  have k9 : (k : Int) <= 1000 := by have := HL.out; omega
  by_cases hlt : k < gs.length
  ·obtain ⟨⟨g1, g2⟩, hg⟩ := get_some hlt
   obtain ⟨⟨b, off, rfl, hce⟩, ao2, cap2, hgf, -⟩ := HC.out k (g1, g2) hg
   simp only at hgf
   subst hgf
   have e0 := hce w (Below.refl _ _)
   have SN := hid (sumG_next hg)
   have s1 : (0 : Int) <= ((sumG (gs.take k) : Nat) : Int) := by omega
   have s2 : ((sumG (gs.take k) : Nat) : Int) <= 1000000 := by have h1 := SM.out k; have h2 := HL.out; omega
   have s3 : (g2.length : Int) <= 1000 := by have := HG.out (.slice ao2 g2.length cap2, g2) (List.mem_of_getElem? hg); simp only at this; omega
   obtain ⟨σ, hσ⟩ : ∃ σ, sumG (gs.take k) = σ := ⟨_, rfl⟩
   rw [hσ] at SN s1 s2 ⊢
   have HLT := hid hlt
   clear hg hce hσ hlt
   go_wp2_with fail
   go_roundw
   case rel => exact ⟨k + 1, by have := HLT.out; omega, by go_num, by rw [SN.out]; go_num, by first | rfl | trivial⟩
   case measure => have := HLT.out; simp [intOf]; omega
  ·have HE := hid (show sumG (gs.take k) = sumG gs by rw [List.take_of_length_le (by omega)])
   rw [HE.out]
   go_wp2_with fail
   go_ret
   exact ⟨rfl, rfl⟩
set_option maxHeartbeats 800000 in
theorem abest_any (gs : List Gp) (v : Value) (w : World) (hv : RdG w v gs) (hl : gs.length <= 1000) (hne : 0 < gs.length) :
  Calls Tryz.prog 122 #[v] w fun e w' => ∃ k : Nat, k < gs.length /\ e = .returned (.int .i64 (k : Int)) /\ w = w' := by
 obtain ⟨ao, cap, rfl, -, hc⟩ := hv.split
 have HC := hid hc
 have HL := hid hl
 clear hv hc hl
 go_enter Tryz.func122, Tryz.ntmps122
 go_wp2_with fail
 go_loopw [3, 8] (fun u i wr => ∃ k p : Nat, p <= gs.length /\ k < gs.length /\ i = .int .i64 p /\ u = .int .i64 (k : Int) /\ w = wr) (fun _ i _ => gs.length - (intOf i).toNat)
 case atStart => exact ⟨0, 0, Nat.zero_le _, hne, rfl, rfl, rfl⟩
 case round =>
  obtain ⟨k, p, hp, hk, rfl, rfl, rfl⟩ := hrel
  have k0 : (0 : Int) <= (k : Int) := by omega
  have p0 : (0 : Int) <= (p : Int) := by omega
  have k9 : (k : Int) <= 1000 := by have := HL.out; omega
  have p9 : (p : Int) <= 1000 := by have := HL.out; omega
  have hk2 : (k : Int) < (gs.length : Int) := by omega
  by_cases hlt : p < gs.length
  ·obtain ⟨⟨g1, g2⟩, hg⟩ := get_some hlt
   obtain ⟨⟨b, off, rfl, hce⟩, ao2, cap2, hgf, -⟩ := HC.out p (g1, g2) hg
   simp only at hgf
   subst hgf
   have e0 := hce w (Below.refl _ _)
   obtain ⟨⟨f1, f2⟩, hf⟩ := get_some hk
   obtain ⟨⟨b', off', hbb, hce2⟩, ao3, cap3, hff, -⟩ := HC.out k (f1, f2) hf
   simp only [Option.some.injEq, Addr.mk.injEq, and_true] at hbb
   obtain ⟨rfl, rfl⟩ := hbb
   simp only at hff
   subst hff
   have e1 := hce2 w (Below.refl _ _)
   have HLT := hid hlt
   have HK := hid hk
   clear hg hce hf hce2 hlt hk
   by_cases hd : f2.length < g2.length
   ·have d1 : decide ((f2.length : Int) < (g2.length : Int)) = true := by rw [decide_eq_true_iff]; omega
    have d2 : (f2.length : Int) < (g2.length : Int) := by omega
    have d3 : decide (f2.length < g2.length) = true := by rw [decide_eq_true_iff]; omega
    go_wp2_with fail
    go_roundw
    case rel => exact ⟨p, p + 1, by have := HLT.out; omega, HLT.out, by go_num, rfl, by first | rfl | trivial⟩
    case measure => have := HLT.out; simp [intOf]; omega
   ·have d1 : decide ((f2.length : Int) < (g2.length : Int)) = false := by rw [decide_eq_false_iff_not]; omega
    have d2 : ¬ (f2.length : Int) < (g2.length : Int) := by omega
    have d3 : decide (f2.length < g2.length) = false := by rw [decide_eq_false_iff_not]; omega
    go_wp2_with fail
    go_roundw
    case rel => exact ⟨k, p + 1, by have := HLT.out; omega, HK.out, by go_num, rfl, by first | rfl | trivial⟩
    case measure => have := HLT.out; simp [intOf]; omega
  ·have HK := hid hk
   clear hk
   go_wp2_with fail
   go_ret
   exact ⟨k, HK.out, rfl, rfl⟩

theorem boxTFR (w : World) (x y z a b c d : Value) (tr tf tq : TypeId) (W : World) (h : Below (((w.alloc (.cells #[x, y, z] tr)).alloc (.cells #[a, b] tf)).alloc (.cells #[c, d] tq)).heap.size (((w.alloc (.cells #[x, y, z] tr)).alloc (.cells #[a, b] tf)).alloc (.cells #[c, d] tq)) W) :
  (W.cell? ⟨w.heap.size, 0, none⟩ = some x /\ W.cell? ⟨w.heap.size, 1, none⟩ = some y /\ W.cell? ⟨w.heap.size, 2, none⟩ = some z) ∧
  (W.cell? ⟨w.heap.size + 1, 0, none⟩ = some a /\ W.cell? ⟨w.heap.size + 1, 1, none⟩ = some b) /\ (W.cell? ⟨w.heap.size + 2, 0, none⟩ = some c /\ W.cell? ⟨w.heap.size + 2, 1, none⟩ = some d) /\ ∀ j : Nat, W.frozen? ⟨w.heap.size + 2, j, none⟩ = false := by
 have hb := below_alloc ((w.alloc (.cells #[x, y, z] tr)).alloc (.cells #[a, b] tf)) (.cells #[c, d] tq)
 obtain ⟨h1, h2⟩ := boxTF w x y z a b tr tf W (hb.trans (h.mono hb.size))
 have e : ((w.alloc (.cells #[x, y, z] tr)).alloc (.cells #[a, b] tf)).heap.size = w.heap.size + 2 := by simp
 refine ⟨h1, h2, ?_, fun j => ?_⟩
 ·have := cells2 (w := (w.alloc (.cells #[x, y, z] tr)).alloc (.cells #[a, b] tf)) W h
  rwa [e] at this
 ·have key : ∀ v : World, (v.alloc (.cells #[c, d] tq)).frozen? ⟨v.heap.size, j, none⟩ = false := fun v => by simp
  have := key ((w.alloc (.cells #[x, y, z] tr)).alloc (.cells #[a, b] tf))
  rw [e] at this
  exact (h.frozen (p := ⟨w.heap.size + 2, j, none⟩) (by simp)).trans this
theorem sum_cast (l : List (List Int)) : (l.map fun p => (p.length : Int)).sum = (((l.map List.length).sum : Nat) : Int) := by
 induction l with
 | nil => rfl
 | cons x l ih => simp only [List.map_cons, List.sum_cons, ih]; push_cast; rfl
theorem sumG_map (gs : List Gp) : sumG gs = ((gs.map (·.2)).map List.length).sum := by unfold sumG; rw [List.map_map]; rfl
theorem parts_of {gs : List Gp} {Y : List (List Int)} {c : List Int} (h : gs.map (·.2) = partsA Y c) : sumG gs = c.length /\ ∀ g ∈ gs, 1 <= g.2.length := by
 constructor
 ·have h1 := parts_sum Y c
  rw [sum_cast, <- h, <- sumG_map] at h1
  omega
 ·intro g hg
  exact parts_ne (Y := Y) (c := c) (by rw [<- h]; exact List.mem_map.2 ⟨g, hg, rfl⟩)
theorem sumG_mem {gs : List Gp} {g : Gp} (h : g ∈ gs) : g.2.length <= sumG gs := by
 unfold sumG
 induction gs with
 | nil => cases h
 | cons x gs ih =>
  rw [List.map_cons, List.sum_cons]
  rcases List.mem_cons.1 h with rfl | h
  ·omega
  ·have := ih h; omega
theorem sumG_ge {gs : List Gp} (h : ∀ g ∈ gs, 1 <= g.2.length) : gs.length <= sumG gs := by
 unfold sumG
 induction gs with
 | nil => simp
 | cons y gs ih =>
  have := h y (by simp)
  have := ih (fun g hm => h g (by simp [hm]))
  simp only [List.map_cons, List.sum_cons, List.length_cons]
  omega
theorem outs_ok {κ : Type} [DecidableEq κ] {ks : List κ} {Y : List (List Int)} {outs : List (Value × List Gp)} (h : outs.map (fun p => p.2.map (·.2)) = (clsK ks).map (partsA Y)) (hk : ks.length <= 200) :
  outs.length <= 200 /\ (∀ p ∈ outs, (∀ g ∈ p.2, 1 <= g.2.length /\ g.2.length <= 200) /\ 1 <= sumG p.2 /\ sumG p.2 <= 200 /\ p.2.length <= 200 /\ 0 < p.2.length) /\ ((∀ p ∈ outs, p.2.length = 1) ↔ ∀ c ∈ clsK ks, (partsA Y c).length = 1) := by
 have OK := cls_okQ (ks := ks) (by omega)
 refine ⟨?_, fun p hp => ?_, ?_⟩
 ·have h1 := congrArg List.length h
  rw [List.length_map, List.length_map] at h1
  have := OK.num
  omega
 ·have hm : p.2.map (·.2) ∈ (clsK ks).map (partsA Y) := by rw [<- h]; exact List.mem_map.2 ⟨p, hp, rfl⟩
  obtain ⟨c, hc, he⟩ := List.mem_map.1 hm
  obtain ⟨h1, h2⟩ := parts_of he.symm
  have h3 := OK.len c hc
  obtain ⟨k, -, -, h4⟩ := mem_cls.1 hc
  have h5 := sumG_ge h2
  refine ⟨fun g hg => ⟨h2 g hg, ?_⟩, by omega, by omega, by omega, ?_⟩
  ·have := sumG_mem hg; omega
  ·rcases Nat.eq_zero_or_pos p.2.length with h0 | h0
   ·have : p.2 = [] := List.eq_nil_of_length_eq_zero h0
    rw [this] at h1
    have : sumG [] = 0 := rfl
    omega
   ·exact h0
 ·have key : (outs.map (fun p => p.2.map (·.2))).map List.length = outs.map fun p => p.2.length := by
   rw [List.map_map]; apply List.map_congr_left; intro p _; simp
  have key2 : outs.map (fun p => p.2.length) = (clsK ks).map fun c => (partsA Y c).length := by
   rw [<- key, h, List.map_map]; rfl
  constructor
  ·intro ha c hc
   have : (partsA Y c).length ∈ outs.map fun p => p.2.length := by rw [key2]; exact List.mem_map.2 ⟨c, hc, rfl⟩
   obtain ⟨p, hp, e⟩ := List.mem_map.1 this
   rw [<- e]; exact ha p hp
  ·intro ha p hp
   have : p.2.length ∈ (clsK ks).map fun c => (partsA Y c).length := by rw [<- key2]; exact List.mem_map.2 ⟨p, hp, rfl⟩
   obtain ⟨c, hc, e⟩ := List.mem_map.1 this
   rw [<- e]; exact ha c hc
theorem one_next {outs : List (Value × List Gp)} {q : Nat} {p : Value × List Gp} {σ d : Nat} (h : outs[q]? = some p) (hs : σ = 0 ↔ ∀ p ∈ outs.take q, p.2.length = 1) (hd : d = 0 ↔ p.2.length = 1) : σ + d = 0 ↔ ∀ p ∈ outs.take (q + 1), p.2.length = 1 := by
 rw [take_next h]
 constructor
 ·intro h0 p' hp'
  rcases List.mem_append.1 hp' with hp' | hp'
  ·exact hs.1 (by omega) p' hp'
  ·rw [List.mem_singleton] at hp'; subst hp'; exact hd.1 (by omega)
 ·intro ha
  have h1 := hs.2 fun p' hp' => ha p' (by simp [hp'])
  have h2 := hd.2 (ha p (by simp))
  omega
set_option maxHeartbeats 6400000 in
set_option maxRecDepth 100000 in
theorem ameas_any (t : T3) (av rv : Value) (s : S) (a : Nat) (w : World) (ht : RdT w av rv t) (hT : Tab w) (hE : tabE2 t = 0) (hok : okT t) (hs : sub s (fullN t.2.1.length)) (ha : a < t.2.1.length) :
  Calls Tryz.prog 70 #[.agg #[.string t.1, av, rv], .agg #[.int .u32 (iv s), .int .u32 (iv (bit a))], .int .i64 3] w fun e w' => ∃ num den : Nat, e = .returned (.agg #[.int .i64 (num : Int), .int .i64 (den : Int)]) /\ (num = 0 ↔ detB t.2.2 a s = true) /\ num < 9223372036854775808 /\ den < 9223372036854775808 /\ Below w.heap.size w w' := by
 obtain ⟨h16, h200, -⟩ := tabE2_ok hE
 have PD := hid (parts_det (fine_of hE hok) ha hs)
 have BB := hid (fun (W : World) h => boxTFR w (.string t.1) av rv (.int .u32 (iv s)) (.int .u32 (iv (bit a))) (.int .i64 0) (.int .i64 0) 32 80 75 W h)
 have hb00 := below_alloc w (.cells #[.string t.1, av, rv] 32)
 have hb01 := below_alloc (w.alloc (.cells #[.string t.1, av, rv] 32)) (.cells #[.int .u32 (iv s), .int .u32 (iv (bit a))] 80)
 have hb02 := below_alloc ((w.alloc (.cells #[.string t.1, av, rv] 32)).alloc (.cells #[.int .u32 (iv s), .int .u32 (iv (bit a))] 80)) (.cells #[.int .i64 0, .int .i64 0] 75)
 have hb0' := hb00.trans (hb01.mono hb00.size)
 have hb0 := hb0'.trans (hb02.mono hb0'.size)
 obtain ⟨w0, hw0⟩ : ∃ w0 : World, ((w.alloc (.cells #[.string t.1, av, rv] 32)).alloc (.cells #[.int .u32 (iv s), .int .u32 (iv (bit a))] 80)).alloc (.cells #[.int .i64 0, .int .i64 0] 75) = w0 := ⟨_, rfl⟩
 rw [hw0] at hb0 BB
 have B0 := hid hb0
 have W0 := hid hw0
 have T0 := hid (ht.below hb0)
 have HT0 := hid (hT.below hb0)
 have GR := hid (agroups_any t av rv s a w0 T0.out HT0.out hE hok hs ha (by omega))
 obtain ⟨nm, ats, rs⟩ := t
 obtain ⟨ro, rcap, hvr, -⟩ := RdR.split T0.out.2
 obtain ⟨ao, acap, hva, -⟩ := T0.out.1.split
 simp only at hva hvr
 subst hva hvr
 replace h200 : rs.length <= 200 := h200
 replace PD : Hid ((∀ c ∈ clsK (keyOn rs s), (partsA (clsK (keyOn rs (s ||| bit a))) c).length = 1) ↔ detB rs a s = true) := PD
 show Calls _ _ _ _ fun e w' => ∃ num den : Nat, e = .returned (.agg #[.int .i64 (num : Int), .int .i64 (den : Int)]) /\ (num = 0 ↔ detB rs a s = true) /\ num < 9223372036854775808 /\ den < 9223372036854775808 /\ Below w.heap.size w w'
 replace GR := hid (show Calls Tryz.prog 120 #[.agg #[.string nm, .slice ao ats.length acap, .slice ro rs.length rcap], .agg #[.int .u32 (iv s), .int .u32 (iv (bit a))]] w0 fun e w' => ∃ (v' : Value) (outs : List (Value × List Gp)), e = .returned v' /\ RdE Prod.fst w' v' outs /\ (∀ p ∈ outs, RdG w' p.1 p.2) /\ outs.map (fun p => p.2.map (·.2)) = (clsK (keyOn rs s)).map (partsA (clsK (keyOn rs (s ||| bit a)))) /\ Below w0.heap.size w0 w' from GR.out)
 have OO := hid (fun (outs : List (Value × List Gp)) (h : outs.map (fun p => p.2.map (·.2)) = (clsK (keyOn rs s)).map (partsA (clsK (keyOn rs (s ||| bit a))))) => outs_ok h (by rw [keyOn_length]; omega))
 have DE := hid (show rs.length = 0 -> detB rs a s = true from fun h => by rw [List.eq_nil_of_length_eq_zero h]; rfl)
 generalize detB rs a s = DT at *
 generalize clsK (keyOn rs s) = X at *
 generalize clsK (keyOn rs (s ||| bit a)) = Y at *
 obtain ⟨n, hn⟩ : ∃ n, rs.length = n := ⟨_, rfl⟩
 rw [hn] at GR BB W0 h200 DE ⊢
 obtain ⟨bb, hbb⟩ : ∃ bb, bit a = bb := ⟨_, rfl⟩
 rw [hbb] at GR BB W0 ⊢
 have HN := hid h200
 have n0 : (0 : Int) <= (n : Int) := by omega
 have n9 : (n : Int) <= 200 := by omega
 obtain ⟨⟨t00, t01, t02⟩, ⟨f00, f01⟩, ⟨r00, r01⟩, rz⟩ := BB.out _ (Below.refl _ _)
 have rz0 := rz 0
 have rz1 := rz 1
 have HS0 := hid hb0.size
 clear ht hT hE hok hs ha hb00 hb01 hb02 hb0 hb0' hw0 h200 hn hbb h16 rz T0 HT0
 by_cases h0 : n = 0
 ·have c0 : ((n : Int) == 0) = true := by rw [beq_iff_eq]; omega
  have D := hid (DE.out h0)
  clear h0
  go_enter Tryz.func70, Tryz.ntmps70
  go_upto_region 1 with fail
  rw [W0.out]
  go_wp2_with fail
  obtain ⟨wf, hwf⟩ : ∃ wf : World, (w0.setCell ⟨w.heap.size + 2, 0, none⟩ (.int .i64 0)).setCell ⟨w.heap.size + 2, 1, none⟩ (.int .i64 1) = wf := ⟨_, rfl⟩
  have BF := hid (show Below w.heap.size w wf by rw [<- hwf]; exact (B0.out.setCell (p := ⟨w.heap.size + 2, 0, none⟩) (by show w.heap.size <= w.heap.size + 2; omega) _).setCell (p := ⟨w.heap.size + 2, 1, none⟩) (by show w.heap.size <= w.heap.size + 2; omega) _)
  obtain ⟨r0, r1⟩ := set2j r00 r01 hwf
  rw [hwf]
  clear hwf r00 r01 rz0 rz1 t00 t01 t02 f00 f01
  exact bodyPost_ret (v := .agg #[.int .i64 0, .int .i64 1]) (by simp [results, Tryz.results70, go_sem, r0, r1]) rfl ⟨0, 1, rfl, by simp [D.out], by omega, by omega, BF.out⟩
 ·have c0 : ((n : Int) == 0) = false := by rw [beq_eq_false_iff_ne]; omega
  have c1 : ¬ ((n : Int) = 0) := by omega
  have MK := hid (fun (σ : Nat) (h : σ <= 1000000) (W : World) => rmake_any σ n (by omega) (by have := HN.out; omega) (by omega) W)
  have HN0 := hid h0
  clear h0
  go_enter Tryz.func70, Tryz.ntmps70
  go_upto_region 1 with fail
  rw [W0.out]
  go_wp2_with fail
  refine GR.out.mono ?_
  rintro e w1 ⟨vg, outs, rfl, hro, hrd, hmap, hb1⟩
  obtain ⟨hol, hpk, hone⟩ := OO.out outs hmap
  have ONE := hid (hone.trans PD.out)
  have HPK := hid hpk
  have HOL := hid hol
  have HRD := hid hrd
  have NB1 := hid hb1
  obtain ⟨go, gcap, rfl, -, hgc⟩ := hro.split
  have HGC := hid hgc
  have o9 : (outs.length : Int) <= 200 := by omega
  obtain ⟨⟨t10, t11, t12⟩, ⟨f10, f11⟩, ⟨q00, q01⟩, qz⟩ := BB.out _ hb1
  have qz0 := qz 0
  have qz1 := qz 1
  clear hro hrd hmap hb1 hol hpk hone hgc qz OO PD t00 t01 t02 f00 f01 r00 r01 rz0 rz1
  go_wp2_with fail
  go_loopw [8, 28] (fun u i wr => ∃ q σ : Nat, q <= outs.length /\ i = .int .i64 q /\ u = .int .i64 (σ : Int) /\ σ <= 1000 * q /\ Hid (σ = 0 ↔ ∀ p ∈ outs.take q, p.2.length = 1) /\ w1 = wr) (fun _ i _ => outs.length - (intOf i).toNat)
  case atStart => exact ⟨0, 0, Nat.zero_le _, rfl, rfl, Nat.zero_le _, hid (by simp), rfl⟩
  case round =>
   obtain ⟨q, σ, hq, rfl, rfl, hσ, HS, rfl⟩ := hrel
   have q0 : (0 : Int) <= (q : Int) := by omega
   have s0 : (0 : Int) <= (σ : Int) := by omega
   have s9 : (σ : Int) <= 200000 := by have := HOL.out; omega
   by_cases hlt : q < outs.length
   ·obtain ⟨⟨gv, gs⟩, hg⟩ := get_some hlt
    obtain ⟨b, off, rfl, hce⟩ := HGC.out q _ hg
    have e0 := hce w1 (Below.refl _ _)
    have hmem := List.mem_of_getElem? hg
    have RG := HRD.out _ hmem
    obtain ⟨hp1, hp2, hp3, hp4, hp5⟩ := HPK.out _ hmem
    simp only at RG hp1 hp2 hp3 hp4 hp5 e0
    have SZ := hid (agsize_any gs gv w1 RG (by omega) (fun g hg => by have := (hp1 g hg).2; omega))
    have BE := hid (abest_any gs gv w1 RG (by omega) hp5)
    obtain ⟨xo, xcap, rfl, -, xgc⟩ := RG.split
    have XC := hid xgc
    have HG := hid hg
    have HP1 := hid hp1
    have HLT := hid hlt
    have HSG := hid hσ
    obtain ⟨S, hS⟩ : ∃ S, sumG gs = S := ⟨_, rfl⟩
    have HSS := hid hS
    rw [hS] at SZ hp2 hp3
    have S9 : (S : Int) <= 200 := by omega
    have S0 : (0 : Int) <= (S : Int) := by omega
    have l9 : (gs.length : Int) <= 200 := by omega
    have HP5 := hid hp5
    clear hg hce hmem RG hp1 hp2 hp3 hp4 hp5 xgc hS hlt hσ
    go_wp2_with fail
    refine SZ.out.mono ?_
    rintro e w' ⟨rfl, rfl⟩
    go_wp2_with fail
    refine BE.out.mono ?_
    rintro e w' ⟨k, hk, rfl, rfl⟩
    obtain ⟨⟨g1, g2⟩, hgk⟩ := get_some hk
    obtain ⟨⟨b2, off2, rfl, hce2⟩, ao2, cap2, hgf, -⟩ := XC.out k (g1, g2) hgk
    simp only at hgf
    subst hgf
    have e1 := hce2 w1 (Below.refl _ _)
    obtain ⟨m1, m2⟩ := sumG_best (fun g hg => (HP1.out g hg).1) k _ hgk
    rw [HSS.out] at m1 m2
    simp only at m1 m2
    have k0 : (0 : Int) <= (k : Int) := by omega
    have kl : (k : Int) < (gs.length : Int) := by omega
    have g0 : (0 : Int) <= (g2.length : Int) := by omega
    have gS : (g2.length : Int) <= (S : Int) := by omega
    have ON := hid (one_next (d := S - g2.length) HG.out HS.out (by show S - g2.length = 0 ↔ gs.length = 1; constructor <;> intro h <;> have := HP5.out <;> (first | omega | (have := m2 h; omega))))
    have SM := hid (show ((σ + (S - g2.length) : Nat) : Int) = (σ : Int) + ((S : Int) - (g2.length : Int)) by omega)
    have SB := hid (show σ + (S - g2.length) <= 1000 * (q + 1) by have := HSG.out; omega)
    clear hk hgk hce2 m1 m2
    go_wp2_with fail
    go_roundw
    case rel => exact ⟨q + 1, σ + (S - g2.length), by have := HLT.out; omega, by go_num, by rw [SM.out], SB.out, ON, by first | rfl | trivial⟩
    case measure => have := HLT.out; simp [intOf]; omega
   ·have ON := hid (show σ = 0 ↔ DT = true by
     have h := HS.out
     rw [List.take_of_length_le (by omega)] at h
     exact h.trans ONE.out)
    have MM := hid (MK.out σ (by have := HOL.out; omega) w1)
    have GD := hid (Nat.gcd_dvd_left σ n)
    have GP := hid (show 0 < Nat.gcd σ n from Nat.gcd_pos_of_pos_right _ (by have := HN0.out; omega))
    obtain ⟨G, hG⟩ : ∃ G, Nat.gcd σ n = G := ⟨_, rfl⟩
    rw [hG] at MM GD GP
    have Z := hid (show σ / G = 0 ↔ σ = 0 by
     have gp := GP.out
     constructor
     ·intro h
      rcases Nat.div_eq_zero_iff.1 h with h | h
      ·omega
      ·rcases Nat.eq_zero_or_pos σ with h1 | h1
       ·exact h1
       ·have := Nat.le_of_dvd h1 GD.out; omega
     ·intro h; rw [h, Nat.zero_div])
    have R1 := hid (Nat.div_le_self σ G)
    have R2 := hid (Nat.div_le_self n G)
    have HSL := hid (show σ <= 200000 by omega)
    obtain ⟨x, hx⟩ : ∃ x, σ / G = x := ⟨_, rfl⟩
    obtain ⟨y, hy⟩ : ∃ y, n / G = y := ⟨_, rfl⟩
    rw [hx] at MM Z R1
    rw [hy] at MM R2
    clear hG hx hy
    go_wp2_with fail
    refine MM.out.mono ?_
    rintro e w2 ⟨rfl, hb2⟩
    have NB2 := hid (NB1.out.trans (hb2.mono NB1.out.size))
    have hb3 := below_alloc w2 (.cells #[.int .i64 (x : Int), .int .i64 (y : Int)] 75)
    have NB3 := hid (NB2.out.trans (hb3.mono NB2.out.size))
    obtain ⟨-, -, ⟨p00, p01⟩, pz⟩ := BB.out _ NB3.out
    have pz0 := pz 0
    have pz1 := pz 1
    obtain ⟨v0, v1⟩ := cells2 (w := w2) (a := .int .i64 (x : Int)) (b := .int .i64 (y : Int)) (t := 75) _ (Below.refl _ _)
    obtain ⟨w3, hw3⟩ : ∃ w3 : World, w2.alloc (.cells #[.int .i64 (x : Int), .int .i64 (y : Int)] 75) = w3 := ⟨_, rfl⟩
    rw [hw3] at p00 p01 pz0 pz1 NB3 v0 v1
    have W3 := hid hw3
    clear hb2 hb3 hw3 pz q00 q01 qz0 qz1 t10 t11 t12 f10 f11
    go_upto_region 25 with fail
    rw [W3.out]
    go_wp2_with fail
    obtain ⟨wf, hwf⟩ : ∃ wf : World, (w3.setCell ⟨w.heap.size + 2, 0, none⟩ (.int .i64 (x : Int))).setCell ⟨w.heap.size + 2, 1, none⟩ (.int .i64 (y : Int)) = wf := ⟨_, rfl⟩
    have B3 := hid (B0.out.trans (NB3.out.mono HS0.out))
    have BF := hid (show Below w.heap.size w wf by rw [<- hwf]; exact (B3.out.setCell (p := ⟨w.heap.size + 2, 0, none⟩) (by show w.heap.size <= w.heap.size + 2; omega) _).setCell (p := ⟨w.heap.size + 2, 1, none⟩) (by show w.heap.size <= w.heap.size + 2; omega) _)
    obtain ⟨r0, r1⟩ := set2j p00 p01 hwf
    rw [hwf]
    clear hwf p00 p01 pz0 pz1
    exact bodyPost_ret (v := .agg #[.int .i64 (x : Int), .int .i64 (y : Int)]) (by simp [results, Tryz.results70, go_sem, r0, r1]) rfl ⟨x, y, rfl, Z.out.trans ON.out, by have := R1.out; have := HSL.out; omega, by have := R2.out; have := HN.out; omega, BF.out⟩

end Go.Proofs.YtalejolehccclaaGreatDoor

/- The walk of approx.Minimal, at G3 and no error. -/
namespace Go.Proofs.YtalejolehccclaaGreatDoor
open Go.RowKit
set_option linter.unusedVariables false

theorem amin1_any (s : S) (b : Nat) (x : S) (w : World) (hc : w.cell? ⟨b, 0, none⟩ = some (enc s)) :
  Calls Tryz.prog 68 (#[enc x] ++ #[.pointer (some ⟨b, 0, none⟩)]) w fun e w' => e = .returned (.bool (x &&& ~~~ s == 0#32)) /\ w = w' := by
 show Calls Tryz.prog 68 #[enc x, .pointer (some ⟨b, 0, none⟩)] w _
 unfold enc at hc ⊢
 go_enter Tryz.func68, Tryz.ntmps68
 go_wp2
 go_ret
 exact ⟨rfl, rfl⟩
theorem own_ne {w : World} {B1 B2 n1 n2 s1 s2 : Nat} {e1 e2 : TypeId} {v1 v2 : Value} {xs1 xs2 : List Value} (h1 : w.ownsRow B1 e1 s1 v1 n1 xs1) (h2 : w.ownsRow B2 e2 s2 v2 n2 xs2) (hne : e1 ≠ e2) : v1.ownBlock = none ∨ v1.ownBlock ≠ v2.ownBlock := by
 rcases h1.2 with ⟨rfl, -⟩ | ⟨g1, c1, cur1, rfl, -, hg1, -⟩
 ·exact .inl rfl
 ·right
  rcases h2.2 with ⟨rfl, -⟩ | ⟨g2, c2, cur2, rfl, -, hg2, -⟩
  ·intro e; cases e
  ·intro e
   have e' : g1 = g2 := Option.some.inj e
   subst e'
   rw [hg1] at hg2
   injection hg2 with h; injection h with _ h; exact hne h
def projL (j : Nat) (L : List F) : List S := (L.filter fun f => f.2 == bit j).map (·.1)
def minK (i a j : Nat) : Nat := if j < a then i + 1 else i
structure MinI (Q : Nat -> S -> Bool) (ys : List S) (n i a : Nat) (gs : List GpS) (L : List F) : Prop where
 len : gs.length = n
 at_ : ∀ j, j < n -> ∃ v, gs[j]? = some (v, selL (Q j) (ys.take (minK i a j)))
 proj : ∀ j, j < n -> projL j L = selL (Q j) (ys.take (minK i a j))
section
variable {Q : Nat -> S -> Bool} {ys : List S} {n i a : Nat} {gs : List GpS} {L : List F}
theorem MinI.start (Q : Nat -> S -> Bool) (ys : List S) (n : Nat) : MinI Q ys n 0 0 (List.replicate n (((.slice none 0 0), []) : GpS)) [] :=
 ⟨by simp, fun j hj => ⟨.slice none 0 0, by unfold minK; simp [hj, selL]⟩, fun j hj => by unfold minK projL; simp [selL]⟩
theorem MinI.next (h : MinI Q ys n i n gs L) : MinI Q ys n (i + 1) 0 gs L := by
 have e : ∀ j, j < n -> minK (i + 1) 0 j = minK i n j := fun j hj => by unfold minK; rw [if_pos hj, if_neg (by omega)]
 exact ⟨h.len, fun j hj => by rw [e j hj]; exact h.at_ j hj, fun j hj => by rw [e j hj]; exact h.proj j hj⟩
theorem minK_ne {j : Nat} (h : j ≠ a) : minK i (a + 1) j = minK i a j := by
 unfold minK
 by_cases h1 : j < a
 ·rw [if_pos (by omega), if_pos h1]
 ·rw [if_neg (by omega), if_neg h1]
theorem minK_eq : minK i (a + 1) a = i + 1 /\ minK i a a = i := by unfold minK; rw [if_pos (by omega), if_neg (by omega)]; exact ⟨rfl, rfl⟩
theorem MinI.skip (h : MinI Q ys n i a gs L) {X : S} (hX : ys[i]? = some X) (hs : selStep (Q a) (selL (Q a) (ys.take i)) X = selL (Q a) (ys.take i)) : MinI Q ys n i (a + 1) gs L := by
 have key : ∀ j, selL (Q j) (ys.take (minK i (a + 1) j)) = selL (Q j) (ys.take (minK i a j)) := by
  intro j
  by_cases e : j = a
  ·subst e; rw [minK_eq.1, minK_eq.2, selL_next hX, hs]
  ·rw [minK_ne e]
 exact ⟨h.len, fun j hj => by rw [key]; exact h.at_ j hj, fun j hj => by rw [key]; exact h.proj j hj⟩
theorem MinI.take (h : MinI Q ys n i a gs L) {X : S} {out : List S} (v' : Value) (hX : ys[i]? = some X) (ho : selL (Q a) (ys.take i) = out) (hs : selStep (Q a) out X = out ++ [X]) (ha : a < n) (hn : n <= 32) : MinI Q ys n i (a + 1) (gs.set a (v', out ++ [X])) (L ++ [(X, bit a)]) := by
 have ka : selL (Q a) (ys.take (minK i (a + 1) a)) = out ++ [X] := by rw [minK_eq.1, selL_next hX, ho, hs]
 refine ⟨by rw [List.length_set]; exact h.len, fun j hj => ?_, fun j hj => ?_⟩
 ·by_cases e : j = a
  ·subst e
   refine ⟨v', ?_⟩
   rw [List.getElem?_set_self (by rw [h.len]; exact hj), ka]
  ·rw [List.getElem?_set_ne (Ne.symm e), minK_ne e]
   exact h.at_ j hj
 ·have hp : projL j (L ++ [(X, bit a)]) = projL j L ++ if bit a = bit j then [X] else [] := by
   unfold projL
   rw [List.filter_append, List.map_append]
   by_cases e : bit a = bit j
   ·rw [if_pos e]; simp [e]
   ·rw [if_neg e]; simp [e]
  rw [hp, h.proj j hj]
  by_cases e : j = a
  ·subst e
   rw [if_pos rfl, ka, minK_eq.2, ho]
  ·rw [if_neg (fun h => e (bit_inj (by omega) h).symm), List.append_nil, minK_ne e]
theorem MinI.small (h : MinI Q ys n i a gs L) {g : GpS} (hg : g ∈ gs) (hy : ys.length <= 64) : g.2.length <= 64 := by
 obtain ⟨j, hj⟩ := List.mem_iff_getElem?.1 hg
 obtain ⟨v, hv⟩ := h.at_ j (by rw [<- h.len]; exact (List.getElem?_eq_some_iff.1 hj).1)
 rw [hj] at hv
 rw [Option.some.inj hv]
 refine Nat.le_trans (selL_length _ _) ?_
 rw [List.length_take]; omega
end
structure MinW (w : World) (o M n : Nat) (u : Value) (gs : List GpS) (L : List F) : Prop where
 own : OwnGs w o M 38 58 (.slice (some ⟨o, 0, none⟩) n n) gs
 out : w.ownsRow M 80 2 u L.length (L.flatMap cF)
theorem MinW.below {w w' : World} {o M n : Nat} {u : Value} {gs : List GpS} {L : List F} (h : MinW w o M n u gs L) (hb : Below w.heap.size w w') : MinW w' o M n u gs L := ⟨h.own.below hb, own_below h.out hb⟩
theorem undSetsM : Tryz.prog.underlying 125 = some (.slice 38) := by kernel_rfl
theorem infoSetsM : (Tryz.prog.info? 38).map (fun i => (i.zero, i.size, i.bytes)) = some (some (.slice none 0 0), 1, 24) := by kernel_rfl
theorem sgn_zero {n : Nat} (h : n = 0) : sgnN n = 0 := if_pos h
theorem sgn_one {n : Nat} (h : n ≠ 0) : sgnN n = 1 := if_neg h
def minQA (rs : List Row3) (j : Nat) (s : S) : Bool := !s.getLsbD j && detB rs j s

set_option maxHeartbeats 12800000 in
set_option maxRecDepth 100000 in
theorem apmin_any (t : T3) (av rv : Value) (w : World) (ht : RdT w av rv t) (hT : Tab w) (hE : tabE2 t = 0) (hok : okT t) (h6 : t.2.1.length <= 6) :
  Calls Tryz.prog 26 #[.agg #[.string t.1, av, rv], .int .i64 3, .agg #[.int .i64 0, .int .i64 1]] w fun e w' => ∃ (v' : Value) (L : List F) (ys : List S), e = .returned (.tuple #[v', .int .i64 0]) /\ RdF w' v' L /\ IsOrd ys (fun s => sub s (fullN t.2.1.length)) /\ (∀ j, j < t.2.1.length -> projL j L = selL (minQA t.2.2 j) ys) /\ Below w.heap.size w w' := by
 have BB := hid (fun (W : World) h => boxTF w (.string t.1) av rv (.int .i64 0) (.int .i64 1) 32 75 W h)
 have hb00 := below_alloc w (.cells #[.string t.1, av, rv] 32)
 have hb01 := below_alloc (w.alloc (.cells #[.string t.1, av, rv] 32)) (.cells #[.int .i64 0, .int .i64 1] 75)
 have hb0 := hb00.trans (hb01.mono hb00.size)
 obtain ⟨w0, hw0⟩ : ∃ w0 : World, (w.alloc (.cells #[.string t.1, av, rv] 32)).alloc (.cells #[.int .i64 0, .int .i64 1] 75) = w0 := ⟨_, rfl⟩
 rw [hw0] at hb0 BB
 have B0 := hid hb0
 have W0 := hid hw0
 have T0 := hid (ht.below hb0)
 have HT0 := hid (hT.below hb0)
 have KN := hid (aknown_any t av rv w0 T0.out hE)
 have ME := hid (fun (s : S) (j : Nat) (hs : sub s (fullN t.2.1.length)) (hj : j < t.2.1.length) (W : World) (h : Below w0.heap.size w0 W) => ameas_any t av rv s j W (T0.out.below h) (HT0.out.below h) hE hok hs hj)
 obtain ⟨nm, ats, rs⟩ := t
 obtain ⟨ro, rcap, hvr, -⟩ := RdR.split T0.out.2
 obtain ⟨ao, acap, hva, -⟩ := T0.out.1.split
 simp only at hva hvr
 subst hva hvr
 replace h6 : ats.length <= 6 := h6
 show Calls _ _ _ _ fun e w' => ∃ (v' : Value) (L : List F) (ys : List S), e = .returned (.tuple #[v', .int .i64 0]) /\ RdF w' v' L /\ IsOrd ys (fun s => sub s (fullN ats.length)) /\ (∀ j, j < ats.length -> projL j L = selL (minQA rs j) ys) /\ Below w.heap.size w w'
 replace KN := hid (show Calls Tryz.prog 63 #[.agg #[.string nm, .slice ao ats.length acap, .slice ro rs.length rcap], .slice none 0 0] w0 fun e w' => e = .returned (.int .i64 0) /\ Below w0.heap.size w0 w' from KN.out)
 replace ME := hid (fun (s : S) (j : Nat) (hs : sub s (fullN ats.length)) (hj : j < ats.length) (W : World) (h : Below w0.heap.size w0 W) => show Calls Tryz.prog 70 #[.agg #[.string nm, .slice ao ats.length acap, .slice ro rs.length rcap], .agg #[.int .u32 (iv s), .int .u32 (iv (bit j))], .int .i64 3] W fun e w' => ∃ num den : Nat, e = .returned (.agg #[.int .i64 (num : Int), .int .i64 (den : Int)]) /\ (num = 0 ↔ detB rs j s = true) /\ num < 9223372036854775808 /\ den < 9223372036854775808 /\ Below W.heap.size W w' from ME.out s j hs hj W h)
 replace W0 : Hid ((w.alloc (.cells #[.string nm, .slice ao ats.length acap, .slice ro rs.length rcap] 32)).alloc (.cells #[.int .i64 0, .int .i64 1] 75) = w0) := hid W0.out
 have QD := hid (show ∀ j s, minQA rs j s = (!s.getLsbD j && detB rs j s) from fun _ _ => rfl)
 generalize minQA rs = Q at *
 generalize detB rs = DT at *
 obtain ⟨m, hm⟩ : ∃ m, ats.length = m := ⟨_, rfl⟩
 obtain ⟨nr, hnr⟩ : ∃ nr, rs.length = nr := ⟨_, rfl⟩
 rw [hm] at KN ME BB W0 h6 ⊢
 rw [hnr] at KN ME BB W0 ⊢
 have SB := hid (fun W => asubsets_any (1#32 <<< m - 1#32) W)
 have SF := hid (shl_full (show m < 32 by omega))
 have PF := hid (pop_full12 (show m <= 12 by omega))
 simp only [enc_eq] at SB
 have H6 := hid h6
 have hm6 : m <= 6 := h6
 have m0 : (0 : Int) <= (m : Int) := by omega
 have m6 : (m : Int) <= 6 := by omega
 have d8 : decide ((m : Int) > 8) = false := by rw [decide_eq_false_iff_not]; omega
 have d8' : decide ((8 : Int) < (m : Int)) = false := by rw [decide_eq_false_iff_not]; omega
 have MS := hid (fun W => ameasures_any W)
 have VL := hid (fun W => rvalid_any W)
 have CZ := hid (fun (n d : Nat) (h : n = 0) (hd : d < 9223372036854775808) (W : World) => show Calls Tryz.prog 69 #[.agg #[.int .i64 (n : Int), .int .i64 (d : Int)], .agg #[.int .i64 0, .int .i64 1]] W fun e w' => e = .returned (.int .i64 0) /\ Below W.heap.size W w' from by
  have h' := rcmp_any n d (by omega) hd W
  rwa [sgn_zero h] at h')
 have CP := hid (fun (n d : Nat) (h : n ≠ 0) (hn : n < 9223372036854775808) (hd : d < 9223372036854775808) (W : World) => show Calls Tryz.prog 69 #[.agg #[.int .i64 (n : Int), .int .i64 (d : Int)], .agg #[.int .i64 0, .int .i64 1]] W fun e w' => e = .returned (.int .i64 1) /\ Below W.heap.size W w' from by
  have h' := rcmp_any n d hn hd W
  rwa [sgn_one h] at h')
 have CF := hid (fun (b : Nat) (s : S) (out : List S) (u : Value) (W : World) (hu : RdE enc W u out) (hc : W.cell? ⟨b, 0, none⟩ = some (enc s)) => containsFunc_any 68 #[.pointer (some ⟨b, 0, none⟩)] (fun y => y &&& ~~~ s == 0#32) out u W hu
  (enters _ _ _ Tryz.func68 (by kernel_rfl) rfl) (fun y => amin1_any s b y W hc))
 obtain ⟨i0, hi, hz0, hz1, hz2⟩ := info_parts infoSetsM
 have I0 := hid hi
 have I1 := hid hz0
 have I2 := hid hz1
 have I3 := hid (show i0.bytes * m <= 281474976710656 by rw [hz2]; omega)
 obtain ⟨⟨t00, t01, t02⟩, ⟨f00, f01⟩⟩ := BB.out _ (Below.refl _ _)
 have hsz0 := B0.out.size
 clear ht hT hE hok h6 hb00 hb01 hb0 hw0 hm hnr hi hz0 hz1 hz2 T0
 go_enter Tryz.func26, Tryz.ntmps26
 go_upto_region 1 with fail
 rw [W0.out]
 go_wp2_with fail
 refine KN.out.mono ?_
 rintro e w1 ⟨rfl, hb1⟩
 have D1 := hid hb1
 obtain ⟨⟨t10, t11, t12⟩, ⟨f10, f11⟩⟩ := BB.out _ hb1
 clear hb1 t00 t01 t02 f00 f01 KN
 go_wp2_with fail
 refine (MS.out _).mono ?_
 rintro e w' ⟨rfl, rfl⟩
 go_wp2_with fail
 refine (VL.out _).mono ?_
 rintro e w2 ⟨rfl, hb2⟩
 have D2 := hid (D1.out.trans (hb2.mono D1.out.size))
 clear hb2 t10 t11 t12 f10 f11
 go_wp2_with (at_make; refine wpList_make_full _ rfl _ _ 125 rfl w2.heap.size 38 i0 (.slice none 0 0) 1 undSetsM I0.out I1.out I2.out _ _ _ _ m rfl rfl (by simp) (by simp) I3.out (by have := H6.out; unfold maxLen; omega) (Nat.le_refl _) ?_)
 intro w3 hown hgrow
 have hb3 : Below w2.heap.size w2 w3 := ⟨hgrow.os, hgrow.tape, hgrow.output, hgrow.size, fun k hk => hgrow.block k hk (fun e => by cases e)⟩
 have D3 := hid (D2.out.trans (hb3.mono D2.out.size))
 have HO2 := hid (show w0.heap.size <= w2.heap.size from D2.out.size)
 obtain ⟨o, ho⟩ : ∃ o, w2.heap.size = o := ⟨_, rfl⟩
 have O3 := hid (show w3.ownsRow o 38 1 (.slice (some ⟨o, 0, none⟩) m m) m (List.replicate m (.slice none 0 0)) by
  rw [<- ho]
  first | exact hown | simpa [toList_madeCells_one, Value.cells] using hown)
 rw [ho] at HO2 ⊢
 clear hown hgrow hb3 ho
 go_wp2_with fail
 refine (SB.out _).mono ?_
 rintro e w4 ⟨v4, ys, rfl, hown4, hsp, hyl, hb4⟩
 have HS := hid (hsp.2 (by rw [SF.out]; exact PF.out))
 rw [SF.out] at HS
 have YL := hid (show ys.length <= 64 by
  have h1 : ys.length <= 2 ^ m := ord_bound HS.out.1 fun s hs => full_pow (by omega) ((HS.out.2 s).1 hs)
  have h2 : 2 ^ m <= 2 ^ 6 := Nat.pow_le_pow_right (by decide) hm6
  omega)
 have RY := hid (RdE.of_owns hown4 (by have := YL.out; omega))
 have HOL := hid (show o < w3.heap.size from (O3.out.lt o rfl).2)
 have FY := hid (far_own hown4 HOL.out)
 obtain ⟨yo, ycap, rfl, -⟩ := RY.out.split
 have D4 := hid (D3.out.trans (hb4.mono D3.out.size))
 have O4 := hid (own_below O3.out hb4)
 have HO4 := hid (show o < w4.heap.size by have := HOL.out; have := hb4.size; omega)
 have y64 : (ys.length : Int) <= 64 := by have := YL.out; omega
 have FCY := hid (fun (W : World) (h : w4.grownBy W (some o)) => show RdE enc W (.slice yo ys.length ycap) ys from RdE.grown RY.out h FY.out)
 have BW := hid (fun (W : World) (h : w4.grownBy W (some o)) => show Below w0.heap.size w0 W from D4.out.trans (grow_kept h (Nat.le_trans HO2.out (Nat.le_refl _)) D4.out.size))
 clear hown4 hsp hyl hb4 SB O3 RY FY
 go_wp2_with fail
 go_loopw [11, 41] (fun u idx wr => ∃ (i : Nat) (gs : List GpS) (L : List F), i <= ys.length /\ idx = .int .i64 i /\ MinW wr o w4.heap.size m u gs L /\ L.length <= 8 * i /\ Hid (MinI Q ys m i 0 gs L) /\ w4.grownBy wr (some o)) (fun _ idx _ => ys.length - (intOf idx).toNat)
 case atStart => exact ⟨0, _, [], Nat.zero_le _, rfl, ⟨OwnGs.made O4.out, World.ownsRow_nil _ _ _ _⟩, Nat.zero_le _, hid (MinI.start Q ys m), World.grownBy.refl _ _⟩
 case round =>
  obtain ⟨wo, rfl⟩ : ∃ wo : World, wo = wr := ⟨_, rfl⟩
  obtain ⟨i, gs0, L0, hi, rfl, hmw, hLl, HI, hgg⟩ := hrel
  have i0 : (0 : Int) <= (i : Int) := by omega
  by_cases hlt : i < ys.length
  ·obtain ⟨X, hX⟩ := get_some hlt
   have hltO : (i : Int) < (ys.length : Int) := by omega
   have HXS := hid ((HS.out.2 X).1 (List.mem_of_getElem? hX))
   have HX := hid hX
   obtain ⟨ao2, acap2, he, -, hc2⟩ := (FCY.out wo hgg).split
   simp only [Value.slice.injEq] at he
   obtain ⟨rfl, -, rfl⟩ := he
   obtain ⟨fb, foff, rfl, hd⟩ := hc2 i X hX
   have e0 := hd wo (Below.refl _ _)
   unfold enc at e0
   have BX := hid (below_alloc wo (.cells #[.int .u32 (iv X)] 58))
   have W4S := hid (show w4.heap.size <= wo.heap.size from hgg.size)
   have MW1 := hid (hmw.below BX.out)
   have GG1 := hid (grow_trans hgg (grow_below (some o) BX.out))
   have CX1 := hid (show (wo.alloc (.cells #[.int .u32 (iv X)] 58)).cell? ⟨wo.heap.size, 0, none⟩ = some (.int .u32 (iv X)) from cell_new (w := wo))
   have NB1 := hid (show ∀ g ∈ gs0, g.1.ownBlock ≠ some wo.heap.size from fun g hg e => by have := ((hmw.own.inner g hg).lt _ e).2; omega)
   have NU1 := hid (show u11.ownBlock ≠ some wo.heap.size from fun e => by have := (hmw.out.lt _ e).2; omega)
   have LL0 := hid hLl
   have HLT := hid hlt
   have I64 := hid (show i <= 64 by have := YL.out; omega)
   obtain ⟨bx, hbx⟩ : ∃ bx, wo.heap.size = bx := ⟨_, rfl⟩
   have SBX := hid (show bx < (wo.alloc (.cells #[.int .u32 (iv X)] 58)).heap.size by rw [<- hbx]; simp)
   have OBX := hid (show o < bx by have := HO4.out; have := W4S.out; omega)
   have HBX := hid hbx
   rw [hbx] at CX1 NB1 NU1
   clear hX hd hc2 hmw hgg hLl hlt hbx
   go_wp2_with fail
   rw [HBX.out]
   go_loopw [11, 46] (fun u idx wr => ∃ (a : Nat) (gs : List GpS) (L : List F), a <= m /\ idx = .int .i64 a /\ MinW wr o w4.heap.size m u gs L /\ L.length <= 8 * i + a /\ Hid (MinI Q ys m i a gs L) /\ w4.grownBy wr (some o) /\ Hid (wr.cell? ⟨bx, 0, none⟩ = some (.int .u32 (iv X)) /\ (∀ g ∈ gs, g.1.ownBlock ≠ some bx) /\ u.ownBlock ≠ some bx /\ bx < wr.heap.size)) (fun _ idx _ => m - (intOf idx).toNat)
   case atStart => exact ⟨0, gs0, L0, Nat.zero_le _, rfl, MW1.out, LL0.out, HI, GG1.out, hid ⟨CX1.out, NB1.out, NU1.out, SBX.out⟩⟩
   case round =>
    obtain ⟨a, gs, L, ha, rfl, hmw, hLl, HII, hgg, HB⟩ := hrel
    have a0 : (0 : Int) <= (a : Int) := by omega
    have a32 : (a : Int) < 32 := by omega
    by_cases hlt : a < m
    ·have hltI : (a : Int) < (m : Int) := by omega
     obtain ⟨v0, hv0⟩ := HII.out.at_ a hlt
     rw [minK_eq.2] at hv0
     obtain ⟨out, hout⟩ : ∃ out, selL (Q a) (ys.take i) = out := ⟨_, rfl⟩
     rw [hout] at hv0
     have HV := hid hv0
     have HOUT := hid hout
     have MEMV := hid (List.mem_of_getElem? hv0)
     have OUTS := hid (show out.length <= 64 from HII.out.small MEMV.out YL.out)
     have GI := hid (show wr.ownsRow w4.heap.size 58 1 v0 out.length (out.map enc) from hmw.own.inner _ MEMV.out)
     obtain ⟨go, gcap, hge⟩ := own_slicePI GI.out
     subst hge
     have OUO := hid (show wr.ownsRow o 38 1 (.slice (some ⟨o, 0, none⟩) m m) m (gs.map Prod.fst) from by have h := hmw.own.outer; rw [HII.out.len] at h; exact h)
     have gcell : wr.cell? ⟨o, a, none⟩ = some (.slice go out.length gcap) := by rw [OUO.out.cellAt a (by omega), List.getElem?_map, hv0]; rfl
     have x0 := HB.out.1
     have CF1 := hid (CF.out bx X out (.slice go out.length gcap) wr (RdE.of_owns GI.out (by have := OUTS.out; omega)) x0)
     have SS := hid (show selStep (Q a) out X = if Q a X && !out.any (fun y => y &&& ~~~ X == 0#32) then out ++ [X] else out from rfl)
     have QX := hid (QD.out a X)
     have SKIP := hid (fun (h : selStep (Q a) out X = out) => HII.out.skip HX.out (by rw [HOUT.out]; exact h))
     have TAKE := hid (fun (v' : Value) (h : selStep (Q a) out X = out ++ [X]) => HII.out.take v' HX.out HOUT.out h hlt (by have := H6.out; omega))
     have MEA := hid (fun (W : World) (h : Below w0.heap.size w0 W) => show Calls Tryz.prog 70 #[.agg #[.string nm, .slice ao m acap, .slice ro nr rcap], .agg #[.int .u32 (iv X), .int .u32 (iv (1#32 <<< a))], .int .i64 3] W fun e w' => ∃ num den : Nat, e = .returned (.agg #[.int .i64 (num : Int), .int .i64 (den : Int)]) /\ (num = 0 ↔ DT a X = true) /\ num < 9223372036854775808 /\ den < 9223372036854775808 /\ Below W.heap.size W w' from ME.out X a HXS.out hlt W h)
     have MW := hid hmw
     have GG := hid hgg
     have HLT2 := hid hlt
     have HLL := hid hLl
     have GL64 := hid (show (MinI Q ys m i a gs L) from HII.out)
     obtain ⟨OB, hOB⟩ : ∃ OB, out.any (fun y => y &&& ~~~ X == 0#32) = OB := ⟨_, rfl⟩
     rw [hOB] at CF1 SS
     obtain ⟨D, hD⟩ : ∃ D, DT a X = D := ⟨_, rfl⟩
     rw [hD] at QX MEA
     clear hv0 hout hmw hgg hLl hlt hOB hD
     cases hq : X.getLsbD a with
     | true =>
      have ST := hid (show selStep (Q a) out X = out by rw [SS.out, QX.out, hq]; rfl)
      have hb1 : (iv (X >>> a &&& 1#32) == 1) = true := by rw [bit_test]; exact hq
      have hb2 := beq_iff_eq.1 hb1
      clear hq hb1
      go_wp2_with fail
      go_roundw
      case rel => exact ⟨a + 1, gs, L, by have := HLT2.out; omega, by go_num, MW.out, by have := HLL.out; omega, hid (SKIP.out ST.out), GG.out, HB⟩
      case measure => have := HLT2.out; simp [intOf]; omega
     | false =>
      have hb1 : (iv (X >>> a &&& 1#32) == 1) = false := by rw [bit_test]; exact hq
      cases OB with
      | true =>
       have ST := hid (show selStep (Q a) out X = out by rw [SS.out]; simp)
       clear hq
       go_wp2_with fail
       refine CF1.out.mono ?_
       rintro e w5 ⟨rfl, rfl⟩
       go_wp2_with fail
       go_roundw
       case rel => exact ⟨a + 1, gs, L, by have := HLT2.out; omega, by go_num, MW.out, by have := HLL.out; omega, hid (SKIP.out ST.out), GG.out, HB⟩
       case measure => have := HLT2.out; simp [intOf]; omega
      | false =>
       have HQ := hid hq
       clear hq
       go_wp2_with fail
       refine CF1.out.mono ?_
       rintro e w5 ⟨rfl, rfl⟩
       have SZ := hid HB.out.2.2.2
       have xa0 : (wr.alloc (.cells #[.int .u32 0, .int .u32 0] 80)).cell? ⟨bx, 0, none⟩ = some (.int .u32 (iv X)) := ((below_alloc wr (.cells #[.int .u32 0, .int .u32 0] 80)).cell (p := ⟨bx, 0, none⟩) SZ.out).trans x0
       go_wp2_with fail
       go_region
       obtain ⟨wq, hwq⟩ : ∃ wq : World, (wr.alloc (.cells #[.int .u32 (iv X), .int .u32 (iv (1#32 <<< a))] 80)).drew = wq := ⟨_, rfl⟩
       have ba := (below_alloc wr (.cells #[.int .u32 (iv X), .int .u32 (iv (1#32 <<< a))] 80))
       have BQ := hid (show Below wr.heap.size wr wq by rw [<- hwq]; exact ba.drew)
       have BQW := hid (show Below w0.heap.size w0 wq from (BW.out wr GG.out).trans (BQ.out.mono (BW.out wr GG.out).size))
       have FDC := hid (fun (W : World) (h : Below wq.heap.size wq W) => cells2 (w := wr) (a := .int .u32 (iv X)) (b := .int .u32 (iv (1#32 <<< a))) (t := 80) W ((Below.refl _ _).drew.trans (show Below (wr.alloc (.cells #[.int .u32 (iv X), .int .u32 (iv (1#32 <<< a))] 80)).heap.size (wr.alloc (.cells #[.int .u32 (iv X), .int .u32 (iv (1#32 <<< a))] 80)).drew W by rw [hwq]; exact h.mono (by rw [<- hwq]; simp))))
       have HSK := hid (fun (W : World) (h : Below wq.heap.size wq W) => show Below wq.heap.size wq W /\ (W.cell? ⟨w.heap.size, 0, none⟩ = some (.string nm) /\ W.cell? ⟨w.heap.size, 1, none⟩ = some (.slice ao m acap) /\ W.cell? ⟨w.heap.size, 2, none⟩ = some (.slice ro nr rcap)) /\ (W.cell? ⟨w.heap.size + 1, 0, none⟩ = some (.int .i64 0) /\ W.cell? ⟨w.heap.size + 1, 1, none⟩ = some (.int .i64 1)) /\ (W.cell? ⟨wr.heap.size, 0, none⟩ = some (.int .u32 (iv X)) /\ W.cell? ⟨wr.heap.size, 1, none⟩ = some (.int .u32 (iv (1#32 <<< a)))) from ⟨h, (BB.out W (BQW.out.trans (h.mono BQW.out.size))).1, (BB.out W (BQW.out.trans (h.mono BQW.out.size))).2, FDC.out W h⟩)
       rw [hwq]
       clear ba hwq xa0 e0 gcell x0 hb1
       cases D with
       | false =>
        have ST := hid (show selStep (Q a) out X = out by rw [SS.out, QX.out, HQ.out]; rfl)
        go_wp2_with fail
        go_region_held3 (fun W => Below wq.heap.size wq W /\ (W.cell? ⟨w.heap.size, 0, none⟩ = some (.string nm) /\ W.cell? ⟨w.heap.size, 1, none⟩ = some (.slice ao m acap) /\ W.cell? ⟨w.heap.size, 2, none⟩ = some (.slice ro nr rcap)) /\ (W.cell? ⟨w.heap.size + 1, 0, none⟩ = some (.int .i64 0) /\ W.cell? ⟨w.heap.size + 1, 1, none⟩ = some (.int .i64 1)) /\ (W.cell? ⟨wr.heap.size, 0, none⟩ = some (.int .u32 (iv X)) /\ W.cell? ⟨wr.heap.size, 1, none⟩ = some (.int .u32 (iv (1#32 <<< a)))))
         (first | exact HSK.out _ (Below.refl _ _).drew | exact HSK.out _ (by assumption))
         (first
          | (go_at_call 70; have hS := And.left ‹Below wq.heap.size wq _ /\ _ /\ _›; refine (MEA.out _ (BQW.out.trans (hS.mono BQW.out.size))).mono ?_; rintro e wa ⟨num, den, rfl, hiff, hnn, hdd, hba⟩; have hLa := hS.trans (hba.mono hS.size); clear hba hS)
          | (go_at_call 69; have hS := And.left ‹Below wq.heap.size wq _ /\ _ /\ _›; refine (CP.out num den (fun h => by have h2 := hiff.1 h; cases h2) hnn hdd _).mono ?_; rintro e wb ⟨rfl, hbb⟩; have hLb := hS.trans (hbb.mono hS.size); clear hbb hS))
        all_goals
         have BZ := hid (BQ.out.trans (hLb.mono BQ.out.size))
         have MWZ := hid (MW.out.below BZ.out)
         have GGZ := hid (grow_trans GG.out (grow_below (some o) BZ.out))
         have HBZ := hid (show wb.cell? ⟨bx, 0, none⟩ = some (.int .u32 (iv X)) /\ (∀ g ∈ gs, g.1.ownBlock ≠ some bx) /\ u11.ownBlock ≠ some bx /\ bx < wb.heap.size from ⟨(BZ.out.cell (p := ⟨bx, 0, none⟩) SZ.out).trans HB.out.1, HB.out.2.1, HB.out.2.2.1, Nat.lt_of_lt_of_le SZ.out BZ.out.size⟩)
         clear hLa hLb
         go_wp2_with fail
         go_roundw
         case rel => exact ⟨a + 1, gs, L, by have := HLT2.out; omega, by go_num, MWZ.out, by have := HLL.out; omega, hid (SKIP.out ST.out), GGZ.out, HBZ⟩
         case measure => have := HLT2.out; simp [intOf]; omega
       | true =>
        have ST := hid (show selStep (Q a) out X = out ++ [X] by rw [SS.out, QX.out, HQ.out]; rfl)
        go_wp2_with fail
        go_region_held3 (fun W => Below wq.heap.size wq W /\ (W.cell? ⟨w.heap.size, 0, none⟩ = some (.string nm) /\ W.cell? ⟨w.heap.size, 1, none⟩ = some (.slice ao m acap) /\ W.cell? ⟨w.heap.size, 2, none⟩ = some (.slice ro nr rcap)) /\ (W.cell? ⟨w.heap.size + 1, 0, none⟩ = some (.int .i64 0) /\ W.cell? ⟨w.heap.size + 1, 1, none⟩ = some (.int .i64 1)) /\ (W.cell? ⟨wr.heap.size, 0, none⟩ = some (.int .u32 (iv X)) /\ W.cell? ⟨wr.heap.size, 1, none⟩ = some (.int .u32 (iv (1#32 <<< a)))))
         (first | exact HSK.out _ (Below.refl _ _).drew | exact HSK.out _ (by assumption))
         (first
          | (go_at_call 70; have hS := And.left ‹Below wq.heap.size wq _ /\ _ /\ _›; refine (MEA.out _ (BQW.out.trans (hS.mono BQW.out.size))).mono ?_; rintro e wa ⟨num, den, rfl, hiff, hnn, hdd, hba⟩; have hLa := hS.trans (hba.mono hS.size); clear hba hS)
          | (go_at_call 69; have hS := And.left ‹Below wq.heap.size wq _ /\ _ /\ _›; refine (CZ.out num den (by first | exact hiff.2 rfl | exact hiff.2 trivial) hdd _).mono ?_; rintro e wb ⟨rfl, hbb⟩; have hLb := hS.trans (hbb.mono hS.size); clear hbb hS))
        all_goals
         have BZ := hid (BQ.out.trans (hLb.mono BQ.out.size))
         have FDZ := hid (FDC.out wb hLb)
         clear hLa hLb
         have MWZ := hid (MW.out.below BZ.out)
         have GGZ := hid (grow_trans GG.out (grow_below (some o) BZ.out))
         have x0 : wb.cell? ⟨bx, 0, none⟩ = some (.int .u32 (iv X)) := (BZ.out.cell (p := ⟨bx, 0, none⟩) SZ.out).trans HB.out.1
         have SZB := hid (Nat.lt_of_lt_of_le SZ.out BZ.out.size)
         have WRB := hid (show wr.heap.size < wb.heap.size from World.block_lt_of_cell? _ _ FDZ.out.1)
         have OUZ := hid (own_below OUO.out BZ.out)
         have GIZ := hid (own_below GI.out BZ.out)
         have LTI := hid (fun (j : Nat) (e : (Value.slice go out.length gcap).ownBlock = some j) => GI.out.lt j e)
         have gcell : wb.cell? ⟨o, a, none⟩ = some (.slice go out.length gcap) := by rw [OUZ.out.cellAt a (by have := HLT2.out; omega), List.getElem?_map, HV.out]; rfl
         have HO1 := hid (OUZ.out.lt o rfl)
         have XB := hid (show Below wb.heap.size wb (wb.drew.alloc (.cells #[.int .u32 (iv X)] 58)) from (Below.refl _ _).drew.alloc (by simp) _)
         have GI2 := hid (own_below GIZ.out XB.out)
         have MW2 := hid (MWZ.out.below XB.out)
         have GG2 := hid (grow_trans GGZ.out (grow_below (some o) XB.out))
         have SZW := hid (show w4.heap.size <= (wb.drew.alloc (.cells #[.int .u32 (iv X)] 58)).heap.size from GG2.out.size)
         have CN := hid (show (wb.drew.alloc (.cells #[.int .u32 (iv X)] 58)).cell? ⟨wb.heap.size, 0, none⟩ = some (enc X) from cell_new (w := wb.drew))
         have HGNE := hid (show (Value.slice go out.length gcap).ownBlock ≠ some o from fun e => by
          rcases MWZ.out.own.away _ MEMV.out with h | h
          ·rw [show (Value.slice go out.length gcap).ownBlock = none from h] at e; cases e
          ·exact h e)
         have gcell2 : (wb.alloc (.cells #[.int .u32 (iv X)] 58)).cell? ⟨o, a, none⟩ = some (.slice go out.length gcap) := ((below_alloc wb (.cells #[.int .u32 (iv X)] 58)).cell (p := ⟨o, a, none⟩) HO1.out.2).trans gcell
         go_wp2_with fail
         go_region_law ((refine step_pushE (by rfl) _ _ 38 (by rfl) w4.heap.size 58 (.int .u32 0) 4 undSets infoSet rfl (by decide) enc (.slice go out.length gcap) out (by rfl) GI2.out ⟨wb.heap.size, 0, none⟩ X rfl (by rfl) CN.out (by have := OUTS.out; omega) SZW.out ?_; intro v8 w8 hown8 hg8 hv8; obtain ⟨ao8, n8, cap8, rfl⟩ := own_sliceN hown8; have ho8 := (own_below OUZ.out XB.out).kept hg8 (.inr (fun e => HGNE.out e.symm)); have hc8 := (ho8.cellAt a (by have := HLT2.out; omega)).trans (show (gs.map Prod.fst)[a]? = some (.slice go out.length gcap) by rw [List.getElem?_map, HV.out]; rfl); have hf8 : w8.frozen? ⟨o, a, none⟩ = false := ho8.frozenAt _; have OG9 := hid (OwnGs.add (x := X) MW2.out.own HV.out hown8 hg8 hv8 GL64.out.len.symm); have ST9 := hid (ho8.stored a (.slice ao8 n8 cap8)).2; have HG8 := hid hg8; have HV8 := hid hv8))
         all_goals
          have GG9 := hid (grow_trans (grow_app GG2.out HG8.out (fun j hj => (GI2.out.lt j hj).1)) ST9.out)
          have UO := hid (show u11.ownBlock ≠ some o from fun e => by
           rcases own_ne MW2.out.out MW2.out.own.outer (by decide) with h | h
           ·rw [h] at e; cases e
           ·exact h (e.trans rfl))
          have OUT8 := MW2.out.out.kept HG8.out (own_ne MW2.out.out GI2.out (by decide))
          have OUT9 := hid (ownsRow_setCell_other (a := ⟨o, a, none⟩) OUT8 UO.out (.slice ao8 n8 cap8))
          have OBXO := OBX.out
          have SZWR := SZ.out
          have FAR := hid (fun (b k : Nat) (v : Value) (hc : wb.cell? ⟨b, k, none⟩ = some v) (h1 : b ≠ o) (h2 : (Value.slice go out.length gcap).ownBlock ≠ some b) => show (w8.setCell ⟨o, a, none⟩ (.slice ao8 n8 cap8)).cell? ⟨b, k, none⟩ = some v from
           (World.cell?_setCell_other _ _ _ _ (by intro e; simp at e <;> omega)).trans ((HG8.out.cell_far ⟨b, k, none⟩ (Nat.lt_of_lt_of_le (World.block_lt_of_cell? _ _ hc) XB.out.size) (fun e => h2 e.symm)).trans ((XB.out.cell (p := ⟨b, k, none⟩) (World.block_lt_of_cell? _ _ hc)).trans hc)))
          have xx := FAR.out bx 0 _ x0 (by omega) (HB.out.2.1 _ MEMV.out)
          have ff0 := FAR.out wr.heap.size 0 _ FDZ.out.1 (by omega) (fun e => by have := (LTI.out _ e).2; omega)
          have ff1 := FAR.out wr.heap.size 1 _ FDZ.out.2 (by omega) (fun e => by have := (LTI.out _ e).2; omega)
          have S9 := hid (show wb.heap.size <= (w8.setCell ⟨o, a, none⟩ (.slice ao8 n8 cap8)).heap.size from Nat.le_trans XB.out.size (Nat.le_trans HG8.out.size ST9.out.size))
          have NB9 := hid (show ∀ g ∈ gs.set a (.slice ao8 n8 cap8, out ++ [X]), g.1.ownBlock ≠ some bx from fun g hg => by
           rcases List.mem_or_eq_of_mem_set hg with h | h
           ·exact HB.out.2.1 g h
           ·subst h
            rcases HV8.out with h | h
            ·intro e; exact HB.out.2.1 _ MEMV.out (h.symm.trans e)
            ·intro e; exact Nat.lt_irrefl _ (Nat.lt_of_lt_of_le (Nat.lt_of_lt_of_le SZB.out XB.out.size) (Nat.le_of_eq (Option.some.inj (h.symm.trans e)))))
          obtain ⟨w9, hw9⟩ : ∃ w9 : World, w8.setCell ⟨o, a, none⟩ (.slice ao8 n8 cap8) = w9 := ⟨_, rfl⟩
          rw [hw9] at OG9 GG9 OUT9 xx ff0 ff1 S9 ⊢
          have XX := hid xx
          have W4S9 := hid (show w4.heap.size <= w9.heap.size from GG9.out.size)
          have BA9 := hid (below_alloc w9 (.cells #[.int .u32 (iv X), .int .u32 (iv (1#32 <<< a))] 80))
          clear hown8 hg8 hv8 ho8 hc8 hf8 ST9 HG8 OUT8 xx gcell gcell2 x0 hw9 FAR
          go_wp2_with (at_builtin; refine wpList_pushB rfl _ _ 25 rfl w4.heap.size 80 (.agg #[.int .u32 0, .int .u32 0]) 2 8 undFDs infoFD rfl (by decide) (by decide) cF cF_length u11 L rfl (OUT9.out.alloc _) ⟨w9.heap.size, 0, none⟩ (X, 1#32 <<< a) (cF_one _) rfl (cells_newF _ _) (by have := HLL.out; have := I64.out; have := HLT2.out; have := H6.out; omega) (by have := W4S9.out; simp; omega) ?_)
          intro v10 w10 hown10 hg10 hl10
          have OWN10 := hid (show w10.ownsRow w4.heap.size 80 2 v10 (L ++ [(X, bit a)]).length ((L ++ [(X, bit a)]).flatMap cF) from by rw [List.length_append, List.flatMap_append, List.flatMap_singleton]; exact hown10)
          have OA := hid (OUT9.out.alloc (.cells #[.int .u32 (iv X), .int .u32 (iv (1#32 <<< a))] 80))
          have OGA := hid (OG9.out.below BA9.out)
          have OG10 := hid (OGA.out.kept hg10 (own_ne OGA.out.outer OA.out (by decide)) (fun g hm => own_ne (OGA.out.inner g hm) OA.out (by decide)))
          have GG10 := hid (grow_app (grow_trans GG9.out (grow_below (some o) BA9.out)) hg10 (fun j hj => (OUT9.out.lt j hj).1))
          have XX10 := hid (show w10.cell? ⟨bx, 0, none⟩ = some (.int .u32 (iv X)) from (hg10.cell_far ⟨bx, 0, none⟩ (Nat.lt_of_lt_of_le (World.block_lt_of_cell? _ _ XX.out) BA9.out.size) (fun e => HB.out.2.2.1 e.symm)).trans ((BA9.out.cell (p := ⟨bx, 0, none⟩) (World.block_lt_of_cell? _ _ XX.out)).trans XX.out))
          have NU10 := hid (show v10.ownBlock ≠ some bx from fun e => by
           rcases hl10 with h | h
           ·exact HB.out.2.2.1 (h.symm.trans e)
           ·have e2 := Option.some.inj (h.symm.trans e); have h3 : bx < w9.heap.size := World.block_lt_of_cell? _ _ XX.out; omega)
          have S10 := hid (show bx < w10.heap.size from World.block_lt_of_cell? _ _ XX10.out)
          clear hown10 hg10 hl10 ff0 ff1
          go_wp2_with fail
          go_roundw
          case rel => exact ⟨a + 1, _, _, by have := HLT2.out; omega, by go_num, ⟨OG10.out, OWN10.out⟩, by rw [List.length_append, List.length_singleton]; have := HLL.out; omega, hid (TAKE.out _ ST.out), GG10.out, hid ⟨XX10.out, NB9.out, NU10.out, S10.out⟩⟩
          case measure => have := HLT2.out; simp [intOf]; omega
    ·have HIE := hid (show MinI Q ys m (i + 1) 0 gs L from by
      have hae : a = m := by omega
      have h := HII.out
      rw [hae] at h
      exact h.next)
     have MW := hid hmw
     have GG := hid hgg
     have LL := hid (show L.length <= 8 * (i + 1) by omega)
     clear hmw hgg hLl
     go_wp2_with fail
     go_roundw
     case rel => exact ⟨i + 1, gs, L, by have := HLT.out; omega, by go_num, MW.out, LL.out, HIE, GG.out⟩
     case measure => have := HLT.out; simp [intOf]; omega
  ·have HIE := hid (show ∀ j, j < m -> projL j L0 = selL (Q j) ys from fun j hj => by
    have h := HI.out.proj j hj
    unfold minK at h
    rwa [if_neg (by omega), List.take_of_length_le (by omega)] at h)
   have RF := hid (RdC.of_owns cF_length hmw.out (by have := YL.out; omega))
   have BF := hid (B0.out.trans ((BW.out _ hgg).mono hsz0))
   clear hmw hgg hLl
   go_wp2_with fail
   go_ret2
   exact ⟨_, L0, ys, rfl, RF.out, HS.out, HIE.out, BF.out⟩

end Go.Proofs.YtalejolehccclaaGreatDoor

/- Plain laws: contexts of constants, left sides without error and transversals of differences are the minimal left sides. No program of its own. -/
namespace Go.Proofs.YtalejolehccclaaGreatDoor
open Go.RowKit
set_option linter.unusedVariables false

theorem sub_andl (a b : S) : sub (a &&& b) a := fun i hi h => by
 rw [BitVec.getLsbD_and, Bool.and_eq_true] at h
 exact h.1
theorem cmpOn_zero {xs ys : List V3} {l : List Nat} : cmpOn xs ys l = 0 ↔ ∀ b ∈ l, cmpA xs ys b = 0 := by
 constructor
 ·induction l with
  | nil => intro _ b hb; cases hb
  | cons c l ih =>
   intro h b hb
   unfold cmpOn at h
   by_cases hc : cmpA xs ys c = 0
   ·rw [if_pos hc] at h
    rcases List.mem_cons.1 hb with rfl | hb
    ·exact hc
    ·exact ih h b hb
   ·rw [if_neg hc] at h; exact absurd h hc
 ·exact cmpOn_all
theorem cmpA_zero {xs ys : List V3} {b : Nat} : cmpA xs ys b = 0 ↔ xs.getD b noV = ys.getD b noV := by
 unfold cmpA
 rw [<- beq_iff_eq (b := (0 : Int)), vcmp_zero, eqV_eq]
theorem sub_rows {m : Nat} (hm : m <= 32) {xs ys : List V3} {s : S} (hs : sub s (fullN m)) : sub s (rowsS xs ys m) ↔ ∀ b, b < m -> s.getLsbD b = true -> xs.getD b noV = ys.getD b noV := by
 constructor
 ·intro h b hb hsb
  have := h b (by omega) hsb
  rw [rowsS_get _ _ _ _ (by omega), Bool.and_eq_true] at this
  exact eqV_eq.1 this.2
 ·intro h b hb hsb
  have hbm := full_le hs hb hsb
  rw [rowsS_get _ _ _ _ hb, Bool.and_eq_true]
  exact ⟨by simp [hbm], eqV_eq.2 (h b hbm hsb)⟩
theorem det_vals {m : Nat} {rs : List Row3} (h : FineR m rs) {a : Nat} (ha : a < m) {s : S} (hs : sub s (fullN m)) :
  detB rs a s = true ↔ ∀ r ∈ rs, ∀ q ∈ rs, (∀ b, b < m -> s.getLsbD b = true -> r.2.2.getD b noV = q.2.2.getD b noV) -> r.2.2.getD a noV = q.2.2.getD a noV := by
 have hm := h.le
 rw [det_iff h ha hs]
 refine forall_congr' fun r => forall_congr' fun _ => forall_congr' fun q => forall_congr' fun _ => ?_
 rw [sub_rows hm hs, sub_rows hm (bit_full ha hm)]
 refine imp_congr Iff.rfl ⟨fun hk => hk a ha (by rw [bit_get _ _ (by omega)]; simp), fun hk b hb hbb => ?_⟩
 rw [bit_get _ _ (by omega)] at hbb
 have : b = a := by simpa using hbb
 subst this; exact hk
theorem prsT_prs : ∀ rs : List Row3, prsT rs = prs rs
 | [] => rfl
 | r :: rs => by unfold prsT prs; rw [prsT_prs rs]
theorem mem_ctxL {m : Nat} {X : S} {b : Nat} : b ∈ ctxL m X ↔ b < m /\ X.getLsbD b = true := by unfold ctxL; rw [List.mem_filter, List.mem_range]
theorem satC_det {m : Nat} {rs : List Row3} (h : FineR m rs) {a : Nat} (ha : a < m) {X : S} (hs : sub X (fullN m)) : satC m rs X a (-1) = detB rs a X := by
 have key : ∀ p : Row3 × Row3, badP (ctxL m X) a (-1) p = true ↔ (∀ b, b < m -> X.getLsbD b = true -> p.1.2.2.getD b noV = p.2.2.2.getD b noV) /\ p.1.2.2.getD a noV ≠ p.2.2.2.getD a noV := by
  intro p
  unfold badP badQ
  rw [if_pos (by decide), Bool.and_eq_true, beq_iff_eq, cmpOn_zero, bne_iff_ne, ne_eq, cmpA_zero]
  refine and_congr ⟨fun hk b hb hx => cmpA_zero.1 (hk b (mem_ctxL.2 ⟨hb, hx⟩)), fun hk b hb => cmpA_zero.2 (hk b (mem_ctxL.1 hb).1 (mem_ctxL.1 hb).2)⟩ Iff.rfl
 rw [Bool.eq_iff_iff, det_vals h ha hs]
 unfold satC
 rw [Option.isNone_iff_eq_none, List.find?_eq_none, prsT_prs]
 constructor
 ·intro hk r hr q hq hv
  obtain ⟨i, hi⟩ := List.mem_iff_getElem?.1 hr
  obtain ⟨j, hj⟩ := List.mem_iff_getElem?.1 hq
  rcases Nat.lt_trichotomy i j with hlt | e | hgt
  ·have := hk (r, q) (mem_prs.2 ⟨i, j, hlt, hi, hj⟩)
   rw [key] at this
   exact Classical.byContradiction fun hn => this ⟨hv, hn⟩
  ·subst e; rw [hi] at hj; rw [Option.some.inj hj]
  ·have := hk (q, r) (mem_prs.2 ⟨j, i, hgt, hj, hi⟩)
   rw [key] at this
   exact Classical.byContradiction fun hn => this ⟨fun b hb hx => (hv b hb hx).symm, fun e => hn e.symm⟩
 ·intro hk p hp
  obtain ⟨i, j, -, hi, hj⟩ := mem_prs.1 hp
  rw [key]
  rintro ⟨h1, h2⟩
  exact h2 (hk _ (List.mem_of_getElem? hi) _ (List.mem_of_getElem? hj) h1)
theorem det_mono {m : Nat} {rs : List Row3} (h : FineR m rs) {a : Nat} (ha : a < m) {s t : S} (hs : sub s (fullN m)) (ht : sub t (fullN m)) (hst : sub s t) (hd : detB rs a s = true) : detB rs a t = true := by
 rw [det_vals h ha hs] at hd
 rw [det_vals h ha ht]
 exact fun r hr q hq hv => hd r hr q hq fun b hb hx => hv b hb (hst b (by have := h.le; omega) hx)
theorem range_one {p : Nat -> Bool} {a : Nat} : ∀ m, (List.range m).filter (fun k => p k && decide (k = a)) = if a < m /\ p a = true then [a] else [] := by
 intro m
 induction m with
 | zero => simp
 | succ m ih =>
  rw [List.range_succ, List.filter_append, ih]
  by_cases e : m = a
  ·subst e
   rw [if_neg (by omega)]
   by_cases hp : p m = true
   ·rw [if_pos ⟨by omega, hp⟩]; simp [hp]
   ·rw [if_neg (fun h => hp h.2)]; simp [hp]
  ·have : (m :: []).filter (fun k => p k && decide (k = a)) = [] := by simp [e]
   rw [this, List.append_nil]
   by_cases hp : a < m /\ p a = true
   ·rw [if_pos hp, if_pos ⟨by omega, hp.2⟩]
   ·rw [if_neg hp, if_neg (fun h => hp ⟨by omega, h.2⟩)]
def ctxA (a : Int) (C : List C3S) : List S := (C.filter fun c => c.2.1 == a).map (·.1)
theorem ctxA_con {SM : C3S -> Bool} {X : S} {m a : Nat} (ha : a < m) : ctxA (a : Int) (conL SM X m) = if conB SM X a = true then [X] else [] := by
 unfold ctxA conL
 rw [List.filter_map, List.filter_filter]
 have e : (List.range m).filter (fun k => ((fun c : C3S => c.2.1 == (a : Int)) ∘ fun k : Nat => ((X, (k : Int), (-1 : Int)) : C3S)) k && conB SM X k) = (List.range m).filter (fun k => conB SM X k && decide (k = a)) := by
  apply List.filter_congr
  intro k _
  rw [Bool.and_comm]
  congr 1
  simp only [Function.comp_apply]
  rw [Bool.eq_iff_iff, beq_iff_eq, decide_eq_true_iff]
  omega
 rw [e, range_one]
 by_cases hc : conB SM X a = true
 ·rw [if_pos ⟨ha, hc⟩, if_pos hc]; rfl
 ·rw [if_neg (fun h => hc h.2), if_neg hc]; rfl
theorem ctxA_all {SM : C3S -> Bool} {m a : Nat} (ha : a < m) : ∀ ys : List S, ctxA (a : Int) (ys.flatMap fun X => conL SM X m) = ys.filter fun X => conB SM X a := by
 intro ys
 induction ys with
 | nil => rfl
 | cons y ys ih =>
  have : ctxA (a : Int) ((y :: ys).flatMap fun X => conL SM X m) = ctxA (a : Int) (conL SM y m) ++ ctxA (a : Int) (ys.flatMap fun X => conL SM X m) := by
   unfold ctxA; rw [List.flatMap_cons, List.filter_append, List.map_append]
  rw [this, ih, ctxA_con ha, List.filter_cons]
  split <;> rfl
theorem ctx_for {m a : Nat} {rs : List Row3} (h : FineR m rs) (ha : a < m) {ys : List S} (hy : IsOrd ys (fun s => sub s (fullN m))) : ctxA (a : Int) (ys.flatMap fun X => conL (SATm m rs) X m) = forL m rs a := by
 have h32 := h.le
 rw [ctxA_all ha]
 have SMd : ∀ X, sub X (fullN m) -> SATm m rs (X, (a : Int), -1) = detB rs a X := fun X hX => by
  unfold SATm
  simp only [Int.toNat_natCast]
  exact satC_det h ha hX
 refine IsOrd.uniq (p := fun X => X ∈ ys.filter fun X => conB (SATm m rs) X a) ⟨hy.1.sublist List.filter_sublist, fun s => Iff.rfl⟩ (forL_ord m rs a) fun X => ?_
 rw [<- (forL_ord m rs a).2 X, mem_forL (by omega), List.mem_filter, hy.2]
 unfold conB lesB
 simp only [Bool.and_eq_true, Bool.not_eq_true']
 constructor
 ·rintro ⟨h1, h2, h3, h4⟩
  rw [SMd X h1] at h3
  rw [leavesB_iff] at h4
  refine ⟨⟨h1, h2, h3⟩, fun t ht hta hd hts => ?_⟩
  apply Classical.byContradiction
  intro hne
  have : ∃ i, i < 32 /\ X.getLsbD i = true /\ t.getLsbD i = false := by
   apply Classical.byContradiction
   intro hn
   apply hne
   refine sub_antisymm hts fun i hi hx => ?_
   cases hb : t.getLsbD i with
   | true => rfl
   | false => exact absurd ⟨i, hi, hx, hb⟩ hn
  obtain ⟨i, hi, hx, hti⟩ := this
  have h5 := h4 i hi hx
  have hsub : sub (X &&& ~~~ bit i) (fullN m) := sub_trans (sub_andl _ _) h1
  rw [SMd _ hsub] at h5
  have : detB rs a (X &&& ~~~ bit i) = true := det_mono h ha ht hsub (fun j hj htj => by
   rw [BitVec.getLsbD_and, BitVec.getLsbD_not, bit_get _ _ hj, hts j hj htj]
   have : j ≠ i := fun e => by subst e; rw [hti] at htj; cases htj
   simp [hj, this]) hd
  rw [this] at h5; cases h5
 ·rintro ⟨⟨h1, h2, h3⟩, h4⟩
  refine ⟨h1, h2, by rw [SMd X h1]; exact h3, ?_⟩
  rw [leavesB_iff]
  intro i hi hx
  have hsub : sub (X &&& ~~~ bit i) (fullN m) := sub_trans (sub_andl _ _) h1
  rw [SMd _ hsub]
  cases hd : detB rs a (X &&& ~~~ bit i) with
  | false => rfl
  | true =>
   have e := h4 _ hsub (by rw [BitVec.getLsbD_and, h2]; rfl) hd (sub_andl _ _)
   have : (X &&& ~~~ bit i).getLsbD i = true := by rw [e]; exact hx
   rw [BitVec.getLsbD_and, BitVec.getLsbD_not, bit_get _ _ hi] at this
   simp at this
theorem ex_for {m a : Nat} {rs : List Row3} (hm : m <= 16) (ha : a < m) {ys : List S} (hy : IsOrd ys (fun s => sub s (fullN m))) : selL (minQA rs a) ys = forL m rs a := by
 rw [selL_for (K := m) (Q := minQA rs a) (by omega) (hy.congr fun s => ⟨fun h => ⟨h, pop_sub_full hm h⟩, fun h => h.1⟩) (fun s _ => rfl), forK_all hm (by omega) (Nat.le_refl _)]
theorem by_for {m a : Nat} {rs : List Row3} (h : FineR m rs) (ha : a < m) : allS (keepS downR (diffL m a (pairsS rs))) = forL m rs a := by
 rw [allS_keep, for_key h.wid h.le ha]
 unfold keyO edgS diffL othS
 congr 1
 apply List.map_congr_left
 intro s _
 rw [BitVec.and_assoc, BitVec.and_comm (~~~ s), <- BitVec.and_assoc]

end Go.Proofs.YtalejolehccclaaGreatDoor
