/- The walks of the reference of chapter 29: Error and Check. -/
import Derived.Test.YtkbegpnchamgkaaGreatDoorKmR5
import Derived.Test.YtkbegpnchamgkaaGreatDoorGSmall
import Derived.Test.YtkbegpnchamgkaaGreatDoorGSort
import Derived.Test.YtkbegpnchamgkaaGreatDoorAfter
namespace Go.Proofs.YtkbegpnchamgkaaGreatDoor
open Go.RowKit
set_option linter.unusedVariables false

def rkE (t : T3) (most : Nat) (s : S) : Int := if tabE t ≠ 0 then tabE t else if 200 < t.2.2.length ∨ most < t.2.1.length then 3 else if sub s (fullN (min t.2.1.length 32)) then 0 else 1
theorem tabE_small {t : T3} (h : tabE t = 0) : t.2.1.length ≤ 16 := by
  unfold tabE at h
  split at h
  · cases h
  · split at h
    · cases h
    · rename_i h2; omega
theorem rkE_zero (t : T3) : rkE t 12 0#32 = kE t 0#32 true := by
  unfold rkE kE
  by_cases h1 : tabE t = 0
  · have e1 : ¬ (tabE t ≠ 0) := fun h => h h1
    rw [if_neg e1, if_neg e1]
    by_cases h2 : 200 < t.2.2.length ∨ 12 < t.2.1.length
    · have h3 : 200 < t.2.2.length ∨ true = true ∧ 12 < t.2.1.length := h2.imp id fun h => ⟨rfl, h⟩
      rw [if_pos h2, if_pos h3]
    · have h3 : ¬ (200 < t.2.2.length ∨ true = true ∧ 12 < t.2.1.length) := fun h => h2 (h.imp id And.right)
      have h4 : sub 0#32 (fullN (min t.2.1.length 32)) := fun i _ h => by simp at h
      have h5 : ¬ ((0#32 >>> min t.2.1.length 32 != 0#32) = true) := by simp
      rw [if_neg h2, if_neg h3, if_pos h4, if_neg h5]
  · rw [if_pos h1, if_pos h1]
theorem rkE_full (t : T3) (s : S) : rkE t 16 s = kE t s false := by
  unfold rkE kE
  by_cases h1 : tabE t = 0
  · have e1 : ¬ (tabE t ≠ 0) := fun h => h h1
    rw [if_neg e1, if_neg e1]
    have h16 := tabE_small h1
    by_cases h2 : 200 < t.2.2.length
    · have h3 : 200 < t.2.2.length ∨ 16 < t.2.1.length := Or.inl h2
      have h4 : 200 < t.2.2.length ∨ false = true ∧ 12 < t.2.1.length := Or.inl h2
      rw [if_pos h3, if_pos h4]
    · have h3 : ¬ (200 < t.2.2.length ∨ 16 < t.2.1.length) := by omega
      have h4 : ¬ (200 < t.2.2.length ∨ false = true ∧ 12 < t.2.1.length) := by rintro (h | ⟨h, _⟩); exact h2 h; cases h
      rw [if_neg h3, if_neg h4]
      have := shrOk_sub (s := s) (n := t.2.1.length) (by omega)
      unfold shrOk at this
      rw [Nat.min_eq_left (show t.2.1.length ≤ 32 by omega)]
      by_cases h5 : sub s (fullN t.2.1.length)
      · have h6 : ¬ ((s >>> t.2.1.length != 0#32) = true) := by rw [bne_iff_ne]; exact fun h => h (beq_iff_eq.1 (this.2 h5))
        rw [if_pos h5, if_neg h6]
      · have h6 : (s >>> t.2.1.length != 0#32) = true := by rw [bne_iff_ne]; exact fun e => h5 (this.1 (beq_iff_eq.2 e))
        rw [if_neg h5, if_pos h6]
  · rw [if_pos h1, if_pos h1]

set_option maxHeartbeats 1600000 in
set_option maxRecDepth 100000 in
theorem rerror_any (t : T3) (av rv : Value) (most : Nat) (s : S) (w : World) (ht : RdT w av rv t) :
    Calls Tryz.prog 47 #[.agg #[.string t.1, av, rv], .int .i64 (most : Int), .int .u32 (iv s)] w fun e w' => e = .returned (.int .i64 (rkE t most s)) ∧ Below w.heap.size w w' := by
  have hb0 := below_alloc w (.cells #[.string t.1, av, rv] 28)
  have C3 := hid (fun W h => cells3 (w := w) (a := .string t.1) (b := av) (c := rv) (t := 28) W h)
  have T0 := hid (ht.below hb0)
  obtain ⟨w0, hw0⟩ : ∃ w0 : World, w.alloc (.cells #[.string t.1, av, rv] 28) = w0 := ⟨_, rfl⟩
  rw [hw0] at hb0 C3 T0
  have B0 := hid hb0
  have W0 := hid hw0
  have hsz0 := hb0.size
  clear hb0 hw0
  have TV := hid (fun (W : World) (h : Below w0.heap.size w0 W) => refValidT_any t av rv W (T0.out.below h))
  obtain ⟨t00, t01, t02⟩ := C3.out _ (Below.refl _ _)
  have KE := hid (show rkE t most s = if tabE t ≠ 0 then tabE t else if 200 < t.2.2.length ∨ most < t.2.1.length then 3 else if sub s (fullN (min t.2.1.length 32)) then 0 else 1 from rfl)
  have D0 := hid (Below.refl w0.heap.size w0)
  have FU := hid (fun (W : World) => full_any (t.2.1.length : Int) W)
  have SB := hid (fun (W : World) => sub_any s (fullN (min t.2.1.length 32)) W)
  rw [Int.toNat_natCast] at FU
  unfold enc at FU SB
  obtain ⟨nm, ats, rs⟩ := t
  obtain ⟨ao, acap, hva, -⟩ := T0.out.1.split
  obtain ⟨ro, rcap, hvr, -⟩ := RdR.split T0.out.2
  simp only at hva hvr KE TV FU SB
  subst hva hvr
  generalize rkE (nm, ats, rs) most s = ke at *
  generalize tabE (nm, ats, rs) = te at *
  generalize fullN (min ats.length 32) = fu at *
  clear ht T0
  by_cases h0 : te = 0
  · subst h0
    rw [if_neg (by simp)] at KE
    by_cases h1 : 200 < rs.length
    · rw [if_pos (.inl h1)] at KE
      have i1 : decide ((200 : Int) < (rs.length : Int)) = true := by rw [decide_eq_true_iff]; omega
      have i1' : decide ((rs.length : Int) > (200 : Int)) = true := by rw [decide_eq_true_iff]; omega
      clear h1
      go_enter Tryz.func47, Tryz.ntmps47
      go_wp2_with fail
      rw [W0.out]
      go_wp2_with fail
      refine (TV.out _ D0.out).mono ?_
      rintro e w1 ⟨rfl, hb1⟩
      have D1 := hid (D0.out.trans (hb1.mono D0.out.size))
      obtain ⟨t10, t11, t12⟩ := C3.out _ D1.out
      clear hb1 t00 t01 t02
      go_wp2_with fail
      go_ret
      exact ⟨ret_int KE.out.symm, B0.out.trans (D1.out.mono hsz0)⟩
    · have i1 : decide ((200 : Int) < (rs.length : Int)) = false := by rw [decide_eq_false_iff_not]; omega
      have i1' : decide ((rs.length : Int) > (200 : Int)) = false := by rw [decide_eq_false_iff_not]; omega
      by_cases h2 : most < ats.length
      · rw [if_pos (.inr h2)] at KE
        have i2 : decide ((most : Int) < (ats.length : Int)) = true := by rw [decide_eq_true_iff]; omega
        have i2' : decide ((ats.length : Int) > (most : Int)) = true := by rw [decide_eq_true_iff]; omega
        have i3 : decide (most < ats.length) = true := by rw [decide_eq_true_iff]; exact h2
        clear h1 h2
        go_enter Tryz.func47, Tryz.ntmps47
        go_wp2_with fail
        rw [W0.out]
        go_wp2_with fail
        refine (TV.out _ D0.out).mono ?_
        rintro e w1 ⟨rfl, hb1⟩
        have D1 := hid (D0.out.trans (hb1.mono D0.out.size))
        obtain ⟨t10, t11, t12⟩ := C3.out _ D1.out
        clear hb1 t00 t01 t02
        go_wp2_with fail
        go_ret
        exact ⟨ret_int KE.out.symm, B0.out.trans (D1.out.mono hsz0)⟩
      · rw [if_neg (by rintro (h | h); exact h1 h; exact h2 h)] at KE
        have i2 : decide ((most : Int) < (ats.length : Int)) = false := by rw [decide_eq_false_iff_not]; omega
        have i2' : decide ((ats.length : Int) > (most : Int)) = false := by rw [decide_eq_false_iff_not]; omega
        have i3 : decide (most < ats.length) = false := by rw [decide_eq_false_iff_not]; exact h2
        clear h1 h2
        by_cases h3 : sub s fu
        · rw [if_pos h3] at KE
          rw [decide_eq_true h3] at SB
          clear h3
          go_enter Tryz.func47, Tryz.ntmps47
          go_wp2_with fail
          rw [W0.out]
          go_wp2_with fail
          refine (TV.out _ D0.out).mono ?_
          rintro e w1 ⟨rfl, hb1⟩
          have D1 := hid (D0.out.trans (hb1.mono D0.out.size))
          obtain ⟨t10, t11, t12⟩ := C3.out _ D1.out
          clear hb1 t00 t01 t02
          go_wp2_with fail
          refine (FU.out _).mono ?_
          rintro e w' ⟨rfl, rfl⟩
          go_wp2_with fail
          refine (SB.out _).mono ?_
          rintro e w' ⟨rfl, rfl⟩
          go_wp2_with fail
          go_ret
          exact ⟨ret_int KE.out.symm, B0.out.trans (D1.out.mono hsz0)⟩
        · rw [if_neg h3] at KE
          rw [decide_eq_false h3] at SB
          clear h3
          go_enter Tryz.func47, Tryz.ntmps47
          go_wp2_with fail
          rw [W0.out]
          go_wp2_with fail
          refine (TV.out _ D0.out).mono ?_
          rintro e w1 ⟨rfl, hb1⟩
          have D1 := hid (D0.out.trans (hb1.mono D0.out.size))
          obtain ⟨t10, t11, t12⟩ := C3.out _ D1.out
          clear hb1 t00 t01 t02
          go_wp2_with fail
          refine (FU.out _).mono ?_
          rintro e w' ⟨rfl, rfl⟩
          go_wp2_with fail
          refine (SB.out _).mono ?_
          rintro e w' ⟨rfl, rfl⟩
          go_wp2_with fail
          go_ret
          exact ⟨ret_int KE.out.symm, B0.out.trans (D1.out.mono hsz0)⟩
  · rw [if_pos h0] at KE
    have hne : (te != (0 : Int)) = true := by simpa using h0
    have KE2 := KE.out
    subst KE2
    clear KE h0
    go_enter Tryz.func47, Tryz.ntmps47
    go_wp2_with fail
    rw [W0.out]
    go_wp2_with fail
    refine (TV.out _ D0.out).mono ?_
    rintro e w1 ⟨rfl, hb1⟩
    have D1 := hid (D0.out.trans (hb1.mono D0.out.size))
    obtain ⟨t10, t11, t12⟩ := C3.out _ D1.out
    clear hb1 t00 t01 t02
    go_wp2_with fail
    go_ret
    exact ⟨rfl, B0.out.trans (D1.out.mono hsz0)⟩

theorem valid_edg {n : Nat} (hn : n ≤ 16) {ps : List S} (hl : ps.length ≤ 200) : validS (n : Int) (edgN n ps) = 0 := by
  unfold validS
  rw [if_neg (by omega), if_neg (by unfold edgN; rw [List.length_map]; omega), if_neg]
  rw [Bool.not_eq_true, List.any_eq_false]
  intro x hx
  unfold edgN at hx
  obtain ⟨p, _, rfl⟩ := List.mem_map.1 hx
  have h := (shrOk_sub (n := n) (s := fullN n &&& ~~~ p) (by omega)).2 (and_sub_left _ _)
  unfold shrOk at h
  have e : ((fullN n &&& ~~~ p) >>> n != 0#32) = false := by rw [bne_eq_false_iff_eq]; exact beq_iff_eq.1 h
  rw [Int.toNat_natCast, e]
  simp
theorem kuB_no {t : T3} (h : kE t 0#32 true = 0) {s : S} (hs : ¬ sub s (fullN t.2.1.length)) : kuB t s = false := by
  unfold kuB
  rw [decide_eq_false]
  · rfl
  · intro e
    exact hs (bits_sub (kE_ok e).2.1 (by have := (tabE2_ok (kE_ok h).1).1; omega))

attribute [local irreducible] Go.wpQuiet
set_option maxHeartbeats 6400000 in
set_option maxRecDepth 100000 in
theorem rcheckC_any (t : T3) (av rv : Value) (ks : List S) (kv : Value) (ws : List W3) (wv : Value) (w : World) (ht : RdT w av rv t) (hks : RdE enc w kv ks) (hws : RdW w wv ws) (hl : ks.length ≤ 100000) :
    Calls Tryz.prog 24 #[.agg #[.string t.1, av, rv], kv, wv] w fun e w' => e = .returned (.bool (kchkB t ks ws)) ∧ Below w.heap.size w w' := by
  have hb0 := below_alloc w (.cells #[.string t.1, av, rv] 28)
  have C3 := hid (fun W h => cells3 (w := w) (a := .string t.1) (b := av) (c := rv) (t := 28) W h)
  have T0 := hid (ht.below hb0)
  obtain ⟨w0, hw0⟩ : ∃ w0 : World, w.alloc (.cells #[.string t.1, av, rv] 28) = w0 := ⟨_, rfl⟩
  rw [hw0] at hb0 C3 T0
  have B0 := hid hb0
  have W0 := hid hw0
  have hsz0 := hb0.size
  clear hb0 hw0
  have KC := hid (fun (W : World) (h : Below w0.heap.size w0 W) => show Calls Tryz.prog 47 #[.agg #[.string t.1, av, rv], .int .i64 12, .int .u32 0] W fun e w' => e = .returned (.int .i64 (rkE t 12 0#32)) ∧ Below W.heap.size W w' from rerror_any t av rv 12 0#32 W (T0.out.below h))
  rw [rkE_zero] at KC
  have CK := hid (show kchkB t ks ws = (decide (kE t 0#32 true = 0) && decide (ws.length ≤ 200) && ws.all (rgtB t) && ks.all (kuB t) && decide (ordS ks = keyN t.2.1.length (ws.map (·.1)))) from rfl)
  obtain ⟨R, hR⟩ : ∃ R, kchkB t ks ws = R := ⟨_, rfl⟩
  rw [hR]
  rw [hR] at CK
  clear hR
  have K0 := hid (hks.below B0.out)
  have WS0 := hid (RdC.below hws B0.out)
  obtain ⟨t00, t01, t02⟩ := C3.out _ (Below.refl _ _)
  obtain ⟨ko, kcap, rfl, hkl, hkc⟩ := K0.out.split
  obtain ⟨wo', wcap, rfl, hwl, hwc⟩ := RdW.split WS0.out
  by_cases h0 : kE t 0#32 true = 0
  · obtain ⟨hk2, -, h12⟩ := kE_ok h0
    replace h12 := h12 rfl
    have KU0 := hid (fun (s : S) (hs : sub s (fullN t.2.1.length)) => kE_unq h0 (kE_set h0 hs))
    have KUN := hid (fun (s : S) (hs : ¬ sub s (fullN t.2.1.length)) => kuB_no h0 hs)
    rw [h0] at KC
    rw [decide_eq_true h0, Bool.true_and] at CK
    by_cases h200 : ws.length ≤ 200
    · have i1 : decide ((200 : Int) < (ws.length : Int)) = false := by rw [decide_eq_false_iff_not]; omega
      have i1' : decide ((ws.length : Int) > (200 : Int)) = false := by rw [decide_eq_false_iff_not]; omega
      rw [decide_eq_true h200, Bool.true_and] at CK
      have RT := hid (fun (x : W3) (W : World) (h : Below w0.heap.size w0 W) => rkright_any t av rv x W (T0.out.below h) hk2)
      have UQ := hid (fun (s : S) (hs : sub s (fullN t.2.1.length)) (W : World) (h : Below w0.heap.size w0 W) => runique_any t av rv s W (T0.out.below h) hk2 hs)
      have SB := hid (fun (s : S) (W : World) => sub_any s (fullN t.2.1.length) W)
      have FU := hid (fun (W : World) => full_any (t.2.1.length : Int) W)
      rw [Int.toNat_natCast, show min t.2.1.length 32 = t.2.1.length by omega] at FU
      have OR := hid (fun (W : World) (h : Below w0.heap.size w0 W) => refOrder_any ks _ W (K0.out.below h) (by omega))
      have AL := hid (fun (v : Value) (W : World) (h : RdE enc W v (edgN t.2.1.length (ws.map (·.1)))) => refAllW (t.2.1.length : Int) (edgN t.2.1.length (ws.map (·.1))) v W h)
      rw [show resS (t.2.1.length : Int) (edgN t.2.1.length (ws.map (·.1))) = keyN t.2.1.length (ws.map (·.1)) by unfold resS; rw [if_pos (valid_edg (by omega) (by rw [List.length_map]; exact h200))]; rfl, valid_edg (by omega) (by rw [List.length_map]; exact h200)] at AL
      have KB := hid (keyN_bound (show t.2.1.length ≤ 16 by omega) (ws.map (·.1)))
      have F1 := hid (fun (k : Nat) (x : W3) (h : ws[k]? = some x) (h2 : rgtB t x = false) => show R = false by
        rw [CK.out, show ws.all (rgtB t) = false from List.all_eq_false.2 ⟨x, List.mem_of_getElem? h, by simp [h2]⟩]; rfl)
      have F2 := hid (fun (k : Nat) (s : S) (h : ks[k]? = some s) (h2 : kuB t s = false) => show R = false by
        rw [CK.out, show ks.all (kuB t) = false from List.all_eq_false.2 ⟨s, List.mem_of_getElem? h, by simp [h2]⟩]; simp)
      have F3 := hid (fun (h1 : ∀ x ∈ ws, rgtB t x = true) (h2 : ∀ s ∈ ks, kuB t s = true) => show R = decide (ordS ks = keyN t.2.1.length (ws.map (·.1))) by
        rw [CK.out, List.all_eq_true.2 h1, List.all_eq_true.2 h2]; simp)
      have EDG := hid (fun (k : Nat) (x : W3) (h : ws[k]? = some x) => show edgN t.2.1.length ((ws.take (k + 1)).map (·.1)) = edgN t.2.1.length ((ws.take k).map (·.1)) ++ [fullN t.2.1.length &&& ~~~ x.1] by
        unfold edgN; rw [take_next h, List.map_append, List.map_append]; rfl)
      have EDL := hid (fun (k : Nat) => show (edgN t.2.1.length ((ws.take k).map (·.1))).length ≤ 200 by unfold edgN; rw [List.length_map, List.length_map]; have := List.length_take_le' k ws; omega)
      have EDA := hid (fun (k : Nat) (h : ¬ k < ws.length) => show edgN t.2.1.length ((ws.take k).map (·.1)) = edgN t.2.1.length (ws.map (·.1)) by rw [List.take_of_length_le (by omega)])
      have ED0 := hid (show edgN t.2.1.length ((ws.take 0).map (·.1)) = [] by rw [List.take_zero]; rfl)
      obtain ⟨nm, ats, rs⟩ := t
      obtain ⟨ao, acap, hva, -⟩ := T0.out.1.split
      simp only at hva KB F3 RT UQ SB FU AL EDG EDL EDA ED0
      subst hva
      have HKC := hid hkc
      have HWC := hid hwc
      unfold enc at HKC FU SB
      generalize edgN ats.length (ws.map (·.1)) = eAll at *
      obtain ⟨eK, heK⟩ : ∃ eK : Nat → List S, (fun k => edgN ats.length ((ws.take k).map (·.1))) = eK := ⟨_, rfl⟩
      have hek : ∀ k, edgN ats.length ((ws.take k).map (·.1)) = eK k := fun k => by rw [← heK]
      replace EDG := hid (show ∀ (k : Nat) (x : W3), ws[k]? = some x → eK (k + 1) = eK k ++ [fullN ats.length &&& ~~~ x.1] from fun k x h => by rw [← hek, ← hek]; exact EDG.out k x h)
      replace EDL := hid (show ∀ k : Nat, (eK k).length ≤ 200 from fun k => by rw [← hek]; exact EDL.out k)
      replace EDA := hid (show ∀ k : Nat, ¬ k < ws.length → eK k = eAll from fun k h => by rw [← hek]; exact EDA.out k h)
      replace ED0 := hid (show eK 0 = [] by rw [← hek]; exact ED0.out)
      generalize keyN ats.length (ws.map (·.1)) = ky at *
      generalize fullN ats.length = fu at *
      have HKL := hid hl
      clear CK ht hks hws hkc hwc h0 hk2 h12 heK hek
      go_enter Tryz.func24, Tryz.ntmps24
      go_wp2_with fail
      rw [W0.out]
      go_wp2_with fail
      refine (KC.out _ (Below.refl _ _)).mono ?_
      rintro e w1 ⟨rfl, hb1⟩
      have D1 := hid hb1
      have hs1 := hb1.size
      obtain ⟨t10, t11, t12⟩ := C3.out _ hb1
      clear hb1 t00 t01 t02
      go_wp2_with fail
      refine (FU.out _).mono ?_
      rintro e w' ⟨rfl, rfl⟩
      go_wp2_with fail
      go_loopw [8] (fun i wr => ∃ k : Nat, k ≤ ks.length ∧ i = .int .i64 k ∧ Hid (∀ x ∈ ks.take k, kuB (nm, ats, rs) x = true) ∧ Below w0.heap.size w0 wr) (fun i _ => ks.length - (intOf i).toNat)
      case atStart => exact ⟨0, Nat.zero_le _, rfl, hid (by simp), D1.out⟩
      case round =>
        obtain ⟨q, hq, rfl, H, hnx⟩ := hrel
        have hsz := hnx.size
        have q0 : (0 : Int) ≤ (q : Int) := by omega
        by_cases hlt : q < ks.length
        · obtain ⟨s, hx⟩ := get_some hlt
          have q1 : (q : Int) < (ks.length : Int) := by omega
          obtain ⟨b, off, rfl, hd⟩ := HKC.out q s hx
          have e0 := hd wr hnx
          obtain ⟨u0, u1, u2⟩ := C3.out _ hnx
          have NX2 := hid hnx
          have TN := hid (take_next hx)
          have HLT := hid hlt
          have F2k := hid (F2.out q s hx)
          have hqb : q ≤ 100000 := by have := HKL.out; omega
          have m0 : ∀ z : After wr, z.world.cell? ⟨w.heap.size, 0, none⟩ = some (.string nm) := fun z => After.cell u0 z
          have m1 : ∀ z : After wr, z.world.cell? ⟨w.heap.size, 1, none⟩ = some (.slice ao ats.length acap) := fun z => After.cell u1 z
          have m2 : ∀ z : After wr, z.world.cell? ⟨w.heap.size, 2, none⟩ = some rv := fun z => After.cell u2 z
          have m3 : ∀ z : After wr, z.world.cell? ⟨b, off + q, none⟩ = some (.int .u32 (iv s)) := fun z => After.cell e0 z
          have SBz := hid (fun z : After wr => Calls.after_same z (SB.out s z.world))
          by_cases hsub : sub s fu
          · rw [decide_eq_true hsub] at SBz
            have UQz := hid (fun z : After wr => Calls.after z (UQ.out s hsub z.world (NX2.out.trans (z.below.mono NX2.out.size))))
            have KUE := KU0.out s hsub
            cases hu : uniB (pairsS rs) s with
            | true =>
              have hku : kuB (nm, ats, rs) s = true := KUE.trans hu
              rw [hu] at UQz
              have HN := hid (show ∀ x ∈ ks.take (q + 1), kuB (nm, ats, rs) x = true by
                rw [TN.out]
                intro x hx
                rcases List.mem_append.1 hx with h | h
                · exact H.out x h
                · rw [List.mem_singleton] at h; rw [h]; exact hku)
              clear hd hx hnx hu hku KUE hsub
              go_wp2_with fail
              refine wp_region_after (by kernel_rfl) (by kernel_rfl) ?_
              repeat (any_goals (quiet_step (first | exact SBz.out _ | exact UQz.out _)))
              refine wpQuiet_nil ?_
              intro wq hbq
              have BF := hid (NX2.out.trans (hbq.mono NX2.out.size))
              clear hbq m0 m1 m2 m3
              go_wp2_with fail
              go_roundw
              case rel => exact ⟨q + 1, by have := HLT.out; omega, by go_num, HN, BF.out⟩
              case measure => have := HLT.out; simp [intOf]; omega
            | false =>
              have RF := hid (F2k.out (KUE.trans hu))
              rw [hu] at UQz
              clear hd hx hnx hu KUE hsub
              go_wp2_with fail
              refine wp_region_after (by kernel_rfl) (by kernel_rfl) ?_
              repeat (any_goals (quiet_step (first | exact SBz.out _ | exact UQz.out _)))
              refine wpQuiet_nil ?_
              intro wq hbq
              have BF := hid (B0.out.trans ((NX2.out.trans (hbq.mono NX2.out.size)).mono hsz0))
              clear hbq m0 m1 m2 m3
              go_wp2_with fail
              go_ret
              exact ⟨by rw [RF.out]; rfl, BF.out⟩
          · rw [decide_eq_false hsub] at SBz
            have RF := hid (F2k.out (KUN.out s hsub))
            clear hd hx hnx hsub
            go_wp2_with fail
            refine wp_region_after (by kernel_rfl) (by kernel_rfl) ?_
            repeat (any_goals (quiet_step (first | exact SBz.out _)))
            refine wpQuiet_nil ?_
            intro wq hbq
            have BF := hid (B0.out.trans ((NX2.out.trans (hbq.mono NX2.out.size)).mono hsz0))
            clear hbq m0 m1 m2 m3
            go_wp2_with fail
            go_ret
            exact ⟨by rw [RF.out]; rfl, BF.out⟩
        · have HA := hid (show ∀ x ∈ ks, kuB (nm, ats, rs) x = true by have h := H.out; rwa [List.take_of_length_le (by omega)] at h)
          have NX := hid hnx
          have ES := hid (show wr.ownsRow w0.heap.size 33 1 (.slice none 0 0) (eK 0).length ((eK 0).map enc) by rw [ED0.out]; exact World.ownsRow_nil _ _ _ _)
          clear H hnx
          go_wp2_with fail
          go_loopw [9, 10] (fun u i wr => ∃ k : Nat, k ≤ ws.length ∧ i = .int .i64 k ∧ wr.ownsRow w0.heap.size 33 1 u (eK k).length ((eK k).map enc) ∧ Hid (∀ x ∈ ws.take k, rgtB (nm, ats, rs) x = true) ∧ Below w0.heap.size w0 wr) (fun _ i _ => ws.length - (intOf i).toNat)
          case atStart => exact ⟨0, Nat.zero_le _, rfl, ES.out, hid (by simp), NX.out⟩
          case round =>
            obtain ⟨wm, rfl⟩ : ∃ wm : World, wm = wr := ⟨_, rfl⟩
            obtain ⟨k, hk, rfl, hown, H, hnx⟩ := hrel
            have hsz := hnx.size
            have k0 : (0 : Int) ≤ (k : Int) := by omega
            have EL := hid (EDL.out k)
            obtain ⟨u0, u1, u2⟩ := C3.out _ hnx
            by_cases hlt : k < ws.length
            · obtain ⟨⟨xs, xa, xb⟩, hx⟩ := get_some hlt
              have k1 : (k : Int) < (ws.length : Int) := by omega
              obtain ⟨b, off, rfl, hd⟩ := HWC.out k _ hx
              obtain ⟨e0, e1, e2⟩ := hd wm hnx
              have NX2 := hid hnx
              have HO := hid hown
              have TN := hid (take_next hx)
              have HLT := hid hlt
              have F1k := hid (F1.out k _ hx)
              have EN := hid (EDG.out k _ hx)
              have HDW := hid (fun (W : World) (h : Below w0.heap.size w0 W) => show W.cell? ⟨b, off + k * 3, none⟩ = some (.int .u32 (iv xs)) from (hd W h).1)
              have m0 : ∀ z : After wm, z.world.cell? ⟨w.heap.size, 0, none⟩ = some (.string nm) := fun z => After.cell u0 z
              have m1 : ∀ z : After wm, z.world.cell? ⟨w.heap.size, 1, none⟩ = some (.slice ao ats.length acap) := fun z => After.cell u1 z
              have m2 : ∀ z : After wm, z.world.cell? ⟨w.heap.size, 2, none⟩ = some rv := fun z => After.cell u2 z
              have m3 : ∀ z : After wm, z.world.cell? ⟨b, off + k * 3, none⟩ = some (.int .u32 (iv xs)) := fun z => After.cell e0 z
              have m4 : ∀ z : After wm, z.world.cell? ⟨b, off + k * 3 + 1, none⟩ = some (.int .i64 xa) := fun z => After.cell e1 z
              have m5 : ∀ z : After wm, z.world.cell? ⟨b, off + k * 3 + 2, none⟩ = some (.int .i64 xb) := fun z => After.cell e2 z
              have CRz := hid (fun z : After wm => Calls.after z (show Calls Tryz.prog 49 #[.agg #[.string nm, .slice ao ats.length acap, rv], .agg #[.int .u32 (iv xs), .int .i64 xa, .int .i64 xb]] z.world _ from RT.out (xs, xa, xb) z.world (NX2.out.trans (z.below.mono NX2.out.size))))
              replace EN := hid (show eK (k + 1) = eK k ++ [fu &&& ~~~ xs] from EN.out)
              cases hq : rgtB (nm, ats, rs) (xs, xa, xb) with
              | false =>
                rw [hq] at CRz
                have RF := hid (F1k.out hq)
                clear hd hx hnx hq hown
                go_wp2_with fail
                refine wp_region_after (by kernel_rfl) (by kernel_rfl) ?_
                repeat (any_goals (quiet_step (first | exact CRz.out _)))
                refine wpQuiet_nil ?_
                intro wq hbq
                have BF := hid (B0.out.trans ((NX2.out.trans (hbq.mono NX2.out.size)).mono hsz0))
                clear hbq m0 m1 m2 m3 m4 m5
                go_wp2_with fail
                go_ret
                exact ⟨by rw [RF.out]; rfl, BF.out⟩
              | true =>
                rw [hq] at CRz
                have HN := hid (show ∀ x ∈ ws.take (k + 1), rgtB (nm, ats, rs) x = true by
                  rw [TN.out]
                  intro x hx
                  rcases List.mem_append.1 hx with h | h
                  · exact H.out x h
                  · rw [List.mem_singleton] at h; rw [h]; exact hq)
                generalize eK k = ek at *
                clear hd hx hnx hq hown
                go_wp2_with fail
                refine wp_region_after (by kernel_rfl) (by kernel_rfl) ?_
                repeat (any_goals (quiet_step (first | exact CRz.out _)))
                refine wpQuiet_nil ?_
                intro wq hbq
                have NQ := hid (NX2.out.trans (hbq.mono NX2.out.size))
                have OQ := hid (own_below HO.out hbq)
                have x0 := HDW.out wq NQ.out
                have hsq := NQ.out.size
                clear hbq m0 m1 m2 m3 m4 m5
                go_wp2_with (at_builtin; refine wpList_push rfl _ _ 45 rfl w0.heap.size 33 (.int .u32 0) 4 undSets infoSet rfl (by decide) enc (fun _ => rfl) _ ek rfl (OQ.out.alloc _) ⟨wq.heap.size, 0, none⟩ (fu &&& ~~~ xs) rfl (by simp [enc]) (by have := EL.out; omega) (by simp; omega) ?_)
                intro v' w4 hown' hgrow
                have hb4 := hid (below_push NQ.out hsq OQ.out hgrow)
                have OW := hid (show w4.ownsRow w0.heap.size 33 1 v' (eK (k + 1)).length ((eK (k + 1)).map enc) by rw [EN.out]; simpa using hown')
                clear hown' hgrow
                go_wp2_with fail
                go_roundw
                case rel => exact ⟨k + 1, by have := HLT.out; omega, by go_num, OW.out, HN, hb4.out⟩
                case measure => have := HLT.out; simp [intOf]; omega
            · have HB := hid (show ∀ x ∈ ws, rgtB (nm, ats, rs) x = true by have h := H.out; rwa [List.take_of_length_le (by omega)] at h)
              have RF := hid (F3.out HB.out HA.out)
              have NX3 := hid hnx
              have RE := hid (RdE.of_owns hown (by have := EL.out; omega))
              rw [EDA.out k hlt] at RE
              have CA := hid (AL.out _ wm RE.out)
              have OO := hid (fun (ys : List S) (h : IsOrd ys (· ∈ ks)) => show ys = ordS ks from ordS_of h fun _ => Iff.rfl)
              have SM := hid (fun (xs ys : List S) (x y : Value) (W : World) (hx : RdE enc W x xs) (hy : RdE enc W y ys) => same_any xs ys x y W hx hy)
              have OR1 := hid (fun (W : World) (h : Below wm.heap.size wm W) => OR.out W (NX3.out.trans (h.mono NX3.out.size)))
              generalize ordS ks = oks at *
              clear H hnx hown HA HB
              go_wp2_with fail
              refine CA.out.mono ?_
              rintro e w5 ⟨v5, rfl, ho5, -, hb5⟩
              have R5 := hid (RdE.of_owns ho5 (by have := KB.out; omega))
              have E5 := hid hb5
              clear ho5 hb5
              go_wp2_with fail
              refine (OR1.out _ E5.out).mono ?_
              rintro e w6 ⟨v6, ys, rfl, ho6, hi6, hl6, hb6⟩
              obtain rfl := OO.out _ hi6
              have R6 := hid (RdE.of_owns ho6 (by have := HKL.out; omega))
              have E6 := hid (E5.out.trans (hb6.mono E5.out.size))
              replace R5 := hid (R5.out.below hb6)
              clear ho6 hi6 hl6 hb6
              go_wp2_with fail
              refine (SM.out _ _ _ _ _ R6.out R5.out).mono ?_
              rintro e w7 ⟨rfl, qd, rfl⟩
              have BQ := hid (B0.out.trans ((NX3.out.trans ((below_drewN' E6.out qd).mono NX3.out.size)).mono hsz0))
              go_wp2_with fail
              go_ret
              exact ⟨by rw [RF.out]; rfl, BQ.out⟩
    · have i1 : decide ((200 : Int) < (ws.length : Int)) = true := by rw [decide_eq_true_iff]; omega
      have i1' : decide ((ws.length : Int) > (200 : Int)) = true := by rw [decide_eq_true_iff]; omega
      rw [decide_eq_false h200, Bool.false_and, Bool.false_and, Bool.false_and] at CK
      rw [CK.out]
      obtain ⟨nm, ats, rs⟩ := t
      clear ht hks hws hkc hwc h0 hk2 h12 h200
      go_enter Tryz.func24, Tryz.ntmps24
      go_wp2_with fail
      rw [W0.out]
      go_wp2_with fail
      refine (KC.out _ (Below.refl _ _)).mono ?_
      rintro e w1 ⟨rfl, hb1⟩
      have BF := hid (B0.out.trans (hb1.mono hsz0))
      clear hb1
      go_wp2_with fail
      go_ret
      exact ⟨rfl, BF.out⟩
  · rw [decide_eq_false h0] at CK
    simp only [Bool.false_and] at CK
    rw [CK.out]
    generalize kE t 0#32 true = ke at *
    have hne : (ke != (0 : Int)) = true := by simpa using h0
    obtain ⟨nm, ats, rs⟩ := t
    clear ht hks hws hkc hwc h0
    go_enter Tryz.func24, Tryz.ntmps24
    go_wp2_with fail
    rw [W0.out]
    go_wp2_with fail
    refine (KC.out _ (Below.refl _ _)).mono ?_
    rintro e w1 ⟨rfl, hb1⟩
    have BF := hid (B0.out.trans (hb1.mono hsz0))
    clear hb1
    go_wp2_with fail
    go_ret
    exact ⟨rfl, BF.out⟩

end Go.Proofs.YtkbegpnchamgkaaGreatDoor
