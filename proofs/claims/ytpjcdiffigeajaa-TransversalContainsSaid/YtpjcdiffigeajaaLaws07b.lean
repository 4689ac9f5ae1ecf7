/- More laws of chapter 7, over the contracts of what they call. -/
import Derived.Test.YtpjcdiffigeajaaLaws07
namespace Go.Proofs.Ytpjcdiffigeajaa
open Go.RowKit

/-! Plain laws that these laws want. -/
theorem allS_red (xs : List S) : allS (redS xs) = allS xs := (allS_ord (redS xs)).uniq (allS_ord xs) (fun s => by rw [min_red])
theorem valid_intro {n : Int} {xs : List S} (h0 : 0 ≤ n) (h16 : n ≤ 16) (hl : xs.length ≤ 200) (hb : ∀ x ∈ xs, ∀ i, i < 32 → n.toNat ≤ i → x.getLsbD i = false) : validS n xs = 0 := by
  unfold validS
  rw [if_neg (by omega), if_neg (by omega), if_neg]
  rw [Bool.not_eq_true, List.any_eq_false]
  intro x hx
  simp only [bne_iff_ne, ne_eq, Classical.not_not]
  apply bv_ext
  intro i hi
  rw [BitVec.getLsbD_ushiftRight, BitVec.getLsbD_zero]
  by_cases h : n.toNat + i < 32
  · exact hb x hx _ h (by omega)
  · exact BitVec.getLsbD_of_ge _ _ (by omega)
theorem valid_red {n : Int} {xs : List S} (h : validS n xs = 0) : validS n (redS xs) = 0 := by
  obtain ⟨h0, h16, hl, hb⟩ := valid_bits h
  exact valid_intro h0 h16 (Nat.le_trans (redS_length xs) hl) (fun x hx => hb x (((redS_ord xs).2 x).1 hx).1)
theorem valid_all {n : Int} {xs : List S} (h : validS n xs = 0) (hl : (allS xs).length ≤ 200) : validS n (allS xs) = 0 := by
  obtain ⟨h0, h16, _, hb⟩ := valid_bits h
  exact valid_intro h0 h16 hl (fun x hx => min_within (((allS_ord xs).2 x).1 hx) hb)
/-- What has a member in each minimal transversal contains an edge. -/
theorem hits_all {xs : List S} {s : S} : hitsS (allS xs) s = true ↔ ∃ e ∈ xs, sub e s := by
  constructor
  · intro h
    apply Classical.byContradiction
    intro hn
    have hc : hitsS xs (~~~ s) = true := by
      rw [hits_iff]
      intro e he h0
      apply hn
      refine ⟨e, he, fun i hi hei => ?_⟩
      rw [and_zero_iff] at h0
      have := h0 i hi hei
      rw [BitVec.getLsbD_not] at this
      simpa [hi] using this
    obtain ⟨t, ht, hts⟩ := min_in xs _ _ (Nat.le_refl _) hc
    have h1 := hits_iff.1 h t (((allS_ord xs).2 t).2 ht)
    apply h1
    rw [and_zero_iff]
    intro i hi hti
    have := hts i hi hti
    rw [BitVec.getLsbD_not] at this
    simpa [hi] using this
  · rintro ⟨e, he, hes⟩
    rw [hits_iff]
    intro t ht h0
    have h1 := hits_iff.1 (minS_iff.1 (((allS_ord xs).2 t).1 ht)).1 e he
    apply h1
    rw [and_zero_iff] at *
    intro i hi hei
    have h2 := hes i hi hei
    cases hti : t.getLsbD i with
    | false => rfl
    | true => have := h0 i hi hti; rw [h2] at this; cases this
theorem allS_all (xs : List S) : allS (allS xs) = redS xs := by
  refine (allS_ord (allS xs)).uniq (redS_ord xs) (fun s => ?_)
  show minS (allS xs) s = true ↔ isMin xs s
  rw [minS_iff]
  constructor
  · rintro ⟨h1, h2⟩
    obtain ⟨e, he, hes⟩ := hits_all.1 h1
    have hes2 := h2 e hes (hits_all.2 ⟨e, he, sub_refl _⟩)
    subst hes2
    exact ⟨he, fun f hf hfe => h2 f hfe (hits_all.2 ⟨f, hf, sub_refl _⟩)⟩
  · rintro ⟨hs, hm⟩
    refine ⟨hits_all.2 ⟨s, hs, sub_refl _⟩, fun t ht hh => ?_⟩
    obtain ⟨e, he, het⟩ := hits_all.1 hh
    have := hm e he (sub_trans het ht)
    subst this
    exact sub_antisymm ht het
theorem wit_true {n : Int} {xs sets : List S} {d : S} (hv : validS n xs = 0) (h : ¬ (d ∈ allS xs ↔ d ∈ sets)) : witS n xs sets d = true := by
  obtain ⟨h0, h16, _, hb⟩ := valid_bits hv
  have hmin : min n.toNat 32 = n.toNat := by omega
  have e1 : ((d &&& ~~~ fullN (min n.toNat 32) == 0#32) && minS xs d) = decide (d ∈ allS xs) := by
    rw [hmin]
    cases hm : minS xs d with
    | false =>
      rw [Bool.and_false]; symm; rw [decide_eq_false_iff_not]
      intro hd
      rw [((allS_ord xs).2 d).1 hd] at hm; cases hm
    | true =>
      rw [Bool.and_true]
      have hd : d ∈ allS xs := ((allS_ord xs).2 d).2 hm
      have hs : sub d (fullN n.toNat) := fun i hi hdi => by
        rw [fullN_get _ i hi, decide_eq_true_iff]
        apply Classical.byContradiction
        intro hn
        rw [min_within hm hb i hi (by omega)] at hdi; cases hdi
      rw [andNot_zero_iff.2 hs]; simp [hd]
  have e2 : inL sets d = decide (d ∈ sets) := by rw [Bool.eq_iff_iff, inL_iff]; simp
  unfold witS
  rw [e1, e2]
  by_cases a : d ∈ allS xs <;> by_cases b : d ∈ sets <;> simp [a, b] at h ⊢
theorem same_true (xs : List S) (v u : Value) (w : World) (hv : RdE enc w v xs) (hu : RdE enc w u xs) :
    Calls Try.prog 18 #[v, u] w fun e w' => e = .returned (.bool true) ∧ Below w.heap.size w w' :=
  (same_any xs xs v u w hv hu).mono fun e w' ⟨he, q, hq⟩ => ⟨by rw [he]; simp, by rw [hq]; exact below_drewN _ _ _⟩
theorem sameB (xs ys : List S) (v u : Value) (w : World) (hv : RdE enc w v xs) (hu : RdE enc w u ys) :
    Calls Try.prog 18 #[v, u] w fun e w' => e = .returned (.bool (decide (xs = ys))) ∧ Below w.heap.size w w' :=
  (same_any xs ys v u w hv hu).mono fun e w' ⟨he, q, hq⟩ => ⟨he, by rw [hq]; exact below_drewN _ _ _⟩
theorem few_yes (n : Int) (xs : List S) (v : Value) (w : World) (hv : RdE enc w v xs) (h : n ≤ 8) (hl : xs.length ≤ 12) :
    Calls Try.prog 15 #[.int .i64 n, v] w fun e w' => e = .returned (.bool true) ∧ w = w' :=
  (few_any n xs v w hv).mono fun e w' ⟨he, hw⟩ => ⟨by rw [he]; simp [h, hl], hw⟩
theorem few_no (n : Int) (a : Option Addr) (len cap : Nat) (w : World) (h : ¬ (n ≤ 8 ∧ len ≤ 12)) :
    Calls Try.prog 15 #[.int .i64 n, .slice a len cap] w fun e w' => e = .returned (.bool false) ∧ w = w' := by
  by_cases h8 : n ≤ 8
  · have hl : ¬ len ≤ 12 := fun k => h ⟨h8, k⟩
    have hl2 : 12 < len := by omega
    clear h hl
    go_enter Try.func15, Try.ntmps15
    go_wp2_with fail
    go_ret
    exact ⟨ret_bool (by simp; omega), rfl⟩
  · clear h
    go_enter Try.func15, Try.ntmps15
    go_wp2_with fail
    go_ret
    exact ⟨rfl, rfl⟩

set_option maxHeartbeats 600000 in
theorem all_law (n : Int) (a : Option Addr) (len cap : Nat) (w : World) (h : Arg w a len cap) :
    Calls Try.prog 4 #[.int .i64 n, .slice a len cap] w fun e w' => e = .returned (.bool true) ∧ Below w.heap.size w w' := by
  have AW := hid awake_any
  by_cases hf : n ≤ 8 ∧ len ≤ 12
  · obtain ⟨xs, hxl, hr⟩ := h (by omega)
    have FY := hid (fun (W : World) (hb : Below w.heap.size w W) => few_yes n xs _ W (hr.below hb) hf.1 (by omega))
    have L44 := hid (show xs.length < 17592186044416 by omega)
    have L45 := hid (show xs.length ≤ 35184372088832 by omega)
    have A0 := hid (fun (W : World) (hb : Below w.heap.size w W) => clone_any xs _ W (hr.below hb) L44.out)
    have A1 := hid (fun (v : Value) (W : World) (hv : RdE enc W v xs) => allW n xs v W hv)
    have A2 := hid (fun (W : World) (hb : Below w.heap.size w W) => refAllW n xs _ W (hr.below hb))
    clear hr hxl h hf
    generalize validS n xs = r at *
    generalize resS n xs = l at *
    have e1 : (r == r) = true := by simp
    have B0 := hid (Below.refl w.heap.size w)
    go_enter Try.func4, Try.ntmps4
    go_wp2_with fail
    refine (AW.out w).mono ?_
    rintro e w1 ⟨rfl, hb1⟩
    have B1 := hid (B0.out.trans (hb1.mono B0.out.size))
    clear hb1
    go_wp2_with fail
    refine (FY.out _ B1.out).mono ?_
    rintro e w9 ⟨rfl, rfl⟩
    go_wp2_with fail
    refine (A0.out _ B1.out).mono ?_
    rintro e w2 ⟨v2, rfl, hown, hb2⟩
    have R2 := hid (RdE.of_owns hown L45.out)
    clear hown
    have B2 := hid (B1.out.trans (hb2.mono B1.out.size))
    clear hb2
    go_wp2_with fail
    refine (A1.out _ _ R2.out).mono ?_
    rintro e w3 ⟨v3, rfl, hown, hl, hb3⟩
    have R3 := hid (RdE.of_owns hown (by omega))
    clear hown hl
    have B3 := hid (B2.out.trans (hb3.mono B2.out.size))
    clear hb3
    go_wp2_with fail
    refine (A2.out _ B3.out).mono ?_
    rintro e w4 ⟨v4, rfl, hown, hl, hb4⟩
    have R4 := hid (RdE.of_owns hown (by omega))
    have Q4 := hid (R3.out.below hb4)
    clear hown hl
    have B4 := hid (B3.out.trans (hb4.mono B3.out.size))
    clear hb4
    go_wp2_with fail
    refine (same_true l _ _ _ Q4.out R4.out).mono ?_
    rintro e w5 ⟨rfl, hb5⟩
    have B5 := hid (B4.out.trans (hb5.mono B4.out.size))
    clear hb5
    go_wp2_with fail
    go_ret
    exact ⟨rfl, B5.out⟩
  · clear h
    have B0 := hid (Below.refl w.heap.size w)
    go_enter Try.func4, Try.ntmps4
    go_wp2_with fail
    refine (AW.out w).mono ?_
    rintro e w1 ⟨rfl, hb1⟩
    have B1 := hid (B0.out.trans (hb1.mono B0.out.size))
    clear hb1
    go_wp2_with fail
    refine (few_no n a len cap _ hf).mono ?_
    rintro e w9 ⟨rfl, rfl⟩
    go_wp2_with fail
    refine (AW.out w1).mono ?_
    rintro e w2 ⟨rfl, hb2⟩
    have B2 := hid (B1.out.trans (hb2.mono B1.out.size))
    clear hb2
    go_wp2_with fail
    go_ret
    exact ⟨rfl, B2.out⟩

set_option maxHeartbeats 600000 in
theorem smallest_law (n : Int) (a : Option Addr) (len cap : Nat) (w : World) (h : Arg w a len cap) :
    Calls Try.prog 5 #[.int .i64 n, .slice a len cap] w fun e w' => e = .returned (.bool true) ∧ Below w.heap.size w w' := by
  have AW := hid awake_any
  by_cases hf : n ≤ 8 ∧ len ≤ 12
  · obtain ⟨xs, hxl, hr⟩ := h (by omega)
    have FY := hid (fun (W : World) (hb : Below w.heap.size w W) => few_yes n xs _ W (hr.below hb) hf.1 (by omega))
    have L44 := hid (show xs.length < 17592186044416 by omega)
    have L45 := hid (show xs.length ≤ 35184372088832 by omega)
    have A0 := hid (fun (W : World) (hb : Below w.heap.size w W) => clone_any xs _ W (hr.below hb) L44.out)
    have A1 := hid (fun (v : Value) (W : World) (hv : RdE enc W v xs) => smallest_any n xs v W hv)
    have A2 := hid (fun (W : World) (hb : Below w.heap.size w W) => refSmallest_any n xs _ W (hr.below hb))
    clear hr hxl h hf
    generalize smallE n xs = r at *
    generalize smallS n xs = s at *
    have e1 : (r == r) = true := by simp
    have e2 : (s == s) = true := by simp
    have B0 := hid (Below.refl w.heap.size w)
    go_enter Try.func5, Try.ntmps5
    go_wp2_with fail
    refine (AW.out w).mono ?_
    rintro e w1 ⟨rfl, hb1⟩
    have B1 := hid (B0.out.trans (hb1.mono B0.out.size))
    clear hb1
    go_wp2_with fail
    refine (FY.out _ B1.out).mono ?_
    rintro e w9 ⟨rfl, rfl⟩
    go_wp2_with fail
    refine (A0.out _ B1.out).mono ?_
    rintro e w2 ⟨v2, rfl, hown, hb2⟩
    have R2 := hid (RdE.of_owns hown L45.out)
    clear hown
    have B2 := hid (B1.out.trans (hb2.mono B1.out.size))
    clear hb2
    go_wp2_with fail
    refine (A1.out _ _ R2.out).mono ?_
    rintro e w3 ⟨rfl, hb3⟩
    have B3 := hid (B2.out.trans (hb3.mono B2.out.size))
    clear hb3
    unfold enc
    go_wp2_with fail
    refine (A2.out _ B3.out).mono ?_
    rintro e w4 ⟨rfl, hb4⟩
    have B4 := hid (B3.out.trans (hb4.mono B3.out.size))
    clear hb4
    unfold enc
    go_wp2_with fail
    go_ret
    exact ⟨ret_bool (by simp), B4.out⟩
  · clear h
    have B0 := hid (Below.refl w.heap.size w)
    go_enter Try.func5, Try.ntmps5
    go_wp2_with fail
    refine (AW.out w).mono ?_
    rintro e w1 ⟨rfl, hb1⟩
    have B1 := hid (B0.out.trans (hb1.mono B0.out.size))
    clear hb1
    go_wp2_with fail
    refine (few_no n a len cap _ hf).mono ?_
    rintro e w9 ⟨rfl, rfl⟩
    go_wp2_with fail
    refine (AW.out w1).mono ?_
    rintro e w2 ⟨rfl, hb2⟩
    have B2 := hid (B1.out.trans (hb2.mono B1.out.size))
    clear hb2
    go_wp2_with fail
    go_ret
    exact ⟨rfl, B2.out⟩

set_option maxHeartbeats 600000 in
theorem reduce_law (n : Int) (a : Option Addr) (len cap : Nat) (w : World) (h : Arg w a len cap) :
    Calls Try.prog 7 #[.int .i64 n, .slice a len cap] w fun e w' => e = .returned (.bool true) ∧ Below w.heap.size w w' := by
  have AW := hid awake_any
  by_cases hf : n ≤ 8 ∧ len ≤ 12
  · obtain ⟨xs, hxl, hr⟩ := h (by omega)
    have FY := hid (fun (W : World) (hb : Below w.heap.size w W) => few_yes n xs _ W (hr.below hb) hf.1 (by omega))
    have L44 := hid (show xs.length < 17592186044416 by omega)
    have L45 := hid (show xs.length ≤ 35184372088832 by omega)
    have A0 := hid (fun (W : World) (hb : Below w.heap.size w W) => clone_any xs _ W (hr.below hb) L44.out)
    have A1 := hid (fun (v : Value) (W : World) (hv : RdE enc W v xs) => reduce_any xs v W hv L44.out)
    have A2 := hid (fun (W : World) (hb : Below w.heap.size w W) => refReduce_any xs _ W (hr.below hb) L44.out)
    have A3 := hid (fun (W : World) (hb : Below w.heap.size w W) => allW n xs _ W (hr.below hb))
    have A4 := hid (fun (v : Value) (W : World) (hv : RdE enc W v (redS xs)) => allW n (redS xs) v W hv)
    have LR := hid (show (redS xs).length ≤ 35184372088832 from Nat.le_trans (redS_length xs) (by omega))
    by_cases hval : validS n xs = 0
    · have e3 : resS n xs = allS xs := by unfold resS; rw [if_pos hval]
      have e4 : resS n (redS xs) = allS xs := by unfold resS; rw [if_pos (valid_red hval), allS_red]
      rw [hval, e3] at A3
      rw [valid_red hval, e4] at A4
      clear hr hxl h hf hval e3 e4
      generalize redS xs = rs at *
      generalize allS xs = l at *
      have B0 := hid (Below.refl w.heap.size w)
      go_enter Try.func7, Try.ntmps7
      go_wp2_with fail
      refine (AW.out w).mono ?_
      rintro e w1 ⟨rfl, hb1⟩
      have B1 := hid (B0.out.trans (hb1.mono B0.out.size))
      clear hb1
      go_wp2_with fail
      refine (FY.out _ B1.out).mono ?_
      rintro e w9 ⟨rfl, rfl⟩
      go_wp2_with fail
      refine (A0.out _ B1.out).mono ?_
      rintro e w2 ⟨v2, rfl, hown, hb2⟩
      have R2 := hid (RdE.of_owns hown L45.out)
      clear hown
      have B2 := hid (B1.out.trans (hb2.mono B1.out.size))
      clear hb2
      go_wp2_with fail
      refine (A1.out _ _ R2.out).mono ?_
      rintro e w3 ⟨v3, rfl, hown, hb3⟩
      have R3 := hid (RdE.of_owns hown LR.out)
      clear hown
      have B3 := hid (B2.out.trans (hb3.mono B2.out.size))
      clear hb3
      go_wp2_with fail
      refine (A2.out _ B3.out).mono ?_
      rintro e w4 ⟨v4, rfl, hown, hb4⟩
      have R4 := hid (RdE.of_owns hown LR.out)
      have Q4 := hid (R3.out.below hb4)
      clear hown
      have B4 := hid (B3.out.trans (hb4.mono B3.out.size))
      clear hb4
      go_wp2_with fail
      refine (same_true rs _ _ _ Q4.out R4.out).mono ?_
      rintro e w5 ⟨rfl, hb5⟩
      have Q5 := hid (Q4.out.below hb5)
      have B5 := hid (B4.out.trans (hb5.mono B4.out.size))
      clear hb5
      go_wp2_with fail
      refine (A3.out _ B5.out).mono ?_
      rintro e w6 ⟨v6, rfl, hown, hl, hb6⟩
      have R6 := hid (RdE.of_owns hown (by omega))
      have Q6 := hid (Q5.out.below hb6)
      clear hown hl
      have B6 := hid (B5.out.trans (hb6.mono B5.out.size))
      clear hb6
      go_wp2_with fail
      refine (A4.out _ _ Q6.out).mono ?_
      rintro e w7 ⟨v7, rfl, hown, hl, hb7⟩
      have R7 := hid (RdE.of_owns hown (by omega))
      have Q7 := hid (R6.out.below hb7)
      clear hown hl
      have B7 := hid (B6.out.trans (hb7.mono B6.out.size))
      clear hb7
      go_wp2_with fail
      refine (same_true l _ _ _ Q7.out R7.out).mono ?_
      rintro e w8 ⟨rfl, hb8⟩
      have B8 := hid (B7.out.trans (hb8.mono B7.out.size))
      clear hb8
      go_wp2_with fail
      go_ret
      exact ⟨rfl, B8.out⟩
    · have e3 : resS n xs = [] := by unfold resS; rw [if_neg hval]
      have hne : (validS n xs != 0) = true := by simpa using hval
      clear hr hxl h hf hval e3
      have A5 := hid (fun (v : Value) (W : World) (hv : RdE enc W v (redS xs)) => A4.out v W hv)
      generalize redS xs = rs at *
      generalize validS n xs = r at *
      generalize validS n rs = r2 at *
      generalize resS n xs = l at *
      generalize resS n rs = l2 at *
      have B0 := hid (Below.refl w.heap.size w)
      go_enter Try.func7, Try.ntmps7
      go_wp2_with fail
      refine (AW.out w).mono ?_
      rintro e w1 ⟨rfl, hb1⟩
      have B1 := hid (B0.out.trans (hb1.mono B0.out.size))
      clear hb1
      go_wp2_with fail
      refine (FY.out _ B1.out).mono ?_
      rintro e w9 ⟨rfl, rfl⟩
      go_wp2_with fail
      refine (A0.out _ B1.out).mono ?_
      rintro e w2 ⟨v2, rfl, hown, hb2⟩
      have R2 := hid (RdE.of_owns hown L45.out)
      clear hown
      have B2 := hid (B1.out.trans (hb2.mono B1.out.size))
      clear hb2
      go_wp2_with fail
      refine (A1.out _ _ R2.out).mono ?_
      rintro e w3 ⟨v3, rfl, hown, hb3⟩
      have R3 := hid (RdE.of_owns hown LR.out)
      clear hown
      have B3 := hid (B2.out.trans (hb3.mono B2.out.size))
      clear hb3
      go_wp2_with fail
      refine (A2.out _ B3.out).mono ?_
      rintro e w4 ⟨v4, rfl, hown, hb4⟩
      have R4 := hid (RdE.of_owns hown LR.out)
      have Q4 := hid (R3.out.below hb4)
      clear hown
      have B4 := hid (B3.out.trans (hb4.mono B3.out.size))
      clear hb4
      go_wp2_with fail
      refine (same_true rs _ _ _ Q4.out R4.out).mono ?_
      rintro e w5 ⟨rfl, hb5⟩
      have Q5 := hid (Q4.out.below hb5)
      have B5 := hid (B4.out.trans (hb5.mono B4.out.size))
      clear hb5
      go_wp2_with fail
      refine (A3.out _ B5.out).mono ?_
      rintro e w6 ⟨v6, rfl, hown, hl, hb6⟩
      have Q6 := hid (Q5.out.below hb6)
      clear hown hl
      have B6 := hid (B5.out.trans (hb6.mono B5.out.size))
      clear hb6
      go_wp2_with fail
      refine (A5.out _ _ Q6.out).mono ?_
      rintro e w7 ⟨v7, rfl, hown, hl, hb7⟩
      clear hown hl
      have B7 := hid (B6.out.trans (hb7.mono B6.out.size))
      clear hb7
      go_wp2_with fail
      go_ret
      exact ⟨rfl, B7.out⟩
  · clear h
    have B0 := hid (Below.refl w.heap.size w)
    go_enter Try.func7, Try.ntmps7
    go_wp2_with fail
    refine (AW.out w).mono ?_
    rintro e w1 ⟨rfl, hb1⟩
    have B1 := hid (B0.out.trans (hb1.mono B0.out.size))
    clear hb1
    go_wp2_with fail
    refine (few_no n a len cap _ hf).mono ?_
    rintro e w9 ⟨rfl, rfl⟩
    go_wp2_with fail
    refine (AW.out w1).mono ?_
    rintro e w2 ⟨rfl, hb2⟩
    have B2 := hid (B1.out.trans (hb2.mono B1.out.size))
    clear hb2
    go_wp2_with fail
    go_ret
    exact ⟨rfl, B2.out⟩

set_option maxHeartbeats 600000 in
theorem dual_law (n : Int) (a : Option Addr) (len cap : Nat) (a2 : Option Addr) (len2 cap2 : Nat) (w : World) (h : Arg w a len cap) (h2 : Arg w a2 len2 cap2) :
    Calls Try.prog 6 #[.int .i64 n, .slice a len cap, .slice a2 len2 cap2] w fun e w' => e = .returned (.bool true) ∧ Below w.heap.size w w' := by
  have AW := hid awake_any
  by_cases hf : n ≤ 8 ∧ len ≤ 12
  · obtain ⟨xs, hxl, hr⟩ := h (by omega)
    have FY := hid (fun (W : World) (hb : Below w.heap.size w W) => few_yes n xs _ W (hr.below hb) hf.1 (by omega))
    have L44 := hid (show xs.length < 17592186044416 by omega)
    have L45 := hid (show xs.length ≤ 35184372088832 by omega)
    have A0 := hid (fun (W : World) (hb : Below w.heap.size w W) => clone_any xs _ W (hr.below hb) L44.out)
    by_cases h40 : len2 ≤ 40
    · obtain ⟨sets, hsl, hs⟩ := h2 (by omega)
      have L46 := hid (show sets.length ≤ 35184372088832 by omega)
      have A1 := hid (fun (W : World) (hb : Below w.heap.size w W) => clone_any sets _ W (hs.below hb) (by omega))
      have A2 := hid (fun (v u : Value) (W : World) (hv : RdE enc W v xs) (hu : RdE enc W u sets) => dual_any n xs sets v u W hv hu)
      have A3 := hid (fun (W : World) (hb : Below w.heap.size w W) => refAllW n xs _ W (hr.below hb))
      have A4 := hid (fun (W : World) (hb : Below w.heap.size w W) => refOrder_any sets _ W (hs.below hb) (by omega))
      have A5 := hid (fun (d : S) (W : World) (hb : Below w.heap.size w W) => witness_any n xs sets d _ _ W (hr.below hb) (hs.below hb))
      have hle : ¬ 20000 < sets.length := by omega
      by_cases hval : validS n xs = 0
      · have e3 : resS n xs = allS xs := by unfold resS; rw [if_pos hval]
        have hD : ∀ d ok, DualP n xs sets d ok → (ok = true ∧ d = 0#32 ∧ ∀ s, s ∈ sets ↔ s ∈ allS xs) ∨ (ok = false ∧ witS n xs sets d = true ∧ ¬ (d ∈ allS xs ↔ d ∈ sets)) := fun d ok hd => by
          unfold DualP at hd
          rw [if_neg (by rw [hval]; simp; omega)] at hd
          rcases hd with hd | ⟨h1, h2⟩
          · exact .inl hd
          · exact .inr ⟨h1, wit_true hval h2, h2⟩
        have HD := hid hD
        have HO := hid ((allS_ord xs).1)
        rw [hval, e3] at A3
        clear hr hxl h hf hval e3 hD hs hsl h2 hle
        generalize allS xs = l at *
        have B0 := hid (Below.refl w.heap.size w)
        go_enter Try.func6, Try.ntmps6
        go_wp2_with fail
        refine (AW.out w).mono ?_
        rintro e w1 ⟨rfl, hb1⟩
        have B1 := hid (B0.out.trans (hb1.mono B0.out.size))
        clear hb1
        go_wp2_with fail
        refine (FY.out _ B1.out).mono ?_
        rintro e w9 ⟨rfl, rfl⟩
        go_wp2_with fail
        refine (A0.out _ B1.out).mono ?_
        rintro e w2 ⟨v2, rfl, hown, hb2⟩
        have R2 := hid (RdE.of_owns hown L45.out)
        clear hown
        have B2 := hid (B1.out.trans (hb2.mono B1.out.size))
        clear hb2
        go_wp2_with fail
        refine (A1.out _ B2.out).mono ?_
        rintro e w3 ⟨v3, rfl, hown, hb3⟩
        have R3 := hid (RdE.of_owns hown L46.out)
        have Q3 := hid (R2.out.below hb3)
        clear hown
        have B3 := hid (B2.out.trans (hb3.mono B2.out.size))
        clear hb3
        go_wp2_with fail
        refine (A2.out _ _ _ Q3.out R3.out).mono ?_
        rintro e w4 ⟨⟨d, ok, rfl, hdp⟩, hb4⟩
        have B4 := hid (B3.out.trans (hb4.mono B3.out.size))
        clear hb4
        rcases HD.out d ok hdp with ⟨rfl, rfl, hall⟩ | ⟨rfl, hwit, hnot⟩
        · have hall2 := hid hall
          clear hdp hall
          unfold enc
          rw [iv_zero]
          go_wp2_with fail
          refine (A3.out _ B4.out).mono ?_
          rintro e w5 ⟨v5, rfl, hown, hl, hb5⟩
          have R5 := hid (RdE.of_owns hown (by omega))
          clear hown hl
          have B5 := hid (B4.out.trans (hb5.mono B4.out.size))
          clear hb5
          go_wp2_with fail
          refine (A4.out _ B5.out).mono ?_
          rintro e w6 ⟨v6, ys, rfl, hown, hord, hl, hb6⟩
          have hys : ys = l := sorted_uniq ys l hord.1 HO.out (fun s => (hord.2 s).trans (hall2.out s))
          subst hys
          have HL6 := hid (show ys.length ≤ 35184372088832 from Nat.le_trans hl L46.out)
          have R6 := hid (RdE.of_owns hown HL6.out)
          have Q6 := hid (R5.out.below hb6)
          clear hown hl hord
          have B6 := hid (B5.out.trans (hb6.mono B5.out.size))
          clear hb6
          go_wp2_with fail
          refine (same_true ys _ _ _ R6.out Q6.out).mono ?_
          rintro e w7 ⟨rfl, hb7⟩
          have B7 := hid (B6.out.trans (hb7.mono B6.out.size))
          clear hb7
          go_wp2_with fail
          go_ret
          exact ⟨rfl, B7.out⟩
        · have HN := hid hnot
          have HW := hid hwit
          clear hdp hwit hnot
          unfold enc
          go_wp2_with fail
          refine (A3.out _ B4.out).mono ?_
          rintro e w5 ⟨v5, rfl, hown, hl, hb5⟩
          have R5 := hid (RdE.of_owns hown (by omega))
          clear hown hl
          have B5 := hid (B4.out.trans (hb5.mono B4.out.size))
          clear hb5
          go_wp2_with fail
          refine (A4.out _ B5.out).mono ?_
          rintro e w6 ⟨v6, ys, rfl, hown, hord, hl, hb6⟩
          have hne : decide (ys = l) = false := decide_eq_false (fun e => HN.out (by rw [← e]; exact hord.2 d))
          have HNE := hid hne
          have HL6 := hid (show ys.length ≤ 35184372088832 from Nat.le_trans hl L46.out)
          have R6 := hid (RdE.of_owns hown HL6.out)
          have Q6 := hid (R5.out.below hb6)
          have S6 := hid (sameB ys l _ _ _ R6.out Q6.out)
          rw [hne] at S6
          clear hown hl hord hne
          have B6 := hid (B5.out.trans (hb6.mono B5.out.size))
          clear hb6
          go_wp2_with fail
          refine (S6.out).mono ?_
          rintro e w7 ⟨rfl, hb7⟩
          have B7 := hid (B6.out.trans (hb7.mono B6.out.size))
          clear hb7
          go_wp2_with fail
          refine (A5.out d _ B7.out).mono ?_
          rw [HW.out]
          rintro e w9 ⟨rfl, rfl⟩
          go_wp2_with fail
          go_ret
          exact ⟨rfl, B7.out⟩
      · have hne : (validS n xs != 0) = true := by simpa using hval
        have hD : ∀ d ok, DualP n xs sets d ok → d = 0#32 ∧ ok = false := fun d ok hd => by
          unfold DualP at hd
          rwa [if_pos (.inl hval)] at hd
        have HD := hid hD
        clear hr hxl h hf hval hD hs hsl h2 hle
        have A6 := hid (fun (v u : Value) (W : World) (hv : RdE enc W v xs) (hu : RdE enc W u sets) => (A2.out v u W hv hu).mono (fun e w' (he : DualE n xs sets e ∧ _) => (show e = .returned (.tuple #[.int .u32 0, .bool false]) ∧ Below W.heap.size W w' from by
          obtain ⟨⟨d, ok, rfl, hd⟩, hb⟩ := he
          obtain ⟨rfl, rfl⟩ := HD.out d ok hd
          exact ⟨rfl, hb⟩)))
        clear A2 HD
        generalize validS n xs = r at *
        generalize resS n xs = l at *
        have B0 := hid (Below.refl w.heap.size w)
        go_enter Try.func6, Try.ntmps6
        go_wp2_with fail
        refine (AW.out w).mono ?_
        rintro e w1 ⟨rfl, hb1⟩
        have B1 := hid (B0.out.trans (hb1.mono B0.out.size))
        clear hb1
        go_wp2_with fail
        refine (FY.out _ B1.out).mono ?_
        rintro e w9 ⟨rfl, rfl⟩
        go_wp2_with fail
        refine (A0.out _ B1.out).mono ?_
        rintro e w2 ⟨v2, rfl, hown, hb2⟩
        have R2 := hid (RdE.of_owns hown L45.out)
        clear hown
        have B2 := hid (B1.out.trans (hb2.mono B1.out.size))
        clear hb2
        go_wp2_with fail
        refine (A1.out _ B2.out).mono ?_
        rintro e w3 ⟨v3, rfl, hown, hb3⟩
        have R3 := hid (RdE.of_owns hown L46.out)
        have Q3 := hid (R2.out.below hb3)
        clear hown
        have B3 := hid (B2.out.trans (hb3.mono B2.out.size))
        clear hb3
        go_wp2_with fail
        refine (A6.out _ _ _ Q3.out R3.out).mono ?_
        rintro e w4 ⟨rfl, hb4⟩
        have B4 := hid (B3.out.trans (hb4.mono B3.out.size))
        clear hb4
        go_wp2_with fail
        refine (A3.out _ B4.out).mono ?_
        rintro e w5 ⟨v5, rfl, hown, hl, hb5⟩
        clear hown hl
        have B5 := hid (B4.out.trans (hb5.mono B4.out.size))
        clear hb5
        go_wp2_with fail
        go_ret
        exact ⟨rfl, B5.out⟩
    · have hl2 : 40 < len2 := by omega
      clear h h2 h40 hr
      have B0 := hid (Below.refl w.heap.size w)
      go_enter Try.func6, Try.ntmps6
      go_wp2_with fail
      refine (AW.out w).mono ?_
      rintro e w1 ⟨rfl, hb1⟩
      have B1 := hid (B0.out.trans (hb1.mono B0.out.size))
      clear hb1
      go_wp2_with fail
      refine (FY.out _ B1.out).mono ?_
      rintro e w9 ⟨rfl, rfl⟩
      go_wp2_with fail
      refine (AW.out w1).mono ?_
      rintro e w2 ⟨rfl, hb2⟩
      have B2 := hid (B1.out.trans (hb2.mono B1.out.size))
      clear hb2
      go_wp2_with fail
      go_ret
      exact ⟨rfl, B2.out⟩
  · clear h h2
    have B0 := hid (Below.refl w.heap.size w)
    go_enter Try.func6, Try.ntmps6
    go_wp2_with fail
    refine (AW.out w).mono ?_
    rintro e w1 ⟨rfl, hb1⟩
    have B1 := hid (B0.out.trans (hb1.mono B0.out.size))
    clear hb1
    go_wp2_with fail
    refine (few_no n a len cap _ hf).mono ?_
    rintro e w9 ⟨rfl, rfl⟩
    go_wp2_with fail
    refine (AW.out w1).mono ?_
    rintro e w2 ⟨rfl, hb2⟩
    have B2 := hid (B1.out.trans (hb2.mono B1.out.size))
    clear hb2
    go_wp2_with fail
    go_ret
    exact ⟨rfl, B2.out⟩

set_option maxHeartbeats 600000 in
theorem twice_law (n : Int) (a : Option Addr) (len cap : Nat) (w : World) (h : Arg w a len cap) :
    Calls Try.prog 8 #[.int .i64 n, .slice a len cap] w fun e w' => e = .returned (.bool true) ∧ Below w.heap.size w w' := by
  have AW := hid awake_any
  by_cases hf : n ≤ 8 ∧ len ≤ 12
  · obtain ⟨xs, hxl, hr⟩ := h (by omega)
    have FY := hid (fun (W : World) (hb : Below w.heap.size w W) => few_yes n xs _ W (hr.below hb) hf.1 (by omega))
    have L44 := hid (show xs.length < 17592186044416 by omega)
    have L45 := hid (show xs.length ≤ 35184372088832 by omega)
    have A0 := hid (fun (W : World) (hb : Below w.heap.size w W) => refValid_any n xs _ W (hr.below hb))
    by_cases hval : validS n xs = 0
    · have e3 : resS n xs = allS xs := by unfold resS; rw [if_pos hval]
      have A1 := hid (fun (W : World) (hb : Below w.heap.size w W) => allW n xs _ W (hr.below hb))
      rw [hval] at A0
      rw [hval, e3] at A1
      by_cases h200 : (allS xs).length ≤ 200
      · have hv2 := valid_all hval h200
        have A2 := hid (fun (v : Value) (W : World) (hv : RdE enc W v (allS xs)) => allW n (allS xs) v W hv)
        have e4 : resS n (allS xs) = redS xs := by unfold resS; rw [if_pos hv2, allS_all]
        rw [hv2, e4] at A2
        have A3 := hid (fun (v : Value) (W : World) (hv : RdE enc W v (allS xs)) (hb : Below w.heap.size w W) => dual_any n (allS xs) xs v _ W hv (hr.below hb))
        have A4 := hid (fun (W : World) (hb : Below w.heap.size w W) => refReduce_any xs _ W (hr.below hb) L44.out)
        have A5 := hid (fun (W : World) (hb : Below w.heap.size w W) => refOrder_any xs _ W (hr.below hb) L44.out)
        have A6 := hid (fun (v : Value) (d : S) (W : World) (hv : RdE enc W v (allS xs)) (hb : Below w.heap.size w W) => witness_any n (allS xs) xs d v _ W hv (hr.below hb))
        have hD : ∀ d ok, DualP n (allS xs) xs d ok → (ok = true ∧ d = 0#32 ∧ ∀ s, s ∈ xs ↔ s ∈ redS xs) ∨ (ok = false ∧ witS n (allS xs) xs d = true ∧ ¬ (d ∈ redS xs ↔ d ∈ xs)) := fun d ok hd => by
          unfold DualP at hd
          rw [if_neg (by rw [hv2]; simp; omega), allS_all] at hd
          rcases hd with hd | ⟨h1, h2⟩
          · exact .inl hd
          · exact .inr ⟨h1, wit_true hv2 (by rw [allS_all]; exact h2), h2⟩
        have HD := hid hD
        have HO := hid ((redS_ord xs).1)
        have LR := hid (show (redS xs).length ≤ 35184372088832 from Nat.le_trans (redS_length xs) L45.out)
        clear hr hxl h hf hval e3 e4 hD hv2
        generalize redS xs = rs at *
        generalize allS xs = l at *
        have B0 := hid (Below.refl w.heap.size w)
        go_enter Try.func8, Try.ntmps8
        go_wp2_with fail
        refine (AW.out w).mono ?_
        rintro e w1 ⟨rfl, hb1⟩
        have B1 := hid (B0.out.trans (hb1.mono B0.out.size))
        clear hb1
        go_wp2_with fail
        refine (FY.out _ B1.out).mono ?_
        rintro e w9 ⟨rfl, rfl⟩
        go_wp2_with fail
        refine (A0.out _ B1.out).mono ?_
        rintro e w2 ⟨rfl, hb2⟩
        have B2 := hid (B1.out.trans (hb2.mono B1.out.size))
        clear hb2
        go_wp2_with fail
        refine (A1.out _ B2.out).mono ?_
        rintro e w3 ⟨v3, rfl, hown, hl, hb3⟩
        have R3 := hid (RdE.of_owns hown (by omega))
        clear hown hl
        have B3 := hid (B2.out.trans (hb3.mono B2.out.size))
        clear hb3
        obtain ⟨ao3, cap3, hv3, -⟩ := R3.out
        subst hv3
        go_wp2_with fail
        refine (A2.out _ _ R3.out).mono ?_
        rintro e w4 ⟨v4, rfl, hown, hl, hb4⟩
        have R4 := hid (RdE.of_owns hown LR.out)
        have Q4 := hid (R3.out.below hb4)
        clear hown hl
        have B4 := hid (B3.out.trans (hb4.mono B3.out.size))
        clear hb4
        go_wp2_with fail
        refine (A3.out _ _ Q4.out B4.out).mono ?_
        rintro e w5 ⟨⟨d, ok, rfl, hdp⟩, hb5⟩
        have Q5 := hid (Q4.out.below hb5)
        have R5 := hid (R4.out.below hb5)
        have B5 := hid (B4.out.trans (hb5.mono B4.out.size))
        clear hb5
        rcases HD.out d ok hdp with ⟨rfl, rfl, hall⟩ | ⟨rfl, hwit, hnot⟩
        · have hall2 := hid hall
          clear hdp hall
          unfold enc
          go_wp2_with fail
          refine (A4.out _ B5.out).mono ?_
          rintro e w6 ⟨v6, rfl, hown, hb6⟩
          have R6 := hid (RdE.of_owns hown LR.out)
          have Q6 := hid (R5.out.below hb6)
          clear hown
          have B6 := hid (B5.out.trans (hb6.mono B5.out.size))
          clear hb6
          go_wp2_with fail
          refine (same_true rs _ _ _ Q6.out R6.out).mono ?_
          rintro e w7 ⟨rfl, hb7⟩
          have Q7 := hid (Q6.out.below hb7)
          have B7 := hid (B6.out.trans (hb7.mono B6.out.size))
          clear hb7
          go_wp2_with fail
          refine (A5.out _ B7.out).mono ?_
          rintro e w8 ⟨v8, ys, rfl, hown, hord, hl, hb8⟩
          have hys : ys = rs := sorted_uniq ys rs hord.1 HO.out (fun s => (hord.2 s).trans (hall2.out s))
          subst hys
          have R8 := hid (RdE.of_owns hown LR.out)
          have Q8 := hid (Q7.out.below hb8)
          clear hown hl hord
          have B8 := hid (B7.out.trans (hb8.mono B7.out.size))
          clear hb8
          go_wp2_with fail
          refine (same_true ys _ _ _ R8.out Q8.out).mono ?_
          rintro e w9 ⟨rfl, hb9⟩
          have B9 := hid (B8.out.trans (hb9.mono B8.out.size))
          clear hb9
          go_wp2_with fail
          go_ret
          exact ⟨rfl, B9.out⟩
        · have HN := hid hnot
          have HW := hid hwit
          clear hdp hwit hnot
          unfold enc
          go_wp2_with fail
          refine (A4.out _ B5.out).mono ?_
          rintro e w6 ⟨v6, rfl, hown, hb6⟩
          have R6 := hid (RdE.of_owns hown LR.out)
          have Q6 := hid (R5.out.below hb6)
          have P6 := hid (Q5.out.below hb6)
          clear hown
          have B6 := hid (B5.out.trans (hb6.mono B5.out.size))
          clear hb6
          go_wp2_with fail
          refine (same_true rs _ _ _ Q6.out R6.out).mono ?_
          rintro e w7 ⟨rfl, hb7⟩
          have Q7 := hid (Q6.out.below hb7)
          have P7 := hid (P6.out.below hb7)
          have B7 := hid (B6.out.trans (hb7.mono B6.out.size))
          clear hb7
          go_wp2_with fail
          refine (A5.out _ B7.out).mono ?_
          rintro e w8 ⟨v8, ys, rfl, hown, hord, hl, hb8⟩
          have hne : decide (ys = rs) = false := decide_eq_false (fun e => HN.out (by rw [← e]; exact hord.2 d))
          have HL8 := hid (show ys.length ≤ 35184372088832 from Nat.le_trans hl L45.out)
          have R8 := hid (RdE.of_owns hown HL8.out)
          have Q8 := hid (Q7.out.below hb8)
          have P8 := hid (P7.out.below hb8)
          have S8 := hid (sameB ys rs _ _ _ R8.out Q8.out)
          rw [hne] at S8
          clear hown hl hord hne
          have B8 := hid (B7.out.trans (hb8.mono B7.out.size))
          clear hb8
          go_wp2_with fail
          refine (S8.out).mono ?_
          rintro e w9 ⟨rfl, hb9⟩
          have P9 := hid (P8.out.below hb9)
          have B9 := hid (B8.out.trans (hb9.mono B8.out.size))
          clear hb9
          go_wp2_with fail
          refine (A6.out _ d _ P9.out B9.out).mono ?_
          rw [HW.out]
          rintro e wx ⟨rfl, rfl⟩
          go_wp2_with fail
          go_ret
          exact ⟨rfl, B9.out⟩
      · have h201 : 200 < (allS xs).length := by omega
        clear hr hxl h hf hval e3 h200
        generalize allS xs = l at *
        have B0 := hid (Below.refl w.heap.size w)
        go_enter Try.func8, Try.ntmps8
        go_wp2_with fail
        refine (AW.out w).mono ?_
        rintro e w1 ⟨rfl, hb1⟩
        have B1 := hid (B0.out.trans (hb1.mono B0.out.size))
        clear hb1
        go_wp2_with fail
        refine (FY.out _ B1.out).mono ?_
        rintro e w9 ⟨rfl, rfl⟩
        go_wp2_with fail
        refine (A0.out _ B1.out).mono ?_
        rintro e w2 ⟨rfl, hb2⟩
        have B2 := hid (B1.out.trans (hb2.mono B1.out.size))
        clear hb2
        go_wp2_with fail
        refine (A1.out _ B2.out).mono ?_
        rintro e w3 ⟨v3, rfl, hown, hl, hb3⟩
        have R3 := hid (RdE.of_owns hown (by omega))
        clear hown hl
        have B3 := hid (B2.out.trans (hb3.mono B2.out.size))
        clear hb3
        obtain ⟨ao3, cap3, hv3, -⟩ := R3.out
        subst hv3
        go_wp2_with fail
        go_ret
        exact ⟨rfl, B3.out⟩
    · have hne : (validS n xs != 0) = true := by simpa using hval
      clear hr hxl h hf hval
      generalize validS n xs = r at *
      have B0 := hid (Below.refl w.heap.size w)
      go_enter Try.func8, Try.ntmps8
      go_wp2_with fail
      refine (AW.out w).mono ?_
      rintro e w1 ⟨rfl, hb1⟩
      have B1 := hid (B0.out.trans (hb1.mono B0.out.size))
      clear hb1
      go_wp2_with fail
      refine (FY.out _ B1.out).mono ?_
      rintro e w9 ⟨rfl, rfl⟩
      go_wp2_with fail
      refine (A0.out _ B1.out).mono ?_
      rintro e w2 ⟨rfl, hb2⟩
      have B2 := hid (B1.out.trans (hb2.mono B1.out.size))
      clear hb2
      go_wp2_with fail
      refine (AW.out w2).mono ?_
      rintro e w3 ⟨rfl, hb3⟩
      have B3 := hid (B2.out.trans (hb3.mono B2.out.size))
      clear hb3
      go_wp2_with fail
      go_ret
      exact ⟨rfl, B3.out⟩
  · clear h
    have B0 := hid (Below.refl w.heap.size w)
    go_enter Try.func8, Try.ntmps8
    go_wp2_with fail
    refine (AW.out w).mono ?_
    rintro e w1 ⟨rfl, hb1⟩
    have B1 := hid (B0.out.trans (hb1.mono B0.out.size))
    clear hb1
    go_wp2_with fail
    refine (few_no n a len cap _ hf).mono ?_
    rintro e w9 ⟨rfl, rfl⟩
    go_wp2_with fail
    refine (AW.out w1).mono ?_
    rintro e w2 ⟨rfl, hb2⟩
    have B2 := hid (B1.out.trans (hb2.mono B1.out.size))
    clear hb2
    go_wp2_with fail
    go_ret
    exact ⟨rfl, B2.out⟩

end Go.Proofs.Ytpjcdiffigeajaa
