/- The laws of chapter 11 over described lists: Certified, Every. -/
import Derived.Test.YtciamnkalmihcaaLaws11b
import Derived.OneCell
namespace Go.Proofs.Ytciamnkalmihcaa
open Go.RowKit

attribute [local irreducible] Go.wpQuiet

set_option maxHeartbeats 1600000 in
set_option maxRecDepth 100000 in
theorem kCertifiedL (n : U8) (u : Value) (s : S) (w : World) (h : ArgC cD w u) (hs : SizeLe u 1048576) :
    Calls Try.prog 7 #[.agg #[enc8 n, u], .int .u32 (iv s)] w fun e w' => e = .returned (.bool true) ∧ Below w.heap.size w w' := by
  have AW := hid (fun (W : World) => awake11_any W)
  obtain ⟨ao, len, cap, rfl, h⟩ := h
  have hlen := hs _ _ _ rfl
  obtain ⟨ds, hdl, hr⟩ := h (by omega)
  clear hs h
  obtain ⟨w0, hw0⟩ : ∃ w0 : World, w.alloc (.cells #[enc8 n, .slice ao len cap] 41) = w0 := ⟨_, rfl⟩
  have hb0 : Below w.heap.size w w0 := by rw [← hw0]; exact below_alloc _ _
  have B0 := hid hb0
  have OF := hid (of_any n _ ds w0 (hr.below hb0) (by omega))
  have W0 := hid hw0
  have hfl := listF_length (fullN (n.toNat % 7)) ds
  have hk6 : n.toNat % 7 ≤ 6 := by omega
  have hw2 := w2_list (fullN (n.toNat % 7)) ds
  clear hr hw0 hb0
  generalize n.toNat % 7 = k at *
  generalize listF (fullN k) ds = fs at *
  have hfb : fs.length ≤ 1048576 := by omega
  have hf6 : ds.length ≤ 6 → fs.length ≤ 6 := by omega
  clear hfl
  by_cases hl : ds.length ≤ 6
  · rw [decide_eq_true hl] at OF
    have hv := deps_valid hk6 (hf6 hl) hw2
    have hkl := deps_keys_len hk6 hv
    have hal := deps_anti_len hk6 hv
    have C1 := hid (fun (a : Value) (W : World) (ha : RdF W a fs) => kall_any (k : Int) fs a W ha)
    have C2 := hid (fun (a : Value) (W : World) (ha : RdF W a fs) => kanti_any (k : Int) fs a W ha)
    rw [deps_keyR hv, hv] at C1
    rw [deps_antiR hk6 hv, deps_antiE hk6 hv] at C2
    have K1 := hid (fun (a b c : Value) (W : World) (ha : RdF W a fs) (hb : RdE enc W b (keysS (k : Int) fs)) (hc : RdE enc W c (antiS (k : Int) fs)) => kcheck_any (k : Int) fs _ _ a b c W ha hb hc (by omega))
    have K2 := hid (fun (a b c : Value) (W : World) (ha : RdF W a fs) (hb : RdE enc W b (keysS (k : Int) fs ++ [s])) (hc : RdE enc W c (antiS (k : Int) fs)) => kcheck_any (k : Int) fs _ _ a b c W ha hb hc (by simp; omega))
    have K3 := hid (fun (a b c : Value) (W : World) (ha : RdF W a fs) (hb : RdE enc W b ((keysS (k : Int) fs).drop 1)) (hc : RdE enc W c (antiS (k : Int) fs)) => kcheck_any (k : Int) fs _ _ a b c W ha hb hc (by simp; omega))
    rw [cert_true (by omega) hv] at K1
    rw [cert_more (by omega) hv s] at K2
    rw [show certB (k : Int) fs ((keysS (k : Int) fs).drop 1) (antiS (k : Int) fs) = false from (cert_less (n := (k : Int)) (fs := fs)).elim id fun e => absurd e (keys_ne hv)] at K3
    have CO := hid (fun (x : Value) (W : World) (hx : RdE enc W x (keysS (k : Int) fs)) => clone_any _ x W hx (by omega))
    have IN := hid (fun (x : Value) (W : World) (hx : RdE enc W x (keysS (k : Int) fs)) => in_any _ s x W hx)
    have hne : 1 ≤ (keysS (k : Int) fs).length := by
      have := keys_ne hv
      cases hq : keysS (k : Int) fs with
      | nil => exact absurd hq this
      | cons a l => simp
    clear hl hw2 hv
    generalize keysS (k : Int) fs = ks at *
    generalize antiS (k : Int) fs = an at *
    generalize ks.any (· == s) = b at *
    unfold enc8 at *
    simp only [enc_eq] at IN
    have HNE := hid hne
    have hl0 : ((ks.length : Int) == 0) = false := by rw [beq_eq_false_iff_ne]; omega
    have hl1 : (1 : Int) ≤ (ks.length : Int) := by omega
    have hl00 : (ks.length == 0) = false := by rw [beq_eq_false_iff_ne]; omega
    go_enter Try.func7, Try.ntmps7
    go_wp2_with fail
    rw [W0.out]
    refine OF.out.mono ?_
    rintro e w1 ⟨v1, rfl, ho1, hb1⟩
    have B1 := hid (B0.out.trans (hb1.mono B0.out.size))
    have R1 := hid (show RdF w1 v1 fs from RdC.of_owns cF_length ho1 (by omega))
    clear hb1 ho1 OF
    go_wp2_with fail
    refine (AW.out _).mono ?_
    rintro e w2 ⟨rfl, hb2⟩
    have B2 := hid (B1.out.trans (hb2.mono B1.out.size))
    replace R1 := hid (R1.out.below hb2)
    clear hb2
    go_wp2_with fail
    refine (C1.out _ _ R1.out).mono ?_
    rintro e w3 ⟨v3, rfl, hr3, hl3, hb3⟩
    have B3 := hid (B2.out.trans (hb3.mono B2.out.size))
    replace R1 := hid (R1.out.below hb3)
    have R3 := hid hr3
    clear hr3
    clear hb3
    clear hl3
    go_wp2_with fail
    refine (C2.out _ _ R1.out).mono ?_
    rintro e w4 ⟨v4, rfl, hr4, hl4, hb4⟩
    have B4 := hid (B3.out.trans (hb4.mono B3.out.size))
    replace R1 := hid (R1.out.below hb4)
    replace R3 := hid (R3.out.below hb4)
    have R4 := hid hr4
    clear hr4
    clear hb4
    clear hl4
    obtain ⟨ko, kcap, rfl, hkc1, hkc2, hkc3⟩ := R3.out
    obtain ⟨b3, off3, rfl, _, _⟩ := hkc3 (by have := HNE.out; omega)
    clear hkc3
    have i2 : (ks.length : Int) ≤ (kcap : Int) := by omega
    have i3 : (1 : Int) ≤ (kcap : Int) := by have := HNE.out; omega
    have i4 : 1 ≤ kcap := by omega
    go_wp2_with fail
    refine (K1.out _ _ _ _ R1.out R3.out R4.out).mono ?_
    rintro e w5 ⟨rfl, hb5⟩
    have B5 := hid (B4.out.trans (hb5.mono B4.out.size))
    replace R1 := hid (R1.out.below hb5)
    replace R3 := hid (R3.out.below hb5)
    replace R4 := hid (R4.out.below hb5)
    clear hb5
    go_wp2_with fail
    have R35 := hid R3.out
    have R15 := hid R1.out
    have R45 := hid R4.out
    refine (CO.out _ _ R3.out).mono ?_
    rintro e w6 ⟨v6, rfl, ho6, hb6⟩
    have HB6 := hid hb6
    have hs6 := hb6.size
    clear hb6 R1 R3 R4
    go_wp2_with (at_builtin; refine wpList_push rfl _ _ 34 rfl w5.heap.size 24 (.int .u32 0) 4 undSets infoSet rfl (by decide) enc (fun _ => rfl) _ ks rfl (ho6.alloc _) ⟨w6.heap.size, 0, none⟩ s rfl cell_new (by omega) (by simp; omega) ?_)
    intro v' w7 hown' hgrow
    have hb57 := HB6.out.trans (below_push (Below.refl w5.heap.size w6) hs6 ho6 hgrow)
    have B7 := hid (B5.out.trans (hb57.mono B5.out.size))
    have R7 := hid (show RdE enc w7 v' (ks ++ [s]) from RdE.of_owns (by simpa using hown') (by simp; omega))
    have R1 := hid (R15.out.below hb57)
    have R3 := hid (R35.out.below hb57)
    have R4 := hid (R45.out.below hb57)
    clear hb57 hgrow hown' ho6 HB6 R15 R35 R45
    obtain ⟨xo, xcap, rfl⟩ := (show ∃ xo xcap, v' = .slice xo (ks.length + 1) xcap by obtain ⟨xo, xcap, h, -⟩ := R7.out.split; exact ⟨xo, xcap, by rw [h]; simp⟩)
    go_wp2_with fail
    refine (K2.out _ _ _ _ R1.out R7.out R4.out).mono ?_
    rintro e w8 ⟨rfl, hb8⟩
    have B8 := hid (B7.out.trans (hb8.mono B7.out.size))
    replace R1 := hid (R1.out.below hb8)
    replace R3 := hid (R3.out.below hb8)
    replace R4 := hid (R4.out.below hb8)
    clear hb8
    have DR := hid (RdE.drop1 R3.out HNE.out)
    by_cases hcap : kcap = 1
    · rw [if_pos hcap] at DR
      subst hcap
      rw [Nat.sub_self, show ks.length - 1 = 0 by omega] at DR
      go_wp2_with fail
      refine (K3.out _ _ _ _ R1.out DR.out R4.out).mono ?_
      rintro e w9 ⟨rfl, hb9⟩
      have B9 := hid (B8.out.trans (hb9.mono B8.out.size))
      replace R3 := hid (R3.out.below hb9)
      clear hb9
      go_wp2_with fail
      refine (IN.out _ _ R3.out).mono ?_
      rintro e w' ⟨rfl, rfl⟩
      go_wp2_with fail
      go_ret
      exact ⟨ret_bool (by simp), B9.out⟩
    · rw [if_neg hcap] at DR
      go_wp2_with fail
      refine (K3.out _ _ _ _ R1.out DR.out R4.out).mono ?_
      rintro e w9 ⟨rfl, hb9⟩
      have B9 := hid (B8.out.trans (hb9.mono B8.out.size))
      replace R3 := hid (R3.out.below hb9)
      clear hb9
      go_wp2_with fail
      refine (IN.out _ _ R3.out).mono ?_
      rintro e w' ⟨rfl, rfl⟩
      go_wp2_with fail
      go_ret
      exact ⟨ret_bool (by simp), B9.out⟩
  · rw [decide_eq_false hl] at OF
    generalize fullN k = A at *
    unfold enc8 at *
    go_enter Try.func7, Try.ntmps7
    go_wp2_with fail
    rw [W0.out]
    refine OF.out.mono ?_
    rintro e w1 ⟨v1, rfl, ho1, hb1⟩
    have B1 := hid (B0.out.trans (hb1.mono B0.out.size))
    clear hb1 ho1 OF
    go_wp2_with fail
    refine (AW.out _).mono ?_
    rintro e w2 ⟨rfl, hb2⟩
    have B2 := hid (B1.out.trans (hb2.mono B1.out.size))
    clear hb2
    go_wp2_with fail
    refine (AW.out _).mono ?_
    rintro e w3 ⟨rfl, hb3⟩
    have B3 := hid (B2.out.trans (hb3.mono B2.out.size))
    clear hb3
    go_wp2_with fail
    go_ret
    exact ⟨rfl, B3.out⟩



/-! Every. -/
theorem every1_any (s : S) (b : Nat) (x : S) (w : World) (hc : w.cell? ⟨b, 0, none⟩ = some (enc s)) :
    Calls Try.prog 42 (#[enc x] ++ #[.pointer (some ⟨b, 0, none⟩)]) w fun e w' => e = .returned (.bool (x &&& ~~~ s == 0#32)) ∧ w = w' := by
  show Calls Try.prog 42 #[enc x, .pointer (some ⟨b, 0, none⟩)] w _
  unfold enc at hc ⊢
  go_enter Try.func42, Try.ntmps42
  go_wp2
  go_ret
  exact ⟨rfl, rfl⟩
theorem every2_any (s : S) (b : Nat) (x : S) (w : World) (hc : w.cell? ⟨b, 0, none⟩ = some (enc s)) :
    Calls Try.prog 43 (#[enc x] ++ #[.pointer (some ⟨b, 0, none⟩)]) w fun e w' => e = .returned (.bool (s &&& ~~~ x == 0#32)) ∧ w = w' := by
  show Calls Try.prog 43 #[enc x, .pointer (some ⟨b, 0, none⟩)] w _
  unfold enc at hc ⊢
  go_enter Try.func43, Try.ntmps43
  go_wp2
  go_ret
  exact ⟨rfl, rfl⟩
theorem key_has {n : Int} {fs : List F} {s : S} (hs : sub s (fullN n.toNat)) : ((keysS n fs).any fun x => x &&& ~~~ s == 0#32) = supB n fs s := by
  rw [Bool.eq_iff_iff, List.any_eq_true]
  constructor
  · rintro ⟨x, hx, h⟩
    rw [beq_sub', decide_eq_true_iff] at h
    exact supB_mono (keyB_sup (mem_listB.1 hx)) h hs
  · intro h
    obtain ⟨t, h1, h2⟩ := key_in _ s (Nat.le_refl _) h
    exact ⟨t, mem_listB.2 h1, by rw [beq_sub', decide_eq_true_iff]; exact h2⟩
theorem anti_has {n : Int} {fs : List F} (hv : validF n fs = 0) {s : S} (hs : sub s (fullN n.toNat)) : ((antiS n fs).any fun x => s &&& ~~~ x == 0#32) = !supB n fs s := by
  rw [Bool.eq_iff_iff, List.any_eq_true]
  constructor
  · rintro ⟨x, hx, h⟩
    rw [beq_sub', decide_eq_true_iff] at h
    have hx' := antiB_iff.1 (mem_listB.1 hx)
    cases hq : supB n fs s with
    | false => rfl
    | true =>
      have := supB_mono hq h hx'.2.1
      rw [hx'.2.2.1] at this; cases this
  · intro h
    obtain ⟨t, h1, h2⟩ := anti_over hv _ s (Nat.le_refl _) hs (by simpa using h)
    exact ⟨t, mem_listB.2 h1, by rw [beq_sub', decide_eq_true_iff]; exact h2⟩
theorem block_keptK {w W : World} {b : Nat} {o : Obj} (hb : Below w.heap.size w W) (h : w.heap[b]? = some o) : W.heap[b]? = some o :=
  (hb.block b (lt_of_block h)).trans h
theorem cell_keptK {w W : World} {b o : Nat} {v : Value} (hb : Below w.heap.size w W) (h : w.cell? ⟨b, o, none⟩ = some v) : W.cell? ⟨b, o, none⟩ = some v :=
  (hb.cell (p := ⟨b, o, none⟩) (World.block_lt_of_cell? _ _ h)).trans h

set_option maxHeartbeats 1600000 in
set_option maxRecDepth 100000 in
theorem kEveryL (n : U8) (u : Value) (s : S) (w : World) (h : ArgC cD w u) (hs : SizeLe u 1048576) :
    Calls Try.prog 9 #[.agg #[enc8 n, u], .int .u32 (iv s)] w fun e w' => e = .returned (.bool true) ∧ Below w.heap.size w w' := by
  have AW := hid (fun (W : World) => awake11_any W)
  obtain ⟨ao, len, cap, rfl, h⟩ := h
  have hlen := hs _ _ _ rfl
  obtain ⟨ds, hdl, hr⟩ := h (by omega)
  clear hs h
  have b1 := below_alloc w (.cells #[enc8 n, .slice ao len cap] 41)
  have b2 := below_alloc (w.alloc (.cells #[enc8 n, .slice ao len cap] 41)) (.cells #[.int .u32 (iv s)] 24)
  have hb0 := b1.trans (b2.mono b1.size)
  have z1 : (w.alloc (.cells #[enc8 n, .slice ao len cap] 41)).heap.size = w.heap.size + 1 := by simp
  have k2 : ((w.alloc (.cells #[enc8 n, .slice ao len cap] 41)).alloc (.cells #[.int .u32 (iv s)] 24)).heap[(w.alloc (.cells #[enc8 n, .slice ao len cap] 41)).heap.size]? = some (.cells #[.int .u32 (iv s)] 24 (0, 0)) := heap_alloc_new _ _
  rw [z1] at k2
  have hz2 : ((w.alloc (.cells #[enc8 n, .slice ao len cap] 41)).alloc (.cells #[.int .u32 (iv s)] 24)).heap.size = w.heap.size + 2 := by simp
  obtain ⟨w0, hw0⟩ : ∃ w0 : World, (w.alloc (.cells #[enc8 n, .slice ao len cap] 41)).alloc (.cells #[.int .u32 (iv s)] 24) = w0 := ⟨_, rfl⟩
  rw [hw0] at hb0 k2 hz2
  have Z0 := hid k2
  have B0 := hid hb0
  have OF := hid (of_any n _ ds w0 (hr.below hb0) (by omega))
  have W0 := hid hw0
  have HZ2 := hid hz2
  have hfl := listF_length (fullN (n.toNat % 7)) ds
  have hk6 : n.toNat % 7 ≤ 6 := by omega
  have hw2 := w2_list (fullN (n.toNat % 7)) ds
  clear hr hw0 hb0 k2 b1 b2 z1 hz2
  generalize n.toNat % 7 = k at *
  generalize listF (fullN k) ds = fs at *
  have hfb : fs.length ≤ 1048576 := by omega
  have hf6 : ds.length ≤ 6 → fs.length ≤ 6 := by omega
  clear hfl
  by_cases hl : ds.length ≤ 6
  · rw [decide_eq_true hl] at OF
    have hv := deps_valid hk6 (hf6 hl) hw2
    have hsA : sub (s &&& fullN k) (fullN (k : Int).toNat) := by rw [show (k : Int).toNat = k by omega]; exact and_sub_right _ _
    have C1 := hid (fun (a : Value) (W : World) (ha : RdF W a fs) => kall_any (k : Int) fs a W ha)
    have C2 := hid (fun (a : Value) (W : World) (ha : RdF W a fs) => kanti_any (k : Int) fs a W ha)
    rw [deps_keyR hv, hv] at C1
    rw [deps_antiR hk6 hv, deps_antiE hk6 hv] at C2
    have C3 := hid (fun (a : Value) (W : World) (ha : RdF W a fs) => superkey_any (k : Int) fs (s &&& fullN k) a W ha)
    have FU := hid (fun (W : World) => show Calls Try.prog 40 #[.int .i64 (k : Int)] W fun e w' => e = .returned (enc (fullN k)) ∧ Below W.heap.size W w' by
      have := full_any (k : Int) W
      rw [show min (k : Int).toNat 32 = k by omega] at this
      exact this.mono fun _ _ ⟨he, hw⟩ => ⟨he, by rw [← hw]; exact Below.refl _ _⟩)
    have F1 := hid (fun (v : Value) (W : World) (b : Nat) (hc : W.cell? ⟨b, 0, none⟩ = some (enc (s &&& fullN k))) (hv : RdE enc W v (keysS (k : Int) fs)) =>
      containsFunc_any 42 #[.pointer (some ⟨b, 0, none⟩)] (fun x => x &&& ~~~ (s &&& fullN k) == 0#32) _ v W hv
        (enters _ _ _ Try.func42 (by kernel_rfl) rfl) (fun x => every1_any _ b x W hc))
    have F2 := hid (fun (v : Value) (W : World) (b : Nat) (hc : W.cell? ⟨b, 0, none⟩ = some (enc (s &&& fullN k))) (hv : RdE enc W v (antiS (k : Int) fs)) =>
      containsFunc_any 43 #[.pointer (some ⟨b, 0, none⟩)] (fun x => (s &&& fullN k) &&& ~~~ x == 0#32) _ v W hv
        (enters _ _ _ Try.func43 (by kernel_rfl) rfl) (fun x => every2_any _ b x W hc))
    rw [key_has hsA] at F1
    rw [anti_has hv hsA] at F2
    clear hl hw2 hv hsA
    generalize supB (k : Int) fs (s &&& fullN k) = sp at *
    generalize fullN k = A at *
    generalize keysS (k : Int) fs = ks at *
    generalize antiS (k : Int) fs = an at *
    unfold enc8 at *
    simp only [enc_eq] at C3 FU F1 F2
    go_enter Try.func9, Try.ntmps9
    go_wp2_with fail
    rw [W0.out]
    refine OF.out.mono ?_
    rintro e w1 ⟨v1, rfl, ho1, hb1⟩
    have B1 := hid (B0.out.trans (hb1.mono B0.out.size))
    have Z1 := hid (block_keptK hb1 Z0.out)
    have O1 := hid ho1
    clear hb1 ho1 OF
    go_wp2_with fail
    refine (AW.out _).mono ?_
    rintro e w2 ⟨rfl, hb2⟩
    have B2 := hid (B1.out.trans (hb2.mono B1.out.size))
    have Z2 := hid (block_keptK hb2 Z1.out)
    have O2 := hid (own_below O1.out hb2)
    have c1 := cell_of_one Z2.out
    have hfz := free_of_one Z2.out
    have HS := hid (fun (W : World) (h : Below w2.heap.size w2 W) => And.intro h (And.intro (cell_keptK h c1) (free_of_one (block_keptK h Z2.out))))
    clear hb2 O1 Z1
    go_wp2_with fail
    go_region_law (first
      | (go_simp; go_at_call 40; refine (FU.out _).mono ?_; rintro e w3 ⟨rfl, hb3⟩; have hL : Below w2.heap.size w2 w3 := later (Below.refl _ _).drew hb3; obtain ⟨-, d1, d2⟩ := HS.out _ hL))
    all_goals
      have hn3 := B2.out.trans (hL.mono B2.out.size)
      have Z4 := hid (one_setCell (u := .int .u32 (iv (s &&& A))) (block_keptK hL Z2.out))
      have O4 := hid (ownsRow_setCell_other (own_below O2.out hL) (a := ⟨w.heap.size + 1, 0, none⟩) (fun e => by have := (O2.out.lt _ e).1; rw [HZ2.out] at this; simp at this) (.int .u32 (iv (s &&& A))))
      have N4 := hid (hn3.setCell (p := ⟨w.heap.size + 1, 0, none⟩) (by simp) (.int .u32 (iv (s &&& A))))
      generalize w3.setCell ⟨w.heap.size + 1, 0, none⟩ (.int .u32 (iv (s &&& A))) = w4 at *
      clear d1 d2 hL hb3 hn3 c1 hfz HS O2 Z2
      have R4 := hid (show RdF w4 v1 fs from RdC.of_owns cF_length O4.out (by omega))
      go_wp2_with fail
      refine (C1.out _ _ R4.out).mono ?_
      rintro e w5 ⟨v5, rfl, hr5, hl5, hb5⟩
      have B5 := hid (N4.out.trans (hb5.mono N4.out.size))
      have R15 := hid (R4.out.below hb5)
      have Z5 := hid (block_keptK hb5 Z4.out)
      have R5 := hid hr5
      clear hr5 hl5 hb5
      go_wp2_with fail
      refine (C2.out _ _ R15.out).mono ?_
      rintro e w6 ⟨v6, rfl, hr6, hl6, hb6⟩
      have B6 := hid (B5.out.trans (hb6.mono B5.out.size))
      have R16 := hid (R15.out.below hb6)
      have R56 := hid (R5.out.below hb6)
      have Z6 := hid (block_keptK hb6 Z5.out)
      have R6 := hid hr6
      have c6 := cell_of_one Z6.out
      have G1 := hid (F1.out _ w6 _ c6 R56.out)
      have G2 := hid (F2.out _ w6 _ c6 R6.out)
      have G3 := hid (C3.out _ w6 R16.out)
      clear hr6 hl6 hb6
      go_wp2_with fail
      refine G1.out.mono ?_
      rintro e w' ⟨rfl, rfl⟩
      go_wp2_with fail
      refine G2.out.mono ?_
      rintro e w' ⟨rfl, rfl⟩
      cases sp
      all_goals
        go_wp2_with fail
        refine G3.out.mono ?_
        rintro e w7 ⟨rfl, hb7⟩
        have B7 := hid (B6.out.trans (hb7.mono B6.out.size))
        clear hb7
        go_wp2_with fail
        go_ret
        exact ⟨rfl, B7.out⟩
  · rw [decide_eq_false hl] at OF
    generalize fullN k = A at *
    unfold enc8 at *
    go_enter Try.func9, Try.ntmps9
    go_wp2_with fail
    rw [W0.out]
    refine OF.out.mono ?_
    rintro e w1 ⟨v1, rfl, ho1, hb1⟩
    have B1 := hid (B0.out.trans (hb1.mono B0.out.size))
    clear hb1 ho1 OF
    go_wp2_with fail
    refine (AW.out _).mono ?_
    rintro e w2 ⟨rfl, hb2⟩
    have B2 := hid (B1.out.trans (hb2.mono B1.out.size))
    clear hb2
    go_wp2_with fail
    refine (AW.out _).mono ?_
    rintro e w3 ⟨rfl, hb3⟩
    have B3 := hid (B2.out.trans (hb3.mono B2.out.size))
    clear hb3
    go_wp2_with fail
    go_ret
    exact ⟨rfl, B3.out⟩

end Go.Proofs.Ytciamnkalmihcaa
