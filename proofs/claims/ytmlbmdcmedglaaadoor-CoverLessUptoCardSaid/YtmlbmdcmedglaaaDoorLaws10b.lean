/- The laws of chapter 10 over described lists, over the contracts of what they call. -/
import Derived.Test.YtmlbmdcmedglaaaDoorLaws10
import Derived.Test.YtmlbmdcmedglaaaDoorListD
namespace Go.Proofs.YtmlbmdcmedglaaaDoor
open Go.RowKit

/-! Plain laws: what is within a set stays within it, and is short. -/
def W2 (A : S) (l : List F) : Prop := ∀ f ∈ l, sub f.1 A ∧ sub f.2 A
theorem w2_list (A : S) (ds : List D8) : W2 A (listF A ds) := by
  intro f h
  unfold listF at h
  obtain ⟨d, _, rfl⟩ := List.mem_map.1 h
  exact ⟨and_sub_right _ _, and_sub_right _ _⟩
theorem w2_valid {n : Nat} (h : n ≤ 16) {l : List F} (hl : l.length ≤ 64) (hw : W2 (fullN n) l) : validF n l = 0 := by
  unfold validF
  rw [if_neg (by omega), if_neg (by omega), if_neg]
  rw [Bool.not_eq_true, List.any_eq_false]
  intro f hf
  obtain ⟨h1, h2⟩ := hw f hf
  rw [show (n : Int).toNat = n by omega, outF_sub, decide_eq_true h1, decide_eq_true h2]; simp
theorem w2_step {A : S} {l : List F} (i a : Nat) (h : W2 A l) : W2 A (trimStep i l a) := by
  unfold trimStep
  cases hx : l[i]? with
  | none => exact h
  | some x =>
    have hm := List.mem_of_getElem? hx
    simp only
    split
    · intro f hf
      rcases List.mem_or_eq_of_mem_set hf with hf | rfl
      · exact h f hf
      · exact ⟨sub_trans (sub_less _ _) (h x hm).1, (h x hm).2⟩
    · exact h
theorem w2_trimN {A : S} (i : Nat) : ∀ (ns : List Nat) (l : List F), W2 A l → W2 A (trimN l i ns) := by
  intro ns
  induction ns with
  | nil => intro l h; exact h
  | cons a ns ih => intro l h; exact ih _ (w2_step i a h)
theorem w2_trimF {A : S} {l : List F} (h : W2 A l) : ∀ k, W2 A (trimF l k) := by
  intro k
  induction k with
  | zero => exact h
  | succ k ih => exact w2_trimN _ _ _ ih
theorem w2_split {A : S} {l : List F} (h : W2 A l) : W2 A (splitF l) := by
  intro f hf
  obtain ⟨x, hx, hf⟩ := mem_splitF.1 hf
  obtain ⟨a, ha, h1, h2, rfl⟩ := mem_splitX.1 hf
  refine ⟨(h x hx).1, fun i hi hb => ?_⟩
  rw [bit_get a i hi, decide_eq_true_iff] at hb
  subst hb
  exact (h x hx).2 i hi h1
theorem w2_min {A : S} {l : List F} (h : W2 A l) : W2 A (minF l) := fun f hf =>
  w2_trimF (w2_split h) _ f (mem_onceF.1 ((minF_spec l).2.2.subset hf))
theorem w2_merge {A : S} {l : List F} (h : W2 A l) : W2 A (mergeF l) := by
  intro f hf
  obtain ⟨⟨x, hx, he⟩, h2⟩ := mem_mergeF.1 hf
  refine ⟨by rw [← he]; exact (h x hx).1, ?_⟩
  rw [h2]
  exact orOf_le fun y hy _ => (h y hy).2
theorem flatSplit_short {n : Nat} (hn : n ≤ 6) {l : List F} (h : W2 (fullN n) l) : (l.flatMap splitX).length ≤ 6 * l.length := by
  induction l with
  | nil => simp
  | cons x l ih =>
    have h1 : (splitX x).length ≤ 6 := by
      unfold splitX
      rw [List.length_map, ← memN_full (n := n) (by omega) (sub_trans (and_sub_left _ _) (h x (by simp)).2)]
      exact Nat.le_trans (memN_length _ _) hn
    have := ih fun f hf => h f (by simp [hf])
    rw [List.flatMap_cons, List.length_append, List.length_cons]; omega
theorem minF_short {n : Nat} (hn : n ≤ 6) {l : List F} (h : W2 (fullN n) l) : (minF l).length ≤ 6 * l.length := by
  have h1 := (minF_spec l).2.2.length_le
  have h2 := onceF_length (trimF (splitF l) (splitF l).length)
  have h3 := trimF_length (splitF l) (splitF l).length
  have h4 := Nat.le_trans (onceF_length (l.flatMap splitX)) (flatSplit_short hn h)
  have e : (onceF (l.flatMap splitX)).length = (splitF l).length := rfl
  omega
theorem pop_bit : ∀ i : Fin 32, pop (bit i.val) = 1 := by decide +kernel
theorem isMinB_of {l : List F} (h : MinL l) : isMinB l = true := by
  obtain ⟨hu, hr, ht⟩ := h
  unfold isMinB
  rw [Bool.not_eq_true', List.any_eq_false]
  intro i hi
  have hi := List.mem_range.1 hi
  obtain ⟨x, hx⟩ := get_some hi
  have hm := List.mem_of_getElem? hx
  obtain ⟨a, ha, h1, h2⟩ := hu x hm
  rw [badB_at hx, hr i hi, extSet_none fun b hb => by
    cases hq : x.1.getLsbD b with
    | true => rw [ht x hm b hq]; rfl
    | false => rfl]
  have e1 : pop x.2 = 1 := by rw [h1]; exact pop_bit ⟨a, ha⟩
  have e2 : x.2 &&& x.1 = 0#32 := by
    apply BitVec.eq_of_getLsbD_eq
    intro i hi
    rw [BitVec.getLsbD_and, h1, bit_get a i hi]
    by_cases e : i = a
    · subst e; simp [h2]
    · simp [e]
  rw [e1, e2]
  decide

/-- What the laws ask of a described list. -/
theorem cov_facts {n : Nat} (hn : n ≤ 6) {fs : List F} (hl : fs.length ≤ 6) (h : W2 (fullN n) fs) :
    validF n fs = 0 ∧ validF n (minF fs) = 0 ∧ validF n (mergeF (minF fs)) = 0 ∧ resM n fs = minF fs ∧ resM n (minF fs) = minF fs ∧ mergeF (resM n (mergeF (minF fs))) = mergeF (minF fs) := by
  have h1 := minF_short hn h
  have h2 := mergeF_length (minF fs)
  have v1 := w2_valid (n := n) (by omega) (by omega) h
  have v2 := w2_valid (n := n) (by omega) (by omega) (w2_min h)
  have v3 := w2_valid (n := n) (by omega) (by omega) (w2_merge (w2_min h))
  refine ⟨v1, v2, v3, by unfold resM; rw [if_pos v1], by unfold resM; rw [if_pos v2, minF_again], ?_⟩
  unfold resM; rw [if_pos v3, canon_again]

theorem tmod_nat (x l : Nat) : (x : Int).tmod (l : Int) = ((x % l : Nat) : Int) := by rw [Int.tmod_eq_emod_of_nonneg (by omega)]; rfl

set_option maxHeartbeats 1600000 in
set_option maxRecDepth 100000 in
theorem cEquivalentL (n : U8) (u : Value) (w : World) (hT : Tab w) (h : ArgC cD w u) (hs : SizeLe u 1048576) :
    Calls Tryd.prog 16 #[.agg #[enc8 n, u]] w fun e w' => e = .returned (.bool true) ∧ Below w.heap.size w w' := by
  have AW := hid (fun (W : World) (hb : Below w.heap.size w W) => awake10_any W (hT.below hb))
  obtain ⟨ao, len, cap, rfl, h⟩ := h
  have hlen := hs _ _ _ rfl
  obtain ⟨ds, hdl, hr⟩ := h (by omega)
  clear hs h
  obtain ⟨w0, hw0⟩ : ∃ w0 : World, w.alloc (.cells #[enc8 n, .slice ao len cap] 39) = w0 := ⟨_, rfl⟩
  have hb0 : Below w.heap.size w w0 := by rw [← hw0]; exact below_alloc _ _
  have B0 := hid hb0
  have OF := hid (of_any n _ ds w0 (hr.below hb0) (by omega))
  have W0 := hid hw0
  clear hr hw0 hb0
  have hfl := listF_length (fullN (n.toNat % 7)) ds
  by_cases hl : ds.length ≤ 6
  · rw [decide_eq_true hl] at OF
    have hw2 := w2_list (fullN (n.toNat % 7)) ds
    have hk6 : n.toNat % 7 ≤ 6 := by omega
    generalize hk : n.toNat % 7 = k at *
    generalize listF (fullN k) ds = fs at *
    obtain ⟨v1, v2, v3, r1, r2, r3⟩ := cov_facts hk6 (by omega) hw2
    obtain ⟨hE, hM, _⟩ := minF_spec fs
    have q1 : equS fs (minF fs) = true := equ_iff.2 fun d => (hE d).symm
    have q2 : equS fs (mergeF (minF fs)) = true := equ_iff.2 fun d => ((merge_eqv _ d).trans (hE d)).symm
    have q3 := isMinB_of hM
    have h1 := minF_short hk6 hw2
    have C1 := hid (fun (x : Value) (W : World) (hb : Below w.heap.size w W) (hx : RdF W x fs) => minimalR k fs x W (hT.below hb) hx)
    have C2 := hid (fun (x : Value) (W : World) (hb : Below w.heap.size w W) (hx : RdF W x fs) => canonicalR k fs x W (hT.below hb) hx)
    rw [r1, v1] at C1 C2
    have C3 := hid (fun (gs : List F) (x y : Value) (W : World) (hx : RdF W x fs) (hy : RdF W y gs) => refEquivalent_any fs gs x y W hx hy)
    have C4 := hid (fun (x : Value) (W : World) (hb : Below w.heap.size w W) (hx : RdF W x (minF fs)) => isMinimal_any (minF fs) x W (hT.below hb) hx (by omega))
    have C5 := hid (fun (x : Value) (W : World) (hx : RdF W x (minF fs)) => refIsMinimal_any (minF fs) x W hx (by omega))
    rw [q3] at C4 C5
    have C6 := hid (C3.out (minF fs))
    have C7 := hid (C3.out (mergeF (minF fs)))
    rw [q1] at C6
    rw [q2] at C7
    clear C3 v1 v2 v3 r1 r2 r3 hE hM q1 q2 q3 hw2 hl hk
    generalize mergeF (minF fs) = cs at *
    generalize minF fs = ms at *
    unfold enc8 at *
    go_enter Tryd.func16, Tryd.ntmps16
    go_wp2_with fail
    rw [W0.out]
    refine OF.out.mono ?_
    rintro e w1 ⟨v1, rfl, ho1, hb1⟩
    have B1 := hid (B0.out.trans (hb1.mono B0.out.size))
    have R1 := hid (RdC.of_owns cF_length ho1 (by omega))
    clear hb1 ho1 OF
    go_wp2_with fail
    refine (AW.out _ B1.out).mono ?_
    rintro e w2 ⟨rfl, hb2⟩
    have B2 := hid (B1.out.trans (hb2.mono B1.out.size))
    replace R1 := hid (R1.out.below hb2)
    clear hb2
    go_wp2_with fail
    refine (C1.out _ _ B2.out R1.out).mono ?_
    rintro e w3 ⟨v3, rfl, hr3, hb3⟩
    have B3 := hid (B2.out.trans (hb3.mono B2.out.size))
    replace R1 := hid (R1.out.below hb3)
    have R3 := hid hr3
    clear hr3
    clear hb3
    go_wp2_with fail
    refine (C2.out _ _ B3.out R1.out).mono ?_
    rintro e w4 ⟨v4, rfl, hr4, hb4⟩
    have B4 := hid (B3.out.trans (hb4.mono B3.out.size))
    replace R1 := hid (R1.out.below hb4)
    replace R3 := hid (R3.out.below hb4)
    have R4 := hid hr4
    clear hr4
    clear hb4
    go_wp2_with fail
    refine (C6.out _ _ _ R1.out R3.out).mono ?_
    rintro e w5 ⟨rfl, hb5⟩
    have B5 := hid (B4.out.trans (hb5.mono B4.out.size))
    replace R1 := hid (R1.out.below hb5)
    replace R3 := hid (R3.out.below hb5)
    replace R4 := hid (R4.out.below hb5)
    clear hb5
    go_wp2_with fail
    refine (C7.out _ _ _ R1.out R4.out).mono ?_
    rintro e w6 ⟨rfl, hb6⟩
    have B6 := hid (B5.out.trans (hb6.mono B5.out.size))
    replace R3 := hid (R3.out.below hb6)
    clear hb6
    go_wp2_with fail
    refine (C4.out _ _ B6.out R3.out).mono ?_
    rintro e w7 ⟨rfl, hb7⟩
    have B7 := hid (B6.out.trans (hb7.mono B6.out.size))
    replace R3 := hid (R3.out.below hb7)
    clear hb7
    go_wp2_with fail
    refine (C5.out _ _ R3.out).mono ?_
    rintro e w8 ⟨rfl, hb8⟩
    have B8 := hid (B7.out.trans (hb8.mono B7.out.size))
    clear hb8
    go_wp2_with fail
    go_ret
    exact ⟨rfl, B8.out⟩
  · rw [decide_eq_false hl] at OF
    generalize hk : n.toNat % 7 = k at *
    generalize listF (fullN k) ds = fs at *
    clear hk
    unfold enc8 at *
    go_enter Tryd.func16, Tryd.ntmps16
    go_wp2_with fail
    rw [W0.out]
    refine OF.out.mono ?_
    rintro e w1 ⟨v1, rfl, ho1, hb1⟩
    have B1 := hid (B0.out.trans (hb1.mono B0.out.size))
    obtain ⟨xo, xcap, rfl⟩ := (show RdF w1 v1 fs from RdC.of_owns cF_length ho1 (by omega)).form
    clear hb1 ho1 OF
    go_wp2_with fail
    refine (AW.out _ B1.out).mono ?_
    rintro e w2 ⟨rfl, hb2⟩
    have B2 := hid (B1.out.trans (hb2.mono B1.out.size))
    clear hb2
    go_wp2_with fail
    refine (AW.out _ B2.out).mono ?_
    rintro e w3 ⟨rfl, hb3⟩
    have B3 := hid (B2.out.trans (hb3.mono B2.out.size))
    clear hb3
    go_wp2_with fail
    go_ret
    exact ⟨rfl, B3.out⟩

set_option maxHeartbeats 1600000 in
set_option maxRecDepth 100000 in
theorem cAgainL (n : U8) (u : Value) (w : World) (hT : Tab w) (h : ArgC cD w u) (hs : SizeLe u 1048576) :
    Calls Tryd.prog 5 #[.agg #[enc8 n, u]] w fun e w' => e = .returned (.bool true) ∧ Below w.heap.size w w' := by
  have AW := hid (fun (W : World) (hb : Below w.heap.size w W) => awake10_any W (hT.below hb))
  obtain ⟨ao, len, cap, rfl, h⟩ := h
  have hlen := hs _ _ _ rfl
  obtain ⟨ds, hdl, hr⟩ := h (by omega)
  clear hs h
  obtain ⟨w0, hw0⟩ : ∃ w0 : World, w.alloc (.cells #[enc8 n, .slice ao len cap] 39) = w0 := ⟨_, rfl⟩
  have hb0 : Below w.heap.size w w0 := by rw [← hw0]; exact below_alloc _ _
  have B0 := hid hb0
  have OF := hid (of_any n _ ds w0 (hr.below hb0) (by omega))
  have W0 := hid hw0
  clear hr hw0 hb0
  have hfl := listF_length (fullN (n.toNat % 7)) ds
  by_cases hl : ds.length ≤ 6
  · rw [decide_eq_true hl] at OF
    have hw2 := w2_list (fullN (n.toNat % 7)) ds
    have hk6 : n.toNat % 7 ≤ 6 := by omega
    generalize hk : n.toNat % 7 = k at *
    generalize listF (fullN k) ds = fs at *
    obtain ⟨v1, v2, v3, r1, r2, r3⟩ := cov_facts hk6 (by omega) hw2
    have C1 := hid (fun (x : Value) (W : World) (hb : Below w.heap.size w W) (hx : RdF W x fs) => minimalR k fs x W (hT.below hb) hx)
    have C2 := hid (fun (x : Value) (W : World) (hb : Below w.heap.size w W) (hx : RdF W x (minF fs)) => minimalR k (minF fs) x W (hT.below hb) hx)
    have C3 := hid (fun (x : Value) (W : World) (hb : Below w.heap.size w W) (hx : RdF W x fs) => canonicalR k fs x W (hT.below hb) hx)
    have C4 := hid (fun (x : Value) (W : World) (hb : Below w.heap.size w W) (hx : RdF W x (mergeF (minF fs))) => canonicalR k (mergeF (minF fs)) x W (hT.below hb) hx)
    rw [r1, v1] at C1 C3
    rw [r2, v2] at C2
    rw [r3, v3] at C4
    have EQ := hid equalFT
    clear v1 v2 v3 r1 r2 r3 hw2 hl hk
    generalize mergeF (minF fs) = cs at *
    generalize minF fs = ms at *
    unfold enc8 at *
    go_enter Tryd.func5, Tryd.ntmps5
    go_wp2_with fail
    rw [W0.out]
    refine OF.out.mono ?_
    rintro e w1 ⟨v1, rfl, ho1, hb1⟩
    have B1 := hid (B0.out.trans (hb1.mono B0.out.size))
    have R1 := hid (RdC.of_owns cF_length ho1 (by omega))
    clear hb1 ho1 OF
    go_wp2_with fail
    refine (AW.out _ B1.out).mono ?_
    rintro e w2 ⟨rfl, hb2⟩
    have B2 := hid (B1.out.trans (hb2.mono B1.out.size))
    replace R1 := hid (R1.out.below hb2)
    clear hb2
    go_wp2_with fail
    refine (C1.out _ _ B2.out R1.out).mono ?_
    rintro e w3 ⟨v3, rfl, hr3, hb3⟩
    have B3 := hid (B2.out.trans (hb3.mono B2.out.size))
    replace R1 := hid (R1.out.below hb3)
    have R3 := hid hr3
    clear hr3
    clear hb3
    go_wp2_with fail
    refine (C2.out _ _ B3.out R3.out).mono ?_
    rintro e w4 ⟨v4, rfl, hr4, hb4⟩
    have B4 := hid (B3.out.trans (hb4.mono B3.out.size))
    replace R1 := hid (R1.out.below hb4)
    replace R3 := hid (R3.out.below hb4)
    have R4 := hid hr4
    clear hr4
    clear hb4
    go_wp2_with fail
    refine (C3.out _ _ B4.out R1.out).mono ?_
    rintro e w5 ⟨v5, rfl, hr5, hb5⟩
    have B5 := hid (B4.out.trans (hb5.mono B4.out.size))
    replace R3 := hid (R3.out.below hb5)
    replace R4 := hid (R4.out.below hb5)
    have R5 := hid hr5
    clear hr5
    clear hb5
    go_wp2_with fail
    refine (C4.out _ _ B5.out R5.out).mono ?_
    rintro e w6 ⟨v6, rfl, hr6, hb6⟩
    have B6 := hid (B5.out.trans (hb6.mono B5.out.size))
    replace R3 := hid (R3.out.below hb6)
    replace R4 := hid (R4.out.below hb6)
    replace R5 := hid (R5.out.below hb6)
    have R6 := hid hr6
    clear hr6
    clear hb6
    go_wp2_with fail
    refine (EQ.out _ _ _ _ R3.out R4.out).mono ?_
    rintro e w7 ⟨rfl, hb7⟩
    have B7 := hid (B6.out.trans (hb7.mono B6.out.size))
    replace R5 := hid (R5.out.below hb7)
    replace R6 := hid (R6.out.below hb7)
    clear hb7
    go_wp2_with fail
    refine (EQ.out _ _ _ _ R5.out R6.out).mono ?_
    rintro e w8 ⟨rfl, hb8⟩
    have B8 := hid (B7.out.trans (hb8.mono B7.out.size))
    clear hb8
    go_wp2_with fail
    go_ret
    exact ⟨rfl, B8.out⟩
  · rw [decide_eq_false hl] at OF
    generalize hk : n.toNat % 7 = k at *
    generalize listF (fullN k) ds = fs at *
    clear hk
    unfold enc8 at *
    go_enter Tryd.func5, Tryd.ntmps5
    go_wp2_with fail
    rw [W0.out]
    refine OF.out.mono ?_
    rintro e w1 ⟨v1, rfl, ho1, hb1⟩
    have B1 := hid (B0.out.trans (hb1.mono B0.out.size))
    clear hb1 ho1 OF
    go_wp2_with fail
    refine (AW.out _ B1.out).mono ?_
    rintro e w2 ⟨rfl, hb2⟩
    have B2 := hid (B1.out.trans (hb2.mono B1.out.size))
    clear hb2
    go_wp2_with fail
    refine (AW.out _ B2.out).mono ?_
    rintro e w3 ⟨rfl, hb3⟩
    have B3 := hid (B2.out.trans (hb3.mono B2.out.size))
    clear hb3
    go_wp2_with fail
    go_ret
    exact ⟨rfl, B3.out⟩

set_option maxHeartbeats 1600000 in
set_option maxRecDepth 100000 in
theorem cLessL (n : U8) (u : Value) (i : U8) (w : World) (hT : Tab w) (h : ArgC cD w u) (hs : SizeLe u 1048576) :
    Calls Tryd.prog 6 #[.agg #[enc8 n, u], .int .u8 (i.toNat : Int)] w fun e w' => e = .returned (.bool true) ∧ Below w.heap.size w w' := by
  have AW := hid (fun (W : World) (hb : Below w.heap.size w W) => awake10_any W (hT.below hb))
  obtain ⟨ao, len, cap, rfl, h⟩ := h
  have hlen := hs _ _ _ rfl
  obtain ⟨ds, hdl, hr⟩ := h (by omega)
  clear hs h
  obtain ⟨w0, hw0⟩ : ∃ w0 : World, w.alloc (.cells #[enc8 n, .slice ao len cap] 39) = w0 := ⟨_, rfl⟩
  have hb0 : Below w.heap.size w w0 := by rw [← hw0]; exact below_alloc _ _
  have B0 := hid hb0
  have OF := hid (of_any n _ ds w0 (hr.below hb0) (by omega))
  have W0 := hid hw0
  clear hr hw0 hb0
  have hfl := listF_length (fullN (n.toNat % 7)) ds
  have hx : (i.toNat : Int) < 256 := by have := i.isLt; omega
  by_cases hl : ds.length ≤ 6
  · rw [decide_eq_true hl] at OF
    have hw2 := w2_list (fullN (n.toNat % 7)) ds
    have hk6 : n.toNat % 7 ≤ 6 := by omega
    generalize hk : n.toNat % 7 = k at *
    generalize listF (fullN k) ds = fs at *
    obtain ⟨v1, v2, v3, r1, r2, r3⟩ := cov_facts hk6 (by omega) hw2
    obtain ⟨hE, hM, _⟩ := minF_spec fs
    have h1 := minF_short hk6 hw2
    have C1 := hid (fun (x : Value) (W : World) (hb : Below w.heap.size w W) (hx : RdF W x fs) => minimalR k fs x W (hT.below hb) hx)
    rw [r1, v1] at C1
    have q1 : equS fs (minF fs) = true := equ_iff.2 fun d => (hE d).symm
    have NR := hid hM.2.1
    clear v1 v2 v3 r1 r2 r3 hE hM hw2 hl hk
    generalize minF fs = ms at *
    by_cases hz : ms = []
    · subst hz
      have C3 := hid (fun (x y : Value) (W : World) (hx : RdF W x fs) (hy : RdF W y []) => refEquivalent_any fs [] x y W hx hy)
      rw [q1] at C3
      unfold enc8 at *
      go_enter Tryd.func6, Tryd.ntmps6
      go_wp2_with fail
      rw [W0.out]
      refine OF.out.mono ?_
      rintro e w1 ⟨v1, rfl, ho1, hb1⟩
      have B1 := hid (B0.out.trans (hb1.mono B0.out.size))
      have R1 := hid (RdC.of_owns cF_length ho1 (by omega))
      clear hb1 ho1 OF
      go_wp2_with fail
      refine (AW.out _ B1.out).mono ?_
      rintro e w2 ⟨rfl, hb2⟩
      have B2 := hid (B1.out.trans (hb2.mono B1.out.size))
      replace R1 := hid (R1.out.below hb2)
      clear hb2
      go_wp2_with fail
      refine (C1.out _ _ B2.out R1.out).mono ?_
      rintro e w3 ⟨v3, rfl, hr3, hb3⟩
      have B3 := hid (B2.out.trans (hb3.mono B2.out.size))
      replace R1 := hid (R1.out.below hb3)
      have R3 := hid hr3
      clear hr3
      clear hb3
      obtain ⟨xo, xcap, rfl⟩ := R3.out.form
      go_wp2_with fail
      refine (C3.out _ _ _ R1.out (RdC.nil _ _)).mono ?_
      rintro e w4 ⟨rfl, hb4⟩
      have B4 := hid (B3.out.trans (hb4.mono B3.out.size))
      clear hb4
      go_wp2_with fail
      go_ret
      exact ⟨rfl, B4.out⟩
    · have hpos : 0 < ms.length := List.length_pos_iff.2 hz
      have hne : ((ms.length : Int) == 0) = false := by
        rw [beq_eq_false_iff_ne]; omega
      have hm := tmod_nat i.toNat ms.length
      have hj : i.toNat % ms.length < ms.length := Nat.mod_lt _ hpos
      generalize i.toNat % ms.length = j at *
      obtain ⟨f, hf⟩ := get_some hj
      have NR1 := hid (NR.out j hj)
      rw [redB_at hf] at NR1
      have hol := others_length hj
      have C4 := hid (fun (x : Value) (W : World) (hx : RdF W x ms) => refOthers_any ms j hj x W hx (by omega))
      have C5 := hid (fun (x : Value) (W : World) (hx : RdF W x (othersF ms j)) => refImplies_any (othersF ms j) f x W hx)
      rw [NR1.out] at C5
      have RO := hid (fun (x : Value) (W : World) (B : Nat) (h : W.ownsRow B 30 2 x (othersF ms j).length ((othersF ms j).flatMap cF)) => RdC.of_owns cF_length h (by omega))
      have HF := hid hf
      clear NR NR1 hf hz hol
      generalize othersF ms j = gs at *
      have hj0 : (0 : Int) ≤ (j : Int) := by omega
      have hj1 : (j : Int) < (ms.length : Int) := by omega
      simp only [enc_eq] at C5
      unfold enc8 at *
      go_enter Tryd.func6, Tryd.ntmps6
      go_wp2_with fail
      rw [W0.out]
      refine OF.out.mono ?_
      rintro e w1 ⟨v1, rfl, ho1, hb1⟩
      have B1 := hid (B0.out.trans (hb1.mono B0.out.size))
      have R1 := hid (RdC.of_owns cF_length ho1 (by omega))
      clear hb1 ho1 OF
      go_wp2_with fail
      refine (AW.out _ B1.out).mono ?_
      rintro e w2 ⟨rfl, hb2⟩
      have B2 := hid (B1.out.trans (hb2.mono B1.out.size))
      replace R1 := hid (R1.out.below hb2)
      clear hb2
      go_wp2_with fail
      refine (C1.out _ _ B2.out R1.out).mono ?_
      rintro e w3 ⟨v3, rfl, hr3, hb3⟩
      have B3 := hid (B2.out.trans (hb3.mono B2.out.size))
      have R3 := hid hr3
      clear hr3
      clear hb3
      obtain ⟨ao, cap, rfl, -, hc⟩ := R3.out.split
      obtain ⟨b, off, rfl, hfc⟩ := hc j f HF.out
      have HS := hid (fun (W : World) (h : Below w3.heap.size w3 W) => And.intro h (hfc W h))
      have C4' := hid (fun (W : World) (h : Below w3.heap.size w3 W) => C4.out _ W (R3.out.below h))
      clear hc hfc
      go_wp2_with fail
      go_region_held3 (fun W => Below w3.heap.size w3 W ∧ W.cell? ⟨b, off + j * 2, none⟩ = some (.int .u32 (iv f.1)) ∧ W.cell? ⟨b, off + j * 2 + 1, none⟩ = some (.int .u32 (iv f.2)))
        (first | exact HS.out _ (Below.refl _ _).drew | exact HS.out _ (by assumption))
        (first
          | (go_at_call 32; have hS := And.left ‹Below w3.heap.size w3 _ ∧ _ ∧ _›; refine (C4'.out _ hS).mono ?_; rintro e w4 ⟨v4, rfl, ho4, hb4⟩; have hL := later hS hb4; have hr4 := RO.out _ _ _ ho4; clear hb4 hS ho4)
          | (go_at_call 31; have hS := And.left ‹Below w3.heap.size w3 _ ∧ _ ∧ _›; refine (C5.out _ _ (by assumption)).mono ?_; rintro e w5 ⟨rfl, hb5⟩; have hL := later hS hb5; clear hb5 hS))
      all_goals
        have HL := hid (B3.out.trans (hL.mono B3.out.size))
        clear hL
        go_wp2_with fail
        go_ret
        exact ⟨rfl, HL.out⟩
  · rw [decide_eq_false hl] at OF
    generalize hk : n.toNat % 7 = k at *
    generalize listF (fullN k) ds = fs at *
    clear hk
    unfold enc8 at *
    go_enter Tryd.func6, Tryd.ntmps6
    go_wp2_with fail
    rw [W0.out]
    refine OF.out.mono ?_
    rintro e w1 ⟨v1, rfl, ho1, hb1⟩
    have B1 := hid (B0.out.trans (hb1.mono B0.out.size))
    clear hb1 ho1 OF
    go_wp2_with fail
    refine (AW.out _ B1.out).mono ?_
    rintro e w2 ⟨rfl, hb2⟩
    have B2 := hid (B1.out.trans (hb2.mono B1.out.size))
    clear hb2
    go_wp2_with fail
    refine (AW.out _ B2.out).mono ?_
    rintro e w3 ⟨rfl, hb3⟩
    have B3 := hid (B2.out.trans (hb3.mono B2.out.size))
    clear hb3
    go_wp2_with fail
    go_ret
    exact ⟨rfl, B3.out⟩

end Go.Proofs.YtmlbmdcmedglaaaDoor
