/- The laws of chapter 11 over described lists: Check, Certified, Dual. -/
import Derived.Test.YtciamnkalmihcaaLaws11
import Derived.Test.YtciamnkalmihcaaLaws07b
namespace Go.Proofs.Ytciamnkalmihcaa
open Go.RowKit

theorem deps_valid {k : Nat} (hk : k ≤ 6) {fs : List F} (hl : fs.length ≤ 6) (hw : W2 (fullN k) fs) : validF (k : Int) fs = 0 := w2_valid (by omega) (by omega) hw
theorem deps_antiE {k : Nat} (hk : k ≤ 6) {fs : List F} (hv : validF (k : Int) fs = 0) : antiE (k : Int) fs = 0 := by
  unfold antiE; rw [if_neg (by simpa using hv), if_neg (by omega)]
theorem deps_antiR {k : Nat} (hk : k ≤ 6) {fs : List F} (hv : validF (k : Int) fs = 0) : antiR (k : Int) fs = antiS (k : Int) fs := by
  unfold antiR; rw [if_pos (deps_antiE hk hv)]
theorem deps_keyR {k : Nat} {fs : List F} (hv : validF (k : Int) fs = 0) : keyR (k : Int) fs = keysS (k : Int) fs := by
  unfold keyR; rw [if_pos hv]
theorem pow6 {k : Nat} (hk : k ≤ 6) : 2 ^ k ≤ 64 := by
  have : 2 ^ k ≤ 2 ^ 6 := Nat.pow_le_pow_right (by omega) hk
  omega
theorem deps_keys_len {k : Nat} (hk : k ≤ 6) {fs : List F} (hv : validF (k : Int) fs = 0) : (keysS (k : Int) fs).length ≤ 64 := by
  have := keysS_length hv
  rw [show (k : Int).toNat = k by omega] at this
  have := pow6 hk; omega
theorem deps_anti_len {k : Nat} (hk : k ≤ 6) {fs : List F} (hv : validF (k : Int) fs = 0) : (antiS (k : Int) fs).length ≤ 64 := by
  have := antiS_length hv
  rw [show (k : Int).toNat = k by omega] at this
  have := pow6 hk; omega
theorem cert_order {n : Int} {fs : List F} {l m ys : List S} (h : certB n fs l m = true) (ho : IsOrd ys (· ∈ l)) : ys = keysS n fs :=
  listB_of (ho.congr fun s => cert_keys h s)
theorem keys_ne {n : Int} {fs : List F} (hv : validF n fs = 0) : keysS n fs ≠ [] := by
  obtain ⟨t, h, _⟩ := key_in _ (fullN n.toNat) (Nat.le_refl _) (supB_full hv)
  intro e
  have : t ∈ keysS n fs := mem_listB.2 h
  rw [e] at this; cases this
theorem cert_more {n : Int} {fs : List F} (hn : n ≤ 6) (hv : validF n fs = 0) (s : S) : certB n fs (keysS n fs ++ [s]) (antiS n fs) = (keysS n fs).any (· == s) := by
  rw [Bool.eq_iff_iff, List.any_eq_true]
  constructor
  · intro h
    have := (cert_keys h s).1 (by simp)
    exact ⟨s, mem_listB.2 this, by simp⟩
  · rintro ⟨t, ht, e⟩
    obtain rfl : t = s := by simpa using e
    have h := cert_true hn hv
    have hm : ∀ r, r ∈ keysS n fs ++ [t] ↔ r ∈ keysS n fs := fun r => by
      rw [List.mem_append, List.mem_singleton]
      exact ⟨fun h => h.elim id fun e => e ▸ ht, .inl⟩
    unfold certB at h ⊢
    simp only [Bool.and_eq_true, decide_eq_true_iff, List.all_eq_true] at h ⊢
    exact ⟨⟨⟨h.1.1.1, fun x hx => h.1.1.2 x ((hm x).1 hx)⟩, h.1.2⟩, fun r => (hm r).trans (h.2 r)⟩
theorem cert_less {n : Int} {fs : List F} : certB n fs ((keysS n fs).drop 1) (antiS n fs) = false ∨ keysS n fs = [] := by
  cases hk : keysS n fs with
  | nil => exact .inr rfl
  | cons a l =>
    refine .inl ?_
    cases hq : certB n fs ((a :: l).drop 1) (antiS n fs) with
    | false => rfl
    | true =>
      have ho : IsOrd (keysS n fs) (fun s => keyB n fs s = true) := listB_ord _
      rw [hk] at ho
      have h1 : a ∈ l := (cert_keys hq a).2 ((ho.2 a).1 (by simp))
      have := (List.pairwise_cons.1 ho.1).1 a h1
      exact absurd this (bef_irrefl a)
theorem compl_sub (A a : S) : sub (A &&& ~~~ a) A := fun i hi hb => by rw [BitVec.getLsbD_and, Bool.and_eq_true] at hb; exact hb.1
theorem allS_keys {n : Int} {fs : List F} (hv : validF n fs = 0) : allS (compl (fullN n.toNat) (antiS n fs)) = keysS n fs :=
  listB_of ((allS_ord _).congr fun s => (keys_trans hv s).symm)
theorem anti_chain {n : Int} {fs : List F} (s : S) : s ∈ compl (fullN n.toNat) (antiS n fs) ↔ isMin (compl (fullN n.toNat) (antiS n fs)) s := by
  constructor
  · intro hs
    refine ⟨hs, fun f hf hsub => ?_⟩
    obtain ⟨b, hb, rfl⟩ := List.mem_map.1 hs
    obtain ⟨a, ha, rfl⟩ := List.mem_map.1 hf
    have ha' := antiB_iff.1 (mem_listB.1 ha)
    have hb' := antiB_iff.1 (mem_listB.1 hb)
    have : sub b a := fun i hi hbi => by
      cases hai : a.getLsbD i with
      | true => rfl
      | false =>
        have h1 := hb'.2.1 i hi hbi
        have := hsub i hi (by rw [BitVec.getLsbD_and, BitVec.getLsbD_not, h1, hai]; simp [hi])
        rw [BitVec.getLsbD_and, BitVec.getLsbD_not, hbi] at this
        simp at this
    rw [hb'.2.2.2 a this ha'.2.1 ha'.2.2.1]
  · exact fun h => h.1
theorem allS_twice {n : Int} {fs : List F} (hv : validF n fs = 0) {ys : List S} (h : IsOrd ys (· ∈ compl (fullN n.toNat) (antiS n fs))) : allS (keysS n fs) = ys := by
  rw [← allS_keys hv, allS_all]
  exact (redS_ord _).uniq h fun s => (anti_chain s).symm
theorem validS_keys {n : Int} {fs : List F} (hv : validF n fs = 0) (hl : (keysS n fs).length ≤ 200) : validS n (keysS n fs) = 0 := by
  obtain ⟨h0, h16, _, _⟩ := validF_w2 hv
  unfold validS
  rw [if_neg (by omega), if_neg (by omega), if_neg]
  rw [Bool.not_eq_true, List.any_eq_false]
  intro x hx
  have := supB_sub (keyB_sup (mem_listB.1 hx))
  rw [sub_full] at this
  rw [this]; simp
theorem RdE.drop1 {α : Type} {f : α → Value} {w : World} {b off n cap : Nat} {xs : List α} (h : RdE f w (.slice (some ⟨b, off, none⟩) n cap) xs) (hk : 1 ≤ xs.length) : RdE f w (.slice (if cap = 1 then some ⟨b, off, none⟩ else some ⟨b, off + 1, none⟩) (n - 1) (cap - 1)) (xs.drop 1) := by
  obtain ⟨ao', cap', he, h1, h2, h3⟩ := h
  cases he
  refine ⟨_, _, by rw [List.length_drop], by rw [List.length_drop]; omega, by rw [List.length_drop]; omega, fun hp => ?_⟩
  rw [List.length_drop] at hp
  obtain ⟨b', off', e, hb, hc⟩ := h3 (by omega)
  cases e
  rw [if_neg (by omega)]
  refine ⟨b, off + 1, rfl, hb, fun i x hi => ?_⟩
  rw [List.getElem?_drop] at hi
  have := hc (1 + i) x hi
  rw [show off + 1 + i = off + (1 + i) by omega]; exact this

set_option maxHeartbeats 800000 in
theorem kCheckL (n : U8) (u x y : Value) (w : World) (h : ArgC cD w u) (hs : SizeLe u 1048576) (hx : ArgL enc w x) (hy : ArgL enc w y) :
    Calls Try.prog 6 #[.agg #[enc8 n, u], x, y] w fun e w' => e = .returned (.bool true) ∧ Below w.heap.size w w' := by
  obtain ⟨xo, xl, xcap, rfl, hx⟩ := hx
  obtain ⟨yo, yl, ycap, rfl, hy⟩ := hy
  have AW := hid (fun (W : World) => awake11_any W)
  obtain ⟨ao, len, cap, rfl, h⟩ := h
  have hlen := hs _ _ _ rfl
  obtain ⟨ds, hdl, hr⟩ := h (by omega)
  clear hs h
  obtain ⟨w0, hw0⟩ : ∃ w0 : World, w.alloc (.cells #[enc8 n, .slice ao len cap] 41) = w0 := ⟨_, rfl⟩
  have hb0 : Below w.heap.size w w0 := by rw [← hw0]; exact below_alloc _ _
  have B0 := hid hb0
  have OF := hid (of_any n _ ds w0 (hr.below hb0) (by omega))
  have W0 := hid hw0
  have X0 := hid (fun (l : List S) (hl : RdE enc w (.slice xo xl xcap) l) (W : World) (hb : Below w.heap.size w W) => hl.below hb)
  have Y0 := hid (fun (l : List S) (hl : RdE enc w (.slice yo yl ycap) l) (W : World) (hb : Below w.heap.size w W) => hl.below hb)
  have hfl := listF_length (fullN (n.toNat % 7)) ds
  have hk6 : n.toNat % 7 ≤ 6 := by omega
  have hw2 := w2_list (fullN (n.toNat % 7)) ds
  clear hr hw0 hb0
  generalize n.toNat % 7 = k at *
  generalize listF (fullN k) ds = fs at *
  have hfb : fs.length ≤ 1048576 := by omega
  have hf6 : ds.length ≤ 6 → fs.length ≤ 6 := by omega
  clear hfl
  by_cases hok : ds.length ≤ 6 ∧ xl ≤ 30 ∧ yl ≤ 30
  · obtain ⟨hl, hxl, hyl⟩ := hok
    rw [decide_eq_true hl] at OF
    have hd1 : decide ((xl : Int) > 30) = false := by simp; omega
    have hd2 : decide ((yl : Int) > 30) = false := by simp; omega
    obtain ⟨l, hll, hrl⟩ := hx (by omega)
    obtain ⟨m, hml, hrm⟩ := hy (by omega)
    have XR := hid (X0.out l hrl)
    have YR := hid (Y0.out m hrm)
    have hv := deps_valid hk6 (hf6 hl) hw2
    have CO := hid (fun (xs : List S) (x : Value) (W : World) (hx : RdE enc W x xs) (hl : xs.length ≤ 1000) => show Calls Try.prog 34 #[x] W fun e w' => ∃ v', e = .returned v' ∧ RdE enc w' v' xs ∧ Below W.heap.size W w' from
      (clone_any xs x W hx (by omega)).mono fun _ _ ⟨v', he, ho, hb⟩ => ⟨v', he, RdE.of_owns ho (by omega), hb⟩)
    have C1 := hid (fun (a b c : Value) (W : World) (ha : RdF W a fs) (hb : RdE enc W b l) (hc : RdE enc W c m) => kcheck_any (k : Int) fs l m a b c W ha hb hc (by omega))
    have C2 := hid (fun (a b c : Value) (W : World) (ha : RdF W a fs) (hb : RdE enc W b l) (hc : RdE enc W c m) => refKCheck_any (k : Int) fs l m a b c W ha hb hc (by omega))
    have C3 := hid (fun (a : Value) (W : World) (ha : RdF W a fs) => refKAll_any (k : Int) fs a W ha)
    rw [deps_keyR hv, hv] at C3
    have OR := hid (fun (b : Value) (W : World) (hb : RdE enc W b l) => refOrder_any l b W hb (by omega))
    have CK := hid (fun (hq : certB (k : Int) fs l m = true) (ys : List S) (ho : IsOrd ys (· ∈ l)) => cert_order hq ho)
    have SM := hid (fun (xs : List S) (x y : Value) (W : World) (hx : RdE enc W x xs) (hy : RdE enc W y xs) => sameT xs x y W hx hy)
    have hll2 : l.length ≤ 1000 := by omega
    have hml2 : m.length ≤ 1000 := by omega
    clear hl hw2 hv hx hy X0 Y0 hrl hrm hll hml
    generalize keysS (k : Int) fs = ks at *
    generalize certB (k : Int) fs l m = cb at *
    unfold enc8 at *
    cases cb with
    | true =>
      go_enter Try.func6, Try.ntmps6
      go_wp2_with fail
      rw [W0.out]
      refine OF.out.mono ?_
      rintro e w1 ⟨v1, rfl, ho1, hb1⟩
      have B1 := hid (B0.out.trans (hb1.mono B0.out.size))
      have R1 := hid (show RdF w1 v1 fs from RdC.of_owns cF_length ho1 (by omega))
      have RX := hid (XR.out w1 B1.out)
      have RY := hid (YR.out w1 B1.out)
      clear hb1 ho1 OF
      go_wp2_with fail
      refine (AW.out _).mono ?_
      rintro e w2 ⟨rfl, hb2⟩
      have B2 := hid (B1.out.trans (hb2.mono B1.out.size))
      replace R1 := hid (R1.out.below hb2)
      replace RX := hid (RX.out.below hb2)
      replace RY := hid (RY.out.below hb2)
      clear hb2
      go_wp2_with fail
      refine (CO.out l _ _ RX.out hll2).mono ?_
      rintro e w3 ⟨v3, rfl, hr3, hb3⟩
      have B3 := hid (B2.out.trans (hb3.mono B2.out.size))
      replace R1 := hid (R1.out.below hb3)
      replace RX := hid (RX.out.below hb3)
      replace RY := hid (RY.out.below hb3)
      have R3 := hid hr3
      clear hr3
      clear hb3
      go_wp2_with fail
      refine (CO.out m _ _ RY.out hml2).mono ?_
      rintro e w4 ⟨v4, rfl, hr4, hb4⟩
      have B4 := hid (B3.out.trans (hb4.mono B3.out.size))
      replace R1 := hid (R1.out.below hb4)
      replace RX := hid (RX.out.below hb4)
      replace RY := hid (RY.out.below hb4)
      replace R3 := hid (R3.out.below hb4)
      have R4 := hid hr4
      clear hr4
      clear hb4
      go_wp2_with fail
      refine (C1.out _ _ _ _ R1.out R3.out R4.out).mono ?_
      rintro e w5 ⟨rfl, hb5⟩
      have B5 := hid (B4.out.trans (hb5.mono B4.out.size))
      replace R1 := hid (R1.out.below hb5)
      replace RX := hid (RX.out.below hb5)
      replace RY := hid (RY.out.below hb5)
      clear hb5
      go_wp2_with fail
      refine (C2.out _ _ _ _ R1.out RX.out RY.out).mono ?_
      rintro e w6 ⟨rfl, hb6⟩
      have B6 := hid (B5.out.trans (hb6.mono B5.out.size))
      replace R1 := hid (R1.out.below hb6)
      replace RX := hid (RX.out.below hb6)
      replace RY := hid (RY.out.below hb6)
      clear hb6
      go_wp2_with fail
      refine (C3.out _ _ R1.out).mono ?_
      rintro e w7 ⟨v7, rfl, hr7, hl7, hb7⟩
      have B7 := hid (B6.out.trans (hb7.mono B6.out.size))
      replace RX := hid (RX.out.below hb7)
      have R7 := hid hr7
      clear hr7
      clear hb7
      clear hl7
      go_wp2_with fail
      refine (OR.out _ _ RX.out).mono ?_
      rintro e w8 ⟨v8, ys, rfl, ho8, hord, hyl8, hb8⟩
      obtain rfl : ys = ks := CK.out (by first | trivial | rfl) ys hord
      have B8 := hid (B7.out.trans (hb8.mono B7.out.size))
      have R8 := hid (RdE.of_owns ho8 (by omega))
      have R7' := hid (R7.out.below hb8)
      clear ho8 hord hb8 hyl8 CK
      go_wp2_with fail
      refine (SM.out _ _ _ _ R8.out R7'.out).mono ?_
      rintro e w9 ⟨rfl, hb9⟩
      have B9 := hid (B8.out.trans (hb9.mono B8.out.size))
      clear hb9
      go_wp2_with fail
      go_ret
      exact ⟨rfl, B9.out⟩
    | false =>
      go_enter Try.func6, Try.ntmps6
      go_wp2_with fail
      rw [W0.out]
      refine OF.out.mono ?_
      rintro e w1 ⟨v1, rfl, ho1, hb1⟩
      have B1 := hid (B0.out.trans (hb1.mono B0.out.size))
      have R1 := hid (show RdF w1 v1 fs from RdC.of_owns cF_length ho1 (by omega))
      have RX := hid (XR.out w1 B1.out)
      have RY := hid (YR.out w1 B1.out)
      clear hb1 ho1 OF CK
      go_wp2_with fail
      refine (AW.out _).mono ?_
      rintro e w2 ⟨rfl, hb2⟩
      have B2 := hid (B1.out.trans (hb2.mono B1.out.size))
      replace R1 := hid (R1.out.below hb2)
      replace RX := hid (RX.out.below hb2)
      replace RY := hid (RY.out.below hb2)
      clear hb2
      go_wp2_with fail
      refine (CO.out l _ _ RX.out hll2).mono ?_
      rintro e w3 ⟨v3, rfl, hr3, hb3⟩
      have B3 := hid (B2.out.trans (hb3.mono B2.out.size))
      replace R1 := hid (R1.out.below hb3)
      replace RX := hid (RX.out.below hb3)
      replace RY := hid (RY.out.below hb3)
      have R3 := hid hr3
      clear hr3
      clear hb3
      go_wp2_with fail
      refine (CO.out m _ _ RY.out hml2).mono ?_
      rintro e w4 ⟨v4, rfl, hr4, hb4⟩
      have B4 := hid (B3.out.trans (hb4.mono B3.out.size))
      replace R1 := hid (R1.out.below hb4)
      replace RX := hid (RX.out.below hb4)
      replace RY := hid (RY.out.below hb4)
      replace R3 := hid (R3.out.below hb4)
      have R4 := hid hr4
      clear hr4
      clear hb4
      go_wp2_with fail
      refine (C1.out _ _ _ _ R1.out R3.out R4.out).mono ?_
      rintro e w5 ⟨rfl, hb5⟩
      have B5 := hid (B4.out.trans (hb5.mono B4.out.size))
      replace R1 := hid (R1.out.below hb5)
      replace RX := hid (RX.out.below hb5)
      replace RY := hid (RY.out.below hb5)
      clear hb5
      go_wp2_with fail
      refine (C2.out _ _ _ _ R1.out RX.out RY.out).mono ?_
      rintro e w6 ⟨rfl, hb6⟩
      have B6 := hid (B5.out.trans (hb6.mono B5.out.size))
      replace R1 := hid (R1.out.below hb6)
      clear hb6
      go_wp2_with fail
      refine (C3.out _ _ R1.out).mono ?_
      rintro e w7 ⟨v7, rfl, hr7, hl7, hb7⟩
      have B7 := hid (B6.out.trans (hb7.mono B6.out.size))
      clear hb7
      clear hr7 hl7
      go_wp2_with fail
      go_ret
      exact ⟨rfl, B7.out⟩
  · unfold enc8 at *
    clear hx hy X0 Y0
    rcases (show ¬ ds.length ≤ 6 ∨ (ds.length ≤ 6 ∧ ¬ xl ≤ 30) ∨ (ds.length ≤ 6 ∧ xl ≤ 30 ∧ ¬ yl ≤ 30) by omega) with hl | ⟨hl, hxl⟩ | ⟨hl, hxl, hyl⟩
    · rw [decide_eq_false hl] at OF
      generalize fullN k = A at *
      go_enter Try.func6, Try.ntmps6
      go_wp2_with fail
      rw [W0.out]
      refine OF.out.mono ?_
      rintro e w1 ⟨v1, rfl, ho1, hb1⟩
      have B1 := hid (B0.out.trans (hb1.mono B0.out.size))
      clear hb1 ho1 OF
      go_wp2_with fail
      refine (AW.out _).mono ?_
      rintro e w2 ⟨rfl, hb2⟩
      have B2 := hid (B1.out.trans (hb2.mono B1.out.size))
      clear hb2
      go_wp2_with fail
      refine (AW.out _).mono ?_
      rintro e w3 ⟨rfl, hb3⟩
      have B3 := hid (B2.out.trans (hb3.mono B2.out.size))
      clear hb3
      go_wp2_with fail
      go_ret
      exact ⟨rfl, B3.out⟩
    · rw [decide_eq_true hl] at OF
      have hd1 : decide ((xl : Int) > 30) = true := by simp; omega
      generalize fullN k = A at *
      go_enter Try.func6, Try.ntmps6
      go_wp2_with fail
      rw [W0.out]
      refine OF.out.mono ?_
      rintro e w1 ⟨v1, rfl, ho1, hb1⟩
      have B1 := hid (B0.out.trans (hb1.mono B0.out.size))
      clear hb1 ho1 OF
      go_wp2_with fail
      refine (AW.out _).mono ?_
      rintro e w2 ⟨rfl, hb2⟩
      have B2 := hid (B1.out.trans (hb2.mono B1.out.size))
      clear hb2
      go_wp2_with fail
      refine (AW.out _).mono ?_
      rintro e w3 ⟨rfl, hb3⟩
      have B3 := hid (B2.out.trans (hb3.mono B2.out.size))
      clear hb3
      go_wp2_with fail
      go_ret
      exact ⟨rfl, B3.out⟩
    · rw [decide_eq_true hl] at OF
      have hd1 : decide ((xl : Int) > 30) = false := by simp; omega
      have hd2 : decide ((yl : Int) > 30) = true := by simp; omega
      generalize fullN k = A at *
      go_enter Try.func6, Try.ntmps6
      go_wp2_with fail
      rw [W0.out]
      refine OF.out.mono ?_
      rintro e w1 ⟨v1, rfl, ho1, hb1⟩
      have B1 := hid (B0.out.trans (hb1.mono B0.out.size))
      clear hb1 ho1 OF
      go_wp2_with fail
      refine (AW.out _).mono ?_
      rintro e w2 ⟨rfl, hb2⟩
      have B2 := hid (B1.out.trans (hb2.mono B1.out.size))
      clear hb2
      go_wp2_with fail
      refine (AW.out _).mono ?_
      rintro e w3 ⟨rfl, hb3⟩
      have B3 := hid (B2.out.trans (hb3.mono B2.out.size))
      clear hb3
      go_wp2_with fail
      go_ret
      exact ⟨rfl, B3.out⟩

set_option maxHeartbeats 800000 in
theorem kDualL (n : U8) (u : Value) (w : World) (h : ArgC cD w u) (hs : SizeLe u 1048576) :
    Calls Try.prog 8 #[.agg #[enc8 n, u]] w fun e w' => e = .returned (.bool true) ∧ Below w.heap.size w w' := by
  have AW := hid (fun (W : World) => awake11_any W)
  obtain ⟨ao, len, cap, rfl, h⟩ := h
  have hlen := hs _ _ _ rfl
  obtain ⟨ds, hdl, hr⟩ := h (by omega)
  clear hs h
  obtain ⟨w0, hw0⟩ : ∃ w0 : World, w.alloc (.cells #[enc8 n, .slice ao len cap] 41) = w0 := ⟨_, rfl⟩
  have hb0 : Below w.heap.size w w0 := by rw [← hw0]; exact below_alloc _ _
  have B0 := hid hb0
  have OF := hid (of_any n _ ds w0 (hr.below hb0) (by omega))
  have W0 := hid hw0
  have hfl := listF_length (fullN (n.toNat % 7)) ds
  have hk6 : n.toNat % 7 ≤ 6 := by omega
  have hw2 := w2_list (fullN (n.toNat % 7)) ds
  clear hr hw0 hb0
  generalize n.toNat % 7 = k at *
  generalize listF (fullN k) ds = fs at *
  have hfb : fs.length ≤ 1048576 := by omega
  have hf6 : ds.length ≤ 6 → fs.length ≤ 6 := by omega
  clear hfl
  by_cases hl : ds.length ≤ 6
  · rw [decide_eq_true hl] at OF
    have hv := deps_valid hk6 (hf6 hl) hw2
    have hkl := deps_keys_len hk6 hv
    have hal := deps_anti_len hk6 hv
    have C1 := hid (fun (a : Value) (W : World) (ha : RdF W a fs) => kall_any (k : Int) fs a W ha)
    have C2 := hid (fun (a : Value) (W : World) (ha : RdF W a fs) => kanti_any (k : Int) fs a W ha)
    rw [deps_keyR hv, hv] at C1
    rw [deps_antiR hk6 hv, deps_antiE hk6 hv] at C2
    have CM := hid (fun (a : Value) (W : World) (ha : RdE enc W a (antiS (k : Int) fs)) => complements_any (k : Int) (antiS (k : Int) fs) a W ha (by omega))
    rw [show min (k : Int).toNat 32 = (k : Int).toNat by omega] at CM
    have A1 := hid (fun (a : Value) (W : World) (ha : RdE enc W a (compl (fullN (k : Int).toNat) (antiS (k : Int) fs))) => refAllW (k : Int) _ a W ha)
    rw [show resS (k : Int) (compl (fullN (k : Int).toNat) (antiS (k : Int) fs)) = keysS (k : Int) fs by unfold resS; rw [if_pos (validS_compl (by omega) (by omega) (by omega)), allS_keys hv]] at A1
    have A2 := hid (fun (a : Value) (W : World) (ha : RdE enc W a (keysS (k : Int) fs)) => refAllW (k : Int) _ a W ha)
    rw [show resS (k : Int) (keysS (k : Int) fs) = allS (keysS (k : Int) fs) by unfold resS; rw [if_pos (validS_keys hv (by omega))]] at A2
    have AT := hid (fun (ys : List S) (h : IsOrd ys (· ∈ compl (fullN (k : Int).toNat) (antiS (k : Int) fs))) => allS_twice hv h)
    have OR := hid (fun (b : Value) (W : World) (hb : RdE enc W b (compl (fullN (k : Int).toNat) (antiS (k : Int) fs))) => refOrder_any _ b W hb (by rw [compl_length]; omega))
    have hcl := compl_length (fullN (k : Int).toNat) (antiS (k : Int) fs)
    have SM := hid (fun (xs : List S) (x y : Value) (W : World) (hx : RdE enc W x xs) (hy : RdE enc W y xs) => sameT xs x y W hx hy)
    have HCL := hid (show (compl (fullN (k : Int).toNat) (antiS (k : Int) fs)).length ≤ 64 by omega)
    clear hl hw2 hv hcl
    generalize compl (fullN (k : Int).toNat) (antiS (k : Int) fs) = cm at *
    generalize antiS (k : Int) fs = an at *
    generalize validS (k : Int) cm = r1 at *
    generalize validS (k : Int) (keysS (k : Int) fs) = r2 at *
    generalize keysS (k : Int) fs = ks at *
    generalize allS ks = al at *
    unfold enc8 at *
    go_enter Try.func8, Try.ntmps8
    go_wp2_with fail
    rw [W0.out]
    refine OF.out.mono ?_
    rintro e w1 ⟨v1, rfl, ho1, hb1⟩
    have B1 := hid (B0.out.trans (hb1.mono B0.out.size))
    have R1 := hid (show RdF w1 v1 fs from RdC.of_owns cF_length ho1 (by omega))
    clear hb1 ho1 OF
    go_wp2_with fail
    refine (AW.out _).mono ?_
    rintro e w2 ⟨rfl, hb2⟩
    have B2 := hid (B1.out.trans (hb2.mono B1.out.size))
    replace R1 := hid (R1.out.below hb2)
    clear hb2
    go_wp2_with fail
    refine (C1.out _ _ R1.out).mono ?_
    rintro e w3 ⟨v3, rfl, hr3, hl3, hb3⟩
    have B3 := hid (B2.out.trans (hb3.mono B2.out.size))
    replace R1 := hid (R1.out.below hb3)
    have R3 := hid hr3
    clear hr3
    clear hb3
    clear hl3
    go_wp2_with fail
    refine (C2.out _ _ R1.out).mono ?_
    rintro e w4 ⟨v4, rfl, hr4, hl4, hb4⟩
    have B4 := hid (B3.out.trans (hb4.mono B3.out.size))
    replace R3 := hid (R3.out.below hb4)
    have R4 := hid hr4
    clear hr4
    clear hb4
    clear hl4
    go_wp2_with fail
    refine (CM.out _ _ R4.out).mono ?_
    rintro e w5 ⟨v5, rfl, hr5, hb5⟩
    have B5 := hid (B4.out.trans (hb5.mono B4.out.size))
    replace R3 := hid (R3.out.below hb5)
    have R5 := hid hr5
    clear hr5
    clear hb5
    go_wp2_with fail
    refine (A1.out _ _ R5.out).mono ?_
    rintro e w6 ⟨v6, rfl, ho6, hl6, hb6⟩
    have B6 := hid (B5.out.trans (hb6.mono B5.out.size))
    have R6 := hid (RdE.of_owns ho6 (by omega))
    replace R3 := hid (R3.out.below hb6)
    replace R5 := hid (R5.out.below hb6)
    clear ho6 hl6 hb6
    go_wp2_with fail
    refine (A2.out _ _ R3.out).mono ?_
    rintro e w7 ⟨v7, rfl, ho7, hl7, hb7⟩
    have B7 := hid (B6.out.trans (hb7.mono B6.out.size))
    have R7 := hid (RdE.of_owns ho7 (by omega))
    replace R3 := hid (R3.out.below hb7)
    replace R5 := hid (R5.out.below hb7)
    replace R6 := hid (R6.out.below hb7)
    clear ho7 hl7 hb7
    go_wp2_with fail
    refine (SM.out _ _ _ _ R6.out R3.out).mono ?_
    rintro e w8 ⟨rfl, hb8⟩
    have B8 := hid (B7.out.trans (hb8.mono B7.out.size))
    replace R5 := hid (R5.out.below hb8)
    replace R7 := hid (R7.out.below hb8)
    clear hb8
    go_wp2_with fail
    refine (OR.out _ _ R5.out).mono ?_
    rintro e w9 ⟨v9, ys, rfl, ho9, hord, hyl9, hb9⟩
    obtain rfl : al = ys := AT.out ys hord
    have B9 := hid (B8.out.trans (hb9.mono B8.out.size))
    have R9 := hid (RdE.of_owns ho9 (by have := HCL.out; omega))
    replace R7 := hid (R7.out.below hb9)
    clear ho9 hord hb9 hyl9 AT
    go_wp2_with fail
    refine (SM.out _ _ _ _ R7.out R9.out).mono ?_
    rintro e w10 ⟨rfl, hb10⟩
    have B10 := hid (B9.out.trans (hb10.mono B9.out.size))
    clear hb10
    go_wp2_with fail
    go_ret
    exact ⟨rfl, B10.out⟩
  · rw [decide_eq_false hl] at OF
    generalize fullN k = A at *
    unfold enc8 at *
    go_enter Try.func8, Try.ntmps8
    go_wp2_with fail
    rw [W0.out]
    refine OF.out.mono ?_
    rintro e w1 ⟨v1, rfl, ho1, hb1⟩
    have B1 := hid (B0.out.trans (hb1.mono B0.out.size))
    clear hb1 ho1 OF
    go_wp2_with fail
    refine (AW.out _).mono ?_
    rintro e w2 ⟨rfl, hb2⟩
    have B2 := hid (B1.out.trans (hb2.mono B1.out.size))
    clear hb2
    go_wp2_with fail
    refine (AW.out _).mono ?_
    rintro e w3 ⟨rfl, hb3⟩
    have B3 := hid (B2.out.trans (hb3.mono B2.out.size))
    clear hb3
    go_wp2_with fail
    go_ret
    exact ⟨rfl, B3.out⟩


end Go.Proofs.Ytciamnkalmihcaa
