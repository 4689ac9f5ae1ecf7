/- The law TopFound. -/
import Derived.Test.YtalejolehccclaaGreatDoorGTopA
import Derived.Test.YtalejolehccclaaGreatDoorListD
import Derived.Test.YtalejolehccclaaGreatDoorFd2
namespace Go.Proofs.YtalejolehccclaaGreatDoor
open Go.RowKit
set_option linter.unusedVariables false

set_option maxHeartbeats 3200000 in
set_option maxRecDepth 100000 in
theorem tFoundL (n : U8) (u : Value) (w : World) (hT : Tab w) (h : ArgC cD w u) (hs : SizeLe u 1048576) :
    Calls Tryz.prog 3 #[.agg #[enc8 n, u]] w fun e w' => e = .returned (.bool true) ∧ Below w.heap.size w w' := by
  have AW := hid (fun (W : World) (hb : Below w.heap.size w W) => awake34_any W (hT.below hb))
  obtain ⟨ao, len, cap, rfl, h⟩ := h
  have hlen := hs _ _ _ rfl
  obtain ⟨ds, hdl, hr⟩ := h (by omega)
  clear hs h
  obtain ⟨w0, hw0⟩ : ∃ w0 : World, w.alloc (.cells #[enc8 n, .slice ao len cap] 24) = w0 := ⟨_, rfl⟩
  have hb0 : Below w.heap.size w w0 := by rw [← hw0]; exact below_alloc _ _
  have B0 := hid hb0
  have OF := hid (of_any n _ ds w0 (hr.below hb0) (by omega))
  have W0 := hid hw0
  clear hr hw0 hb0
  have hfl := listF_length (fullN (n.toNat % 7)) ds
  by_cases hl : ds.length ≤ 6
  · rw [decide_eq_true hl] at OF
    have hw2 := w2_list (fullN (n.toNat % 7)) ds
    have hk6 : n.toNat % 7 ≤ 6 := by omega
    generalize hk : n.toNat % 7 = k at *
    generalize listF (fullN k) ds = fs at *
    have hval := w2_valid (n := k) (by omega) (show fs.length ≤ 64 by omega) hw2
    have BU := hid (fun (x : Value) (W : World) (hx : RdF W x fs) => build_any k fs x W hx hk6 hval)
    have AF := hid (fun (L : List S) (rs : List Row3) (hL : IsOrd L (fun s => sub s (fullN k) ∧ closedF fs s)) (hl : L.length ≤ 64) (hm : rs.map (fun r => (r.1, r.2.2)) = armR k (fullN k :: irrL (fullN k) L)) => arm_found hk6 hval (fun s => hL.2 s) hl hm)
    have AT := hid (fun (L : List S) (rs : List Row3) (hl : L.length ≤ 64) (hm : rs.map (fun r => (r.1, r.2.2)) = armR k (fullN k :: irrL (fullN k) L)) => arm_tab hk6 (l := fullN k :: irrL (fullN k) L) (by have := List.length_filter_le (irrB (fullN k) L) L; unfold irrL; rw [List.length_cons]; omega) hm)
    have C1 := hid (fun (rs : List Row3) (av tv : Value) (W : World) (hb : Below w.heap.size w W) (ht : RdT W av tv (armT k rs)) (hok : okT (armT k rs)) => fcover_any (armT k rs) av tv W ht (hT.below hb) (fun _ => hok))
    have C2 := hid (fun (rs : List Row3) (av tv : Value) (W : World) (hb : Below w.heap.size w W) (ht : RdT W av tv (armT k rs)) (hok : okT (armT k rs)) => fall_any (armT k rs) av tv W ht (hT.below hb) (fun _ => hok))
    have C3' := hid (fun (rs : List Row3) (av tv : Value) (W : World) (ht : RdT W av tv (armT k rs)) => kall_any (armT k rs) av tv W ht)
    have C4 := hid (fun (x : Value) (W : World) (hx : RdF W x fs) => keysAll_any k fs x W hx)
    rw [hval] at C4
    have C5 := hid (fun (gs : List F) (x y : Value) (W : World) (hx : RdF W x gs) (hy : RdF W y fs) => equivalent_any gs fs x y W hx hy)
    have C6 := hid (fun (xs : List S) (x y : Value) (W : World) (hx : RdE enc W x xs) (hy : RdE enc W y xs) => ssame_any xs x y W hx hy)
    have HFL := hid (show fs.length ≤ 100 by omega)
    clear hw2 hl hk hval hfl
    unfold enc8 at *
    go_enter Tryz.func3, Tryz.ntmps3
    go_wp2_with fail
    rw [W0.out]
    refine OF.out.mono ?_
    rintro e w1 ⟨v1, rfl, ho1, hb1⟩
    have B1 := hid (B0.out.trans (hb1.mono B0.out.size))
    have R1 := hid (show RdF w1 v1 fs from RdC.of_owns cF_length ho1 (by have := HFL.out; omega))
    obtain ⟨xo, xcap, rfl⟩ := R1.out.form
    clear hb1 ho1 OF
    go_wp2_with fail
    refine (AW.out _ B1.out).mono ?_
    rintro e w2 ⟨rfl, hb2⟩
    have B2 := hid (B1.out.trans (hb2.mono B1.out.size))
    replace R1 := hid (R1.out.below hb2)
    clear hb2
    go_wp2_with fail
    refine (BU.out _ _ R1.out).mono ?_
    rintro e w3 ⟨av, tv, L, rs, rfl, ht3, hm3, hL3, hl3, hb3⟩
    have B3 := hid (B2.out.trans (hb3.mono B2.out.size))
    replace R1 := hid (RdC.below R1.out hb3)
    obtain ⟨q1, q2, q3, q4⟩ := AF.out L rs hL3 hl3 hm3
    obtain ⟨q5, q6, q7, q8, q9⟩ := AT.out L rs hl3 hm3
    have T3 := hid ht3
    have K1 := hid (fun (W : World) (h : Below w3.heap.size w3 W) => C1.out rs av tv W (B3.out.trans (h.mono B3.out.size)) (T3.out.below h) q8)
    have K2 := hid (fun (W : World) (h : Below w3.heap.size w3 W) => C2.out rs av tv W (B3.out.trans (h.mono B3.out.size)) (T3.out.below h) q8)
    have K3 := hid (fun (W : World) (h : Below w3.heap.size w3 W) => C3'.out rs av tv W (T3.out.below h))
    have K5 := hid (fun (x y : Value) (W : World) (hx : RdF W x (covR (armT k rs))) (hy : RdF W y fs) => C5.out (covR (armT k rs)) x y W hx hy)
    have K6 := hid (fun (x y : Value) (W : World) (hx : RdF W x (allR (armT k rs))) (hy : RdF W y fs) => C5.out (allR (armT k rs)) x y W hx hy)
    rw [q1] at K1
    rw [q6] at K2
    rw [q7, q4] at K3
    rw [q2] at K5
    rw [q3] at K6
    clear hb3 ht3 hm3 hL3 hl3 q1 q2 q3 q4 q5 q6 q7 q8 q9 AF AT C1 C2 C3' C5 BU
    obtain ⟨ao, an, acap, rfl⟩ : ∃ ao an acap, av = .slice ao an acap := by obtain ⟨a, c, h, -⟩ := T3.out.1.split; exact ⟨_, _, _, h⟩
    obtain ⟨to, tn, tcap, rfl⟩ : ∃ ao an acap, tv = .slice ao an acap := by obtain ⟨a, c, h, -⟩ := RdR.split T3.out.2; exact ⟨_, _, _, h⟩
    have hbx := below_alloc w3 (.cells #[.string (ByteArray.mk #[116]), .slice ao an acap, .slice to tn tcap] 32)
    have CC := hid (fun W h => cells3 (w := w3) (a := .string (ByteArray.mk #[116])) (b := .slice ao an acap) (c := .slice to tn tcap) (t := 32) W h)
    have X3 := hid hbx
    obtain ⟨c0, c1, c2⟩ := CC.out _ (Below.refl _ _)
    replace R1 := hid (RdC.below R1.out hbx)
    obtain ⟨w4, hw4⟩ : ∃ w4 : World, w3.alloc (.cells #[.string (ByteArray.mk #[116]), .slice ao an acap, .slice to tn tcap] 32) = w4 := ⟨_, rfl⟩
    have W4 := hid hw4
    generalize covR (armT k rs) = cr at *
    generalize allR (armT k rs) = ar at *
    generalize keyR (k : Int) fs = kr at *
    clear hbx hw4
    go_wp2_with fail
    rw [W4.out] at CC X3 R1 ⊢
    have B4 := hid (B3.out.trans (X3.out.mono B3.out.size))
    refine (K1.out _ X3.out).mono ?_
    rintro e w5 ⟨v5, rfl, hr5, hb5⟩
    have X5 := hid (X3.out.trans (hb5.mono X3.out.size))
    have R5 := hid hr5
    replace R1 := hid (RdC.below R1.out hb5)
    clear c0 c1 c2
    obtain ⟨c0, c1, c2⟩ := CC.out _ hb5
    have Y5 := hid hb5
    clear hr5 hb5 K1
    go_wp2_with fail
    refine (K2.out _ X5.out).mono ?_
    rintro e w6 ⟨v6, rfl, hr6, hb6⟩
    have X6 := hid (X5.out.trans (hb6.mono X5.out.size))
    have R6 := hid hr6
    replace R1 := hid (RdC.below R1.out hb6)
    replace R5 := hid (RdC.below R5.out hb6)
    have Y6 := hid (Y5.out.trans (hb6.mono Y5.out.size))
    clear c0 c1 c2
    obtain ⟨c0, c1, c2⟩ := CC.out _ Y6.out
    clear hr6 hb6 K2
    go_wp2_with fail
    refine (K3.out _ X6.out).mono ?_
    rintro e w7 ⟨v7, rfl, ho7, hl7, hb7⟩
    have X7 := hid (X6.out.trans (hb7.mono X6.out.size))
    have R7 := hid (RdE.of_owns ho7 (by omega))
    replace R1 := hid (RdC.below R1.out hb7)
    replace R5 := hid (RdC.below R5.out hb7)
    replace R6 := hid (RdC.below R6.out hb7)
    clear c0 c1 c2 ho7 hl7 hb7 K3 CC
    go_wp2_with fail
    refine (C4.out _ _ R1.out).mono ?_
    rintro e w8 ⟨v8, rfl, hr8, -, hb8⟩
    have X8 := hid (X7.out.trans (hb8.mono X7.out.size))
    have R8 := hid hr8
    replace R1 := hid (RdC.below R1.out hb8)
    replace R5 := hid (RdC.below R5.out hb8)
    replace R6 := hid (RdC.below R6.out hb8)
    replace R7 := hid (R7.out.below hb8)
    clear hr8 hb8 C4
    go_wp2_with fail
    refine (K5.out _ _ _ R5.out R1.out).mono ?_
    rintro e w9 ⟨rfl, hb9⟩
    have X9 := hid (X8.out.trans (hb9.mono X8.out.size))
    replace R1 := hid (RdC.below R1.out hb9)
    replace R6 := hid (RdC.below R6.out hb9)
    replace R7 := hid (R7.out.below hb9)
    replace R8 := hid (R8.out.below hb9)
    clear hb9 K5
    go_wp2_with fail
    refine (K6.out _ _ _ R6.out R1.out).mono ?_
    rintro e w10 ⟨rfl, hb10⟩
    have X10 := hid (X9.out.trans (hb10.mono X9.out.size))
    replace R7 := hid (R7.out.below hb10)
    replace R8 := hid (R8.out.below hb10)
    clear hb10 K6
    go_wp2_with fail
    refine (C6.out _ _ _ _ R7.out R8.out).mono ?_
    rintro e w11 ⟨rfl, hb11⟩
    have BF := hid (B3.out.trans ((X10.out.trans (hb11.mono X10.out.size)).mono B3.out.size))
    clear hb11 C6
    go_wp2_with fail
    go_ret
    exact ⟨rfl, BF.out⟩
  · rw [decide_eq_false hl] at OF
    generalize hk : n.toNat % 7 = k at *
    generalize listF (fullN k) ds = fs at *
    clear hk
    unfold enc8 at *
    go_enter Tryz.func3, Tryz.ntmps3
    go_wp2_with fail
    rw [W0.out]
    refine OF.out.mono ?_
    rintro e w1 ⟨v1, rfl, ho1, hb1⟩
    have B1 := hid (B0.out.trans (hb1.mono B0.out.size))
    obtain ⟨xo, xcap, rfl⟩ := (show RdF w1 v1 fs from RdC.of_owns cF_length ho1 (by omega)).form
    clear hb1 ho1 OF
    go_wp2_with fail
    refine (AW.out _ B1.out).mono ?_
    rintro e w2 ⟨rfl, hb2⟩
    have B2 := hid (B1.out.trans (hb2.mono B1.out.size))
    clear hb2
    go_wp2_with fail
    refine (AW.out _ B2.out).mono ?_
    rintro e w3 ⟨rfl, hb3⟩
    have B3 := hid (B2.out.trans (hb3.mono B2.out.size))
    clear hb3
    go_wp2_with fail
    go_ret
    exact ⟨rfl, B3.out⟩

end Go.Proofs.YtalejolehccclaaGreatDoor
