/- The laws FdmineCheck and FdmineSound. -/
import Derived.Test.YthoidncbbcpnnaaGreatDoorFdmY
import Derived.Test.YthoidncbbcpnnaaGreatDoorKmG
import Derived.Test.YthoidncbbcpnnaaGreatDoorAfter
import Derived.Test.YthoidncbbcpnnaaGreatDoorFdmR8
import Derived.Test.YthoidncbbcpnnaaGreatDoorFdmQ
namespace Go.Proofs.YthoidncbbcpnnaaGreatDoor
open Go.RowKit
set_option linter.unusedVariables false

/-- What two boxes, a recipe's and a pair's, leave in each later world. -/
theorem two_boxesZ (w : World) (x y z a b : Value) (tr tf : TypeId) (W : World) (h : Below ((w.alloc (.cells #[x, y, z] tr)).alloc (.cells #[a, b] tf)).heap.size ((w.alloc (.cells #[x, y, z] tr)).alloc (.cells #[a, b] tf)) W) :
    (W.cell? ⟨w.heap.size, 0, none⟩ = some x ∧ W.cell? ⟨w.heap.size, 1, none⟩ = some y ∧ W.cell? ⟨w.heap.size, 2, none⟩ = some z) ∧
    (W.cell? ⟨w.heap.size + 1, 0, none⟩ = some a ∧ W.cell? ⟨w.heap.size + 1, 1, none⟩ = some b) ∧ ∀ i : Nat, W.frozen? ⟨w.heap.size + 1, i, none⟩ = false := by
  have hb01 := below_alloc (w.alloc (.cells #[x, y, z] tr)) (.cells #[a, b] tf)
  refine ⟨cells3 W (hb01.trans (h.mono hb01.size)), ?_, fun i => ?_⟩
  · have := cells2 (w := w.alloc (.cells #[x, y, z] tr)) W h
    rwa [show (w.alloc (.cells #[x, y, z] tr)).heap.size = w.heap.size + 1 by simp] at this
  · refine (h.frozen (p := ⟨w.heap.size + 1, i, none⟩) (by simp)).trans ?_
    have : (w.alloc (.cells #[x, y, z] tr)).heap.size = w.heap.size + 1 := by simp
    rw [← this]; simp

attribute [local irreducible] Go.wpQuiet
set_option maxHeartbeats 6400000 in
set_option maxRecDepth 100000 in
theorem fCheckL (a g : U8) (rr : List RcR) (rv : Value) (n : Int) (lhs : List S) (kv : Value) (ws : List W3) (wv : Value) (w : World) (hT : Tab w) (hr : RdRc w rv rr) (hk : RdE enc w kv lhs) (hw : RdW w wv ws) :
    Calls Tryz.prog 6 #[.agg #[.int .u8 (a.toNat : Int), .int .u8 (g.toNat : Int), rv], .int .i64 n, .agg #[kv, wv]] w fun e w' => e = .returned (.bool true) ∧ Below w.heap.size w w' := by
  have TB := hid (fun (W : World) (h : RdRc W rv rr) (hm : 8 < rr.length) => table_big a g rr rv 8 W h hm)
  have TK := hid (fun (W : World) (h : RdRc W rv rr) (hm : rr.length ≤ 8) => table_ok a g rr rv 8 W h hm (Nat.le_refl _))
  generalize (a.toNat : Int) = ai at *
  generalize (g.toNat : Int) = gi at *
  have hb00 := below_alloc w (.cells #[.int .u8 ai, .int .u8 gi, rv] 46)
  have hb01 := below_alloc (w.alloc (.cells #[.int .u8 ai, .int .u8 gi, rv] 46)) (.cells #[kv, wv] 48)
  have hb0 := hb00.trans (hb01.mono hb00.size)
  have CB := hid (fun (W : World) h => two_boxesZ w (.int .u8 ai) (.int .u8 gi) rv kv wv 46 48 W h)
  have RR := hid (hr.below hb0)
  have KV := hid (hk.below hb0)
  have WV := hid (RdC.below hw hb0)
  obtain ⟨w0, hw0⟩ : ∃ w0 : World, (w.alloc (.cells #[.int .u8 ai, .int .u8 gi, rv] 46)).alloc (.cells #[kv, wv] 48) = w0 := ⟨_, rfl⟩
  rw [hw0] at hb0 CB RR KV WV
  have B0 := hid hb0
  have W0 := hid hw0
  have HT0 := hid (hT.below hb0)
  have C0 := hid (fun (W : World) (h : Below w0.heap.size w0 W) => (CB.out W h).2.1)
  obtain ⟨⟨q00, q01, q02⟩, ⟨q10, q11⟩, -⟩ := CB.out _ (Below.refl _ _)
  obtain ⟨ro, rcap, hv, hrl, hrc⟩ := RR.out.split
  subst hv
  obtain ⟨lo, lcap, rfl, hll, -⟩ := KV.out.split
  obtain ⟨wo, wcap, rfl, hwl, -⟩ := RdW.split WV.out
  clear hb0 hb00 hb01 hw0 hrc hr hT hk hw CB
  by_cases hm : rr.length ≤ 8
  · replace TK := hid (fun (W : World) (h : RdRc W (.slice ro rr.length rcap) rr) => TK.out W h hm)
    clear TB
    by_cases h1 : 20 < lhs.length
    · have c1 : decide ((20 : Int) < (lhs.length : Int)) = true := by rw [decide_eq_true_iff]; omega
      have c2 : decide ((lhs.length : Int) > (20 : Int)) = true := by rw [decide_eq_true_iff]; omega
      have H1 := hid h1
      clear h1
      go_enter Tryz.func6, Tryz.ntmps6
      go_wp2_with fail
      rw [W0.out]
      go_wp2_with fail
      refine (TK.out _ RR.out).mono ?_
      rintro e w1 ⟨av, tv, t, rfl, hTT, hG, -, -, -, hb1⟩
      have GT := hid hG
      have OKT := hid (good_okT hG)
      have FE := hid (good_fE hG)
      obtain ⟨ao, acap, hva, -⟩ := hTT.1.split
      obtain ⟨to, tcap, hvt, -⟩ := RdR.split hTT.2
      have hb2 := below_alloc w1 (.cells #[.string t.1, av, tv] 25)
      have C3 := hid (fun W h => cells3 (w := w1) (a := .string t.1) (b := av) (c := tv) (t := 25) W h)
      have T2 := hid (hTT.below hb2)
      obtain ⟨w2, hw2⟩ : ∃ w2 : World, w1.alloc (.cells #[.string t.1, av, tv] 25) = w2 := ⟨_, rfl⟩
      rw [hw2] at hb2 C3 T2
      have W2 := hid hw2
      have D2 := hid (hb1.trans (hb2.mono hb1.size))
      have HT2 := hid (HT0.out.below D2.out)
      have CC := hid (fun (W : World) (h : Below w2.heap.size w2 W) => C0.out W (D2.out.trans (h.mono D2.out.size)))
      have AW := hid (fun (W : World) (h : Below w2.heap.size w2 W) => awake28_any W (HT2.out.below h))
      
      clear GT OKT FE
      obtain ⟨nm, ats, rs⟩ := t
      simp only at hva hvt
      subst hva hvt
      obtain ⟨t100, t101, t102⟩ := C3.out _ (Below.refl _ _)
      obtain ⟨y100, y101⟩ := CC.out _ (Below.refl _ _)
      have D10 := hid (Below.refl w2.heap.size w2)
      clear hb1 hb2 hw2 hTT hG TK q00 q01 q02 q10 q11
      go_wp2_with fail
      rw [W2.out]
      go_wp2_with fail
      refine (AW.out _ D10.out).mono ?_
      rintro e w11 ⟨rfl, hb11⟩
      have D11 := hid (D10.out.trans (hb11.mono D10.out.size))
      obtain ⟨t110, t111, t112⟩ := C3.out _ D11.out
      obtain ⟨y110, y111⟩ := CC.out _ D11.out
      clear hb11 t100 t101 t102 y100 y101
      go_wp2_with fail
      refine (AW.out _ D11.out).mono ?_
      rintro e w12 ⟨rfl, hb12⟩
      have D12 := hid (D11.out.trans (hb12.mono D11.out.size))
      obtain ⟨t120, t121, t122⟩ := C3.out _ D12.out
      obtain ⟨y120, y121⟩ := CC.out _ D12.out
      clear hb12 t110 t111 t112 y110 y111
      have BF := hid (B0.out.trans ((D2.out.trans (D12.out.mono D2.out.size)).mono B0.out.size))
      go_wp2_with fail
      go_ret
      exact ⟨rfl, BF.out⟩
    · have c1 : decide ((20 : Int) < (lhs.length : Int)) = false := by rw [decide_eq_false_iff_not]; omega
      have c2 : decide ((lhs.length : Int) > (20 : Int)) = false := by rw [decide_eq_false_iff_not]; omega
      have H1 := hid h1
      clear h1
      by_cases h2 : 20 < ws.length
      · have c3 : decide ((20 : Int) < (ws.length : Int)) = true := by rw [decide_eq_true_iff]; omega
        have c4 : decide ((ws.length : Int) > (20 : Int)) = true := by rw [decide_eq_true_iff]; omega
        have H2 := hid h2
        clear h2
        go_enter Tryz.func6, Tryz.ntmps6
        go_wp2_with fail
        rw [W0.out]
        go_wp2_with fail
        refine (TK.out _ RR.out).mono ?_
        rintro e w1 ⟨av, tv, t, rfl, hTT, hG, -, -, -, hb1⟩
        have GT := hid hG
        have OKT := hid (good_okT hG)
        have FE := hid (good_fE hG)
        obtain ⟨ao, acap, hva, -⟩ := hTT.1.split
        obtain ⟨to, tcap, hvt, -⟩ := RdR.split hTT.2
        have hb2 := below_alloc w1 (.cells #[.string t.1, av, tv] 25)
        have C3 := hid (fun W h => cells3 (w := w1) (a := .string t.1) (b := av) (c := tv) (t := 25) W h)
        have T2 := hid (hTT.below hb2)
        obtain ⟨w2, hw2⟩ : ∃ w2 : World, w1.alloc (.cells #[.string t.1, av, tv] 25) = w2 := ⟨_, rfl⟩
        rw [hw2] at hb2 C3 T2
        have W2 := hid hw2
        have D2 := hid (hb1.trans (hb2.mono hb1.size))
        have HT2 := hid (HT0.out.below D2.out)
        have CC := hid (fun (W : World) (h : Below w2.heap.size w2 W) => C0.out W (D2.out.trans (h.mono D2.out.size)))
        have AW := hid (fun (W : World) (h : Below w2.heap.size w2 W) => awake28_any W (HT2.out.below h))
        
        clear GT OKT FE
        obtain ⟨nm, ats, rs⟩ := t
        simp only at hva hvt
        subst hva hvt
        obtain ⟨t100, t101, t102⟩ := C3.out _ (Below.refl _ _)
        obtain ⟨y100, y101⟩ := CC.out _ (Below.refl _ _)
        have D10 := hid (Below.refl w2.heap.size w2)
        clear hb1 hb2 hw2 hTT hG TK q00 q01 q02 q10 q11
        go_wp2_with fail
        rw [W2.out]
        go_wp2_with fail
        refine (AW.out _ D10.out).mono ?_
        rintro e w11 ⟨rfl, hb11⟩
        have D11 := hid (D10.out.trans (hb11.mono D10.out.size))
        obtain ⟨t110, t111, t112⟩ := C3.out _ D11.out
        obtain ⟨y110, y111⟩ := CC.out _ D11.out
        clear hb11 t100 t101 t102 y100 y101
        go_wp2_with fail
        refine (AW.out _ D11.out).mono ?_
        rintro e w12 ⟨rfl, hb12⟩
        have D12 := hid (D11.out.trans (hb12.mono D11.out.size))
        obtain ⟨t120, t121, t122⟩ := C3.out _ D12.out
        obtain ⟨y120, y121⟩ := CC.out _ D12.out
        clear hb12 t110 t111 t112 y110 y111
        have BF := hid (B0.out.trans ((D2.out.trans (D12.out.mono D2.out.size)).mono B0.out.size))
        go_wp2_with fail
        go_ret
        exact ⟨rfl, BF.out⟩
      · have c3 : decide ((20 : Int) < (ws.length : Int)) = false := by rw [decide_eq_false_iff_not]; omega
        have c4 : decide ((ws.length : Int) > (20 : Int)) = false := by rw [decide_eq_false_iff_not]; omega
        have H2 := hid h2
        clear h2
        go_enter Tryz.func6, Tryz.ntmps6
        go_wp2_with fail
        rw [W0.out]
        go_wp2_with fail
        refine (TK.out _ RR.out).mono ?_
        rintro e w1 ⟨av, tv, t, rfl, hTT, hG, -, -, -, hb1⟩
        have GT := hid hG
        have OKT := hid (good_okT hG)
        have FE := hid (good_fE hG)
        obtain ⟨ao, acap, hva, -⟩ := hTT.1.split
        obtain ⟨to, tcap, hvt, -⟩ := RdR.split hTT.2
        have hb2 := below_alloc w1 (.cells #[.string t.1, av, tv] 25)
        have C3 := hid (fun W h => cells3 (w := w1) (a := .string t.1) (b := av) (c := tv) (t := 25) W h)
        have T2 := hid (hTT.below hb2)
        obtain ⟨w2, hw2⟩ : ∃ w2 : World, w1.alloc (.cells #[.string t.1, av, tv] 25) = w2 := ⟨_, rfl⟩
        rw [hw2] at hb2 C3 T2
        have W2 := hid hw2
        have D2 := hid (hb1.trans (hb2.mono hb1.size))
        have HT2 := hid (HT0.out.below D2.out)
        have CC := hid (fun (W : World) (h : Below w2.heap.size w2 W) => C0.out W (D2.out.trans (h.mono D2.out.size)))
        have AW := hid (fun (W : World) (h : Below w2.heap.size w2 W) => awake28_any W (HT2.out.below h))
        have FC := hid (fun (W : World) (h : Below w2.heap.size w2 W) => fchk_any t av tv n lhs (.slice lo lhs.length lcap) ws (.slice wo ws.length wcap) W (T2.out.below h) (HT2.out.below h) (fun _ => OKT.out) (KV.out.below (D2.out.trans (h.mono D2.out.size))) (RdC.below WV.out (D2.out.trans (h.mono D2.out.size))) (by have := H1.out; omega) (by have := H2.out; omega))
        have RC := hid (fun (W : World) (h : Below w2.heap.size w2 W) => rchk_any t av tv n lhs (.slice lo lhs.length lcap) ws (.slice wo ws.length wcap) W (T2.out.below h) (KV.out.below (D2.out.trans (h.mono D2.out.size))) (RdC.below WV.out (D2.out.trans (h.mono D2.out.size))) (by have := H1.out; omega) (by have := H2.out; omega))
        rw [← chk_ref (t := t) (a := n) (lhs := lhs) (ws := ws) (by have := H2.out; omega)] at RC
        generalize fchkB t n lhs ws = ck at *
        have hck : (ck == ck) = true := by simp
        clear GT OKT FE
        obtain ⟨nm, ats, rs⟩ := t
        simp only at hva hvt
        subst hva hvt
        obtain ⟨t100, t101, t102⟩ := C3.out _ (Below.refl _ _)
        obtain ⟨y100, y101⟩ := CC.out _ (Below.refl _ _)
        have D10 := hid (Below.refl w2.heap.size w2)
        clear hb1 hb2 hw2 hTT hG TK q00 q01 q02 q10 q11
        go_wp2_with fail
        rw [W2.out]
        go_wp2_with fail
        refine (AW.out _ D10.out).mono ?_
        rintro e w11 ⟨rfl, hb11⟩
        have D11 := hid (D10.out.trans (hb11.mono D10.out.size))
        obtain ⟨t110, t111, t112⟩ := C3.out _ D11.out
        obtain ⟨y110, y111⟩ := CC.out _ D11.out
        clear hb11 t100 t101 t102 y100 y101
        have m0 := fun z : After w11 => After.cell t110 z
        have m1 := fun z : After w11 => After.cell t111 z
        have m2 := fun z : After w11 => After.cell t112 z
        have m3 := fun z : After w11 => After.cell y110 z
        have m4 := fun z : After w11 => After.cell y111 z
        have C1z := hid (fun z : After w11 => Calls.after z (FC.out z.world (D11.out.trans (z.below.mono D11.out.size))))
        have C2z := hid (fun z : After w11 => Calls.after z (RC.out z.world (D11.out.trans (z.below.mono D11.out.size))))
        go_wp2_with fail
        refine wp_region_after (by kernel_rfl) (by kernel_rfl) ?_
        repeat (any_goals (quiet_step (first | (with_reducible exact C1z.out _) | (with_reducible exact C2z.out _) | exact C1z.out _ | exact C2z.out _)))
        refine wpQuiet_nil ?_
        intro w12 hb12
        have D12 := hid (D11.out.trans (hb12.mono D11.out.size))
        clear hb12 m0 m1 m2 m3 m4 C1z C2z t110 t111 t112 y110 y111
        have BF := hid (B0.out.trans ((D2.out.trans (D12.out.mono D2.out.size)).mono B0.out.size))
        go_wp2_with fail
        go_ret
        exact ⟨by first | rfl | exact ret_bool hck, BF.out⟩
  · replace TB := hid (fun (W : World) (h : RdRc W (.slice ro rr.length rcap) rr) => TB.out W h (by omega))
    clear TK
    go_enter Tryz.func6, Tryz.ntmps6
    go_wp2_with fail
    rw [W0.out]
    go_wp2_with fail
    refine (TB.out _ RR.out).mono ?_
    rintro e w1 ⟨rfl, hb1⟩
    have B1 := hid ((B0.out.trans (hb1.mono B0.out.size)).alloc (Nat.le_trans B0.out.size hb1.size) (.cells #[.string (ByteArray.mk #[]), .slice none 0 0, .slice none 0 0] 25))
    have HT1 := hid ((HT0.out.below hb1).below (below_alloc w1 (.cells #[.string (ByteArray.mk #[]), .slice none 0 0, .slice none 0 0] 25)))
    clear hb1
    go_wp2_with fail
    refine (awake28_any _ HT1.out).mono ?_
    rintro e w2 ⟨rfl, hb2⟩
    have B2 := hid (B1.out.trans (hb2.mono B1.out.size))
    replace HT1 := hid (HT1.out.below hb2)
    clear hb2
    go_wp2_with fail
    refine (awake28_any _ HT1.out).mono ?_
    rintro e w3 ⟨rfl, hb3⟩
    have B3 := hid (B2.out.trans (hb3.mono B2.out.size))
    clear hb3
    go_wp2_with fail
    go_ret
    exact ⟨rfl, B3.out⟩

set_option maxHeartbeats 6400000 in
set_option maxRecDepth 100000 in
theorem fSoundL (a g : U8) (rr : List RcR) (rv : Value) (n : Int) (lhs : List S) (kv : Value) (ws : List W3) (wv : Value) (w : World) (hT : Tab w) (hr : RdRc w rv rr) (hk : RdE enc w kv lhs) (hw : RdW w wv ws) :
    Calls Tryz.prog 7 #[.agg #[.int .u8 (a.toNat : Int), .int .u8 (g.toNat : Int), rv], .int .i64 n, .agg #[kv, wv]] w fun e w' => e = .returned (.bool true) ∧ Below w.heap.size w w' := by
  have TB := hid (fun (W : World) (h : RdRc W rv rr) (hm : 8 < rr.length) => table_big a g rr rv 8 W h hm)
  have TK := hid (fun (W : World) (h : RdRc W rv rr) (hm : rr.length ≤ 8) => table_ok a g rr rv 8 W h hm (Nat.le_refl _))
  generalize (a.toNat : Int) = ai at *
  generalize (g.toNat : Int) = gi at *
  have hb00 := below_alloc w (.cells #[.int .u8 ai, .int .u8 gi, rv] 46)
  have hb01 := below_alloc (w.alloc (.cells #[.int .u8 ai, .int .u8 gi, rv] 46)) (.cells #[kv, wv] 48)
  have hb0 := hb00.trans (hb01.mono hb00.size)
  have CB := hid (fun (W : World) h => two_boxesZ w (.int .u8 ai) (.int .u8 gi) rv kv wv 46 48 W h)
  have RR := hid (hr.below hb0)
  have KV := hid (hk.below hb0)
  have WV := hid (RdC.below hw hb0)
  obtain ⟨w0, hw0⟩ : ∃ w0 : World, (w.alloc (.cells #[.int .u8 ai, .int .u8 gi, rv] 46)).alloc (.cells #[kv, wv] 48) = w0 := ⟨_, rfl⟩
  rw [hw0] at hb0 CB RR KV WV
  have B0 := hid hb0
  have W0 := hid hw0
  have HT0 := hid (hT.below hb0)
  have C0 := hid (fun (W : World) (h : Below w0.heap.size w0 W) => (CB.out W h).2.1)
  obtain ⟨⟨q00, q01, q02⟩, ⟨q10, q11⟩, -⟩ := CB.out _ (Below.refl _ _)
  obtain ⟨ro, rcap, hv, hrl, hrc⟩ := RR.out.split
  subst hv
  obtain ⟨lo, lcap, rfl, hll, -⟩ := KV.out.split
  obtain ⟨wo, wcap, rfl, hwl, -⟩ := RdW.split WV.out
  clear hb0 hb00 hb01 hw0 hrc hr hT hk hw CB
  by_cases hm : rr.length ≤ 8
  · replace TK := hid (fun (W : World) (h : RdRc W (.slice ro rr.length rcap) rr) => TK.out W h hm)
    clear TB
    by_cases h1 : 20 < lhs.length
    · have c1 : decide ((20 : Int) < (lhs.length : Int)) = true := by rw [decide_eq_true_iff]; omega
      have c2 : decide ((lhs.length : Int) > (20 : Int)) = true := by rw [decide_eq_true_iff]; omega
      have H1 := hid h1
      clear h1
      go_enter Tryz.func7, Tryz.ntmps7
      go_wp2_with fail
      rw [W0.out]
      go_wp2_with fail
      refine (TK.out _ RR.out).mono ?_
      rintro e w1 ⟨av, tv, t, rfl, hTT, hG, -, -, -, hb1⟩
      have GT := hid hG
      have OKT := hid (good_okT hG)
      have FE := hid (good_fE hG)
      obtain ⟨ao, acap, hva, -⟩ := hTT.1.split
      obtain ⟨to, tcap, hvt, -⟩ := RdR.split hTT.2
      have hb2 := below_alloc w1 (.cells #[.string t.1, av, tv] 25)
      have C3 := hid (fun W h => cells3 (w := w1) (a := .string t.1) (b := av) (c := tv) (t := 25) W h)
      have T2 := hid (hTT.below hb2)
      obtain ⟨w2, hw2⟩ : ∃ w2 : World, w1.alloc (.cells #[.string t.1, av, tv] 25) = w2 := ⟨_, rfl⟩
      rw [hw2] at hb2 C3 T2
      have W2 := hid hw2
      have D2 := hid (hb1.trans (hb2.mono hb1.size))
      have HT2 := hid (HT0.out.below D2.out)
      have CC := hid (fun (W : World) (h : Below w2.heap.size w2 W) => C0.out W (D2.out.trans (h.mono D2.out.size)))
      have AW := hid (fun (W : World) (h : Below w2.heap.size w2 W) => awake28_any W (HT2.out.below h))
      
      clear GT OKT FE
      obtain ⟨nm, ats, rs⟩ := t
      simp only at hva hvt
      subst hva hvt
      obtain ⟨t100, t101, t102⟩ := C3.out _ (Below.refl _ _)
      obtain ⟨y100, y101⟩ := CC.out _ (Below.refl _ _)
      have D10 := hid (Below.refl w2.heap.size w2)
      clear hb1 hb2 hw2 hTT hG TK q00 q01 q02 q10 q11
      go_wp2_with fail
      rw [W2.out]
      go_wp2_with fail
      refine (AW.out _ D10.out).mono ?_
      rintro e w11 ⟨rfl, hb11⟩
      have D11 := hid (D10.out.trans (hb11.mono D10.out.size))
      obtain ⟨t110, t111, t112⟩ := C3.out _ D11.out
      obtain ⟨y110, y111⟩ := CC.out _ D11.out
      clear hb11 t100 t101 t102 y100 y101
      go_wp2_with fail
      refine (AW.out _ D11.out).mono ?_
      rintro e w12 ⟨rfl, hb12⟩
      have D12 := hid (D11.out.trans (hb12.mono D11.out.size))
      obtain ⟨t120, t121, t122⟩ := C3.out _ D12.out
      obtain ⟨y120, y121⟩ := CC.out _ D12.out
      clear hb12 t110 t111 t112 y110 y111
      have BF := hid (B0.out.trans ((D2.out.trans (D12.out.mono D2.out.size)).mono B0.out.size))
      go_wp2_with fail
      go_ret
      exact ⟨rfl, BF.out⟩
    · have c1 : decide ((20 : Int) < (lhs.length : Int)) = false := by rw [decide_eq_false_iff_not]; omega
      have c2 : decide ((lhs.length : Int) > (20 : Int)) = false := by rw [decide_eq_false_iff_not]; omega
      have H1 := hid h1
      clear h1
      by_cases h2 : 20 < ws.length
      · have c3 : decide ((20 : Int) < (ws.length : Int)) = true := by rw [decide_eq_true_iff]; omega
        have c4 : decide ((ws.length : Int) > (20 : Int)) = true := by rw [decide_eq_true_iff]; omega
        have H2 := hid h2
        clear h2
        go_enter Tryz.func7, Tryz.ntmps7
        go_wp2_with fail
        rw [W0.out]
        go_wp2_with fail
        refine (TK.out _ RR.out).mono ?_
        rintro e w1 ⟨av, tv, t, rfl, hTT, hG, -, -, -, hb1⟩
        have GT := hid hG
        have OKT := hid (good_okT hG)
        have FE := hid (good_fE hG)
        obtain ⟨ao, acap, hva, -⟩ := hTT.1.split
        obtain ⟨to, tcap, hvt, -⟩ := RdR.split hTT.2
        have hb2 := below_alloc w1 (.cells #[.string t.1, av, tv] 25)
        have C3 := hid (fun W h => cells3 (w := w1) (a := .string t.1) (b := av) (c := tv) (t := 25) W h)
        have T2 := hid (hTT.below hb2)
        obtain ⟨w2, hw2⟩ : ∃ w2 : World, w1.alloc (.cells #[.string t.1, av, tv] 25) = w2 := ⟨_, rfl⟩
        rw [hw2] at hb2 C3 T2
        have W2 := hid hw2
        have D2 := hid (hb1.trans (hb2.mono hb1.size))
        have HT2 := hid (HT0.out.below D2.out)
        have CC := hid (fun (W : World) (h : Below w2.heap.size w2 W) => C0.out W (D2.out.trans (h.mono D2.out.size)))
        have AW := hid (fun (W : World) (h : Below w2.heap.size w2 W) => awake28_any W (HT2.out.below h))
        
        clear GT OKT FE
        obtain ⟨nm, ats, rs⟩ := t
        simp only at hva hvt
        subst hva hvt
        obtain ⟨t100, t101, t102⟩ := C3.out _ (Below.refl _ _)
        obtain ⟨y100, y101⟩ := CC.out _ (Below.refl _ _)
        have D10 := hid (Below.refl w2.heap.size w2)
        clear hb1 hb2 hw2 hTT hG TK q00 q01 q02 q10 q11
        go_wp2_with fail
        rw [W2.out]
        go_wp2_with fail
        refine (AW.out _ D10.out).mono ?_
        rintro e w11 ⟨rfl, hb11⟩
        have D11 := hid (D10.out.trans (hb11.mono D10.out.size))
        obtain ⟨t110, t111, t112⟩ := C3.out _ D11.out
        obtain ⟨y110, y111⟩ := CC.out _ D11.out
        clear hb11 t100 t101 t102 y100 y101
        go_wp2_with fail
        refine (AW.out _ D11.out).mono ?_
        rintro e w12 ⟨rfl, hb12⟩
        have D12 := hid (D11.out.trans (hb12.mono D11.out.size))
        obtain ⟨t120, t121, t122⟩ := C3.out _ D12.out
        obtain ⟨y120, y121⟩ := CC.out _ D12.out
        clear hb12 t110 t111 t112 y110 y111
        have BF := hid (B0.out.trans ((D2.out.trans (D12.out.mono D2.out.size)).mono B0.out.size))
        go_wp2_with fail
        go_ret
        exact ⟨rfl, BF.out⟩
      · have c3 : decide ((20 : Int) < (ws.length : Int)) = false := by rw [decide_eq_false_iff_not]; omega
        have c4 : decide ((ws.length : Int) > (20 : Int)) = false := by rw [decide_eq_false_iff_not]; omega
        have H2 := hid h2
        clear h2
        go_enter Tryz.func7, Tryz.ntmps7
        go_wp2_with fail
        rw [W0.out]
        go_wp2_with fail
        refine (TK.out _ RR.out).mono ?_
        rintro e w1 ⟨av, tv, t, rfl, hTT, hG, -, -, -, hb1⟩
        have GT := hid hG
        have OKT := hid (good_okT hG)
        have FE := hid (good_fE hG)
        obtain ⟨ao, acap, hva, -⟩ := hTT.1.split
        obtain ⟨to, tcap, hvt, -⟩ := RdR.split hTT.2
        have hb2 := below_alloc w1 (.cells #[.string t.1, av, tv] 25)
        have C3 := hid (fun W h => cells3 (w := w1) (a := .string t.1) (b := av) (c := tv) (t := 25) W h)
        have T2 := hid (hTT.below hb2)
        obtain ⟨w2, hw2⟩ : ∃ w2 : World, w1.alloc (.cells #[.string t.1, av, tv] 25) = w2 := ⟨_, rfl⟩
        rw [hw2] at hb2 C3 T2
        have W2 := hid hw2
        have D2 := hid (hb1.trans (hb2.mono hb1.size))
        have HT2 := hid (HT0.out.below D2.out)
        have CC := hid (fun (W : World) (h : Below w2.heap.size w2 W) => C0.out W (D2.out.trans (h.mono D2.out.size)))
        have AW := hid (fun (W : World) (h : Below w2.heap.size w2 W) => awake28_any W (HT2.out.below h))
        have FC := hid (fun (W : World) (h : Below w2.heap.size w2 W) => fchk_any t av tv n lhs (.slice lo lhs.length lcap) ws (.slice wo ws.length wcap) W (T2.out.below h) (HT2.out.below h) (fun _ => OKT.out) (KV.out.below (D2.out.trans (h.mono D2.out.size))) (RdC.below WV.out (D2.out.trans (h.mono D2.out.size))) (by have := H1.out; omega) (by have := H2.out; omega))
        have RF := hid (fun (W : World) (h : Below w2.heap.size w2 W) => rFor_any t av tv n W (T2.out.below h))
        have L1 := hid (forR_len t n)
        have CE := hid (fun (h : fchkB t n lhs ws = true) => chk_sound (by have := H2.out; omega) h)
        have SA := hid (fun (u v : Value) (W : World) (hu : RdE enc W u lhs) (hv : RdE enc W v lhs) => ssame_any lhs u v W hu hv)
        generalize fchkB t n lhs ws = ck at *
        generalize forR t n = fl at *
        generalize faE t n = fe at *
        clear GT OKT FE
        obtain ⟨nm, ats, rs⟩ := t
        simp only at hva hvt
        subst hva hvt
        obtain ⟨t100, t101, t102⟩ := C3.out _ (Below.refl _ _)
        obtain ⟨y100, y101⟩ := CC.out _ (Below.refl _ _)
        have D10 := hid (Below.refl w2.heap.size w2)
        clear hb1 hb2 hw2 hTT hG TK q00 q01 q02 q10 q11
        go_wp2_with fail
        rw [W2.out]
        go_wp2_with fail
        refine (AW.out _ D10.out).mono ?_
        rintro e w11 ⟨rfl, hb11⟩
        have D11 := hid (D10.out.trans (hb11.mono D10.out.size))
        obtain ⟨t110, t111, t112⟩ := C3.out _ D11.out
        obtain ⟨y110, y111⟩ := CC.out _ D11.out
        clear hb11 t100 t101 t102 y100 y101
        go_wp2_with fail
        refine (RF.out _ D11.out).mono ?_
        rintro e w12 ⟨v12, rfl, ho12, hb12⟩
        have D12 := hid (D11.out.trans (hb12.mono D11.out.size))
        obtain ⟨t120, t121, t122⟩ := C3.out _ D12.out
        obtain ⟨y120, y121⟩ := CC.out _ D12.out
        clear hb12 t110 t111 t112 y110 y111
        have R12 := hid (RdE.of_owns ho12 (by have := L1.out; omega))
        clear ho12
        cases ck with
        | false =>
          go_wp2_with fail
          refine (FC.out _ D12.out).mono ?_
          rintro e w13 ⟨rfl, hb13⟩
          have D13 := hid (D12.out.trans (hb13.mono D12.out.size))
          obtain ⟨t130, t131, t132⟩ := C3.out _ D13.out
          obtain ⟨y130, y131⟩ := CC.out _ D13.out
          clear hb13 t120 t121 t122 y120 y121
          have BF := hid (B0.out.trans ((D2.out.trans (D13.out.mono D2.out.size)).mono B0.out.size))
          go_wp2_with fail
          go_ret
          exact ⟨rfl, BF.out⟩
        | true =>
          obtain ⟨hf0, hle⟩ := CE.out (by first | rfl | trivial)
          subst hf0
          rw [← hle] at R12
          clear hle
          go_wp2_with fail
          refine (FC.out _ D12.out).mono ?_
          rintro e w13 ⟨rfl, hb13⟩
          have D13 := hid (D12.out.trans (hb13.mono D12.out.size))
          replace R12 := hid (R12.out.below hb13)
          obtain ⟨t130, t131, t132⟩ := C3.out _ D13.out
          obtain ⟨y130, y131⟩ := CC.out _ D13.out
          clear hb13 t120 t121 t122 y120 y121
          have SX := hid (SA.out (.slice lo lhs.length lcap) v12 w13 (KV.out.below (D2.out.trans (D13.out.mono D2.out.size))) R12.out)
          go_wp2_with fail
          refine (SX.out).mono ?_
          rintro e w14 ⟨rfl, hb14⟩
          have D14 := hid (D13.out.trans (hb14.mono D13.out.size))
          obtain ⟨t140, t141, t142⟩ := C3.out _ D14.out
          obtain ⟨y140, y141⟩ := CC.out _ D14.out
          clear hb14 t130 t131 t132 y130 y131
          have BF := hid (B0.out.trans ((D2.out.trans (D14.out.mono D2.out.size)).mono B0.out.size))
          go_wp2_with fail
          go_ret
          exact ⟨rfl, BF.out⟩
  · replace TB := hid (fun (W : World) (h : RdRc W (.slice ro rr.length rcap) rr) => TB.out W h (by omega))
    clear TK
    go_enter Tryz.func7, Tryz.ntmps7
    go_wp2_with fail
    rw [W0.out]
    go_wp2_with fail
    refine (TB.out _ RR.out).mono ?_
    rintro e w1 ⟨rfl, hb1⟩
    have B1 := hid ((B0.out.trans (hb1.mono B0.out.size)).alloc (Nat.le_trans B0.out.size hb1.size) (.cells #[.string (ByteArray.mk #[]), .slice none 0 0, .slice none 0 0] 25))
    have HT1 := hid ((HT0.out.below hb1).below (below_alloc w1 (.cells #[.string (ByteArray.mk #[]), .slice none 0 0, .slice none 0 0] 25)))
    clear hb1
    go_wp2_with fail
    refine (awake28_any _ HT1.out).mono ?_
    rintro e w2 ⟨rfl, hb2⟩
    have B2 := hid (B1.out.trans (hb2.mono B1.out.size))
    replace HT1 := hid (HT1.out.below hb2)
    clear hb2
    go_wp2_with fail
    refine (awake28_any _ HT1.out).mono ?_
    rintro e w3 ⟨rfl, hb3⟩
    have B3 := hid (B2.out.trans (hb3.mono B2.out.size))
    clear hb3
    go_wp2_with fail
    go_ret
    exact ⟨rfl, B3.out⟩

end Go.Proofs.YthoidncbbcpnnaaGreatDoor
