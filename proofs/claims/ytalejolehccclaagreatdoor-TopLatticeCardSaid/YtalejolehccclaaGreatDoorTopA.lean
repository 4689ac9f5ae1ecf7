/- The law TopLattice. -/
import Derived.Test.YtalejolehccclaaGreatDoorGTopD
import Derived.Test.YtalejolehccclaaGreatDoorGTopA
import Derived.Test.YtalejolehccclaaGreatDoorGTab30
import Derived.Test.YtalejolehccclaaGreatDoorKmG
namespace Go.Proofs.YtalejolehccclaaGreatDoor
open Go.RowKit
set_option linter.unusedVariables false

theorem good_fEL {t : T3} (h : GoodT t) : fE t = 0 := by
 have h1 := tabE2_tab h.1
 unfold fE
 rw [if_neg (by simpa using h1), if_neg (by have := h.2.1; have := h.2.2.1; omega)]
theorem ctxA_next {a : Int} {C : List C3S} {k : Nat} {c : C3S} (h : C[k]? = some c) : ctxA a (C.take (k + 1)) = ctxA a (C.take k) ++ if (c.2.1 == a) = true then [c.1] else [] := by
 unfold ctxA
 rw [take_next h, List.filter_append, List.map_append, List.filter_cons, List.filter_nil]
 split <;> rfl
theorem ctxA_len (a : Int) (C : List C3S) (k : Nat) : (ctxA a (C.take k)).length <= C.length := by
 unfold ctxA
 rw [List.length_map]
 refine Nat.le_trans (List.length_filter_le _ _) ?_
 rw [List.length_take]; omega
theorem projL_next {j : Nat} {L : List F} {k : Nat} {f : F} (h : L[k]? = some f) : projL j (L.take (k + 1)) = projL j (L.take k) ++ if (f.2 == bit j) = true then [f.1] else [] := by
 unfold projL
 rw [take_next h, List.filter_append, List.map_append, List.filter_cons, List.filter_nil]
 split <;> rfl
theorem projL_len (j : Nat) (L : List F) (k : Nat) : (projL j (L.take k)).length <= (projL j L).length := by
 unfold projL
 exact (((List.take_sublist k L).filter _).map _).length_le
theorem dif_valid {m a : Nat} (hm : m <= 16) {ps : List S} (hp : ps.length <= 200) : validS (m : Int) (keepS downR (diffL m a ps)) = 0 := by
 have h := edg_valid (a := a) hm (ws := (withoutS ps a).map fun s => ((s, (0 : Int), (0 : Int)) : W3)) (by rw [List.length_map]; exact Nat.le_trans (withoutS_length _ _) hp)
 rw [edgO_eq, avoid_map (fun _ => rfl)] at h
 unfold edgS othS at h
 unfold diffL
 rw [show ((withoutS ps a).map fun s => fullN m &&& ~~~ s &&& ~~~ bit a) = (withoutS ps a).map fun p => fullN m &&& ~~~ bit a &&& ~~~ p from List.map_congr_left fun s _ => by rw [BitVec.and_assoc, BitVec.and_comm (~~~ s), <- BitVec.and_assoc]]
 exact h
theorem con_len {SM : C3S -> Bool} {m : Nat} : ∀ ys : List S, (ys.flatMap fun X => conL SM X m).length <= ys.length * m := by
 intro ys
 induction ys with
 | nil => simp
 | cons y ys ih =>
  rw [List.flatMap_cons, List.length_append, List.length_cons, Nat.succ_mul]
  have := conL_len SM y m
  omega
theorem boxR (w : World) (x y z : Value) (t : TypeId) (W : World) (h : Below (w.alloc (.cells #[x, y, z] t)).heap.size (w.alloc (.cells #[x, y, z] t)) W) : W.cell? ⟨w.heap.size, 0, none⟩ = some x /\ W.cell? ⟨w.heap.size, 1, none⟩ = some y /\ W.cell? ⟨w.heap.size, 2, none⟩ = some z := cells3 W h

set_option maxHeartbeats 6400000 in
set_option maxRecDepth 100000 in
theorem tLatticeL (a g : U8) (rr : List RcR) (rv : Value) (l : U8) (w : World) (hT : Tab w) (hr : RdRc w rv rr) :
  Calls Tryz.prog 5 #[.agg #[.int .u8 (a.toNat : Int), .int .u8 (g.toNat : Int), rv], .int .u8 (l.toNat : Int)] w fun e w' => e = .returned (.bool true) /\ Below w.heap.size w w' := by
 have TB := hid (fun (W : World) (h : RdRc W rv rr) (hm : 6 < rr.length) => table_big a g rr rv 6 W h hm)
 have TK := hid (fun (W : World) (h : RdRc W rv rr) (hm : rr.length <= 6) => table_ok a g rr rv 6 W h hm (by omega))
 have LB := hid (show l.toNat <= 255 by have := l.isLt; omega)
 obtain ⟨ln, hln⟩ : ∃ ln, l.toNat = ln := ⟨_, rfl⟩
 rw [hln] at LB ⊢
 have TM := hid (fun (n : Nat) => tmod_natR ln n)
 have l0 : (0 : Int) <= (ln : Int) := by omega
 have l9 : (ln : Int) <= 255 := by have := LB.out; omega
 generalize (ln : Int) = li at *
 obtain ⟨N, hN⟩ : ∃ N, a.toNat % 6 = N := ⟨_, rfl⟩
 rw [hN] at TK
 generalize (a.toNat : Int) = ai at *
 generalize (g.toNat : Int) = gi at *
 have hb0 := below_alloc w (.cells #[.int .u8 ai, .int .u8 gi, rv] 47)
 obtain ⟨q0, q1, q2⟩ := cells3 (w := w) (a := .int .u8 ai) (b := .int .u8 gi) (c := rv) (t := 47) _ (Below.refl _ _)
 have RR := hid (hr.below hb0)
 obtain ⟨w0, hw0⟩ : ∃ w0 : World, w.alloc (.cells #[.int .u8 ai, .int .u8 gi, rv] 47) = w0 := ⟨_, rfl⟩
 rw [hw0] at hb0 RR q0 q1 q2
 have B0 := hid hb0
 have W0 := hid hw0
 have HT0 := hid (hT.below hb0)
 obtain ⟨ro, rcap, hv, hrl, hrc⟩ := RR.out.split
 subst hv
 clear hb0 hw0 hrc hr hT hln hN
 by_cases hm : rr.length <= 6
 ·replace TK := hid (fun (W : World) (h : RdRc W (.slice ro rr.length rcap) rr) => TK.out W h hm)
  clear TB
  by_cases hn0 : N = 0
  ·go_enter Tryz.func5, Tryz.ntmps5
   go_wp2_with fail
   rw [W0.out]
   go_wp2_with fail
   refine (TK.out _ RR.out).mono ?_
   rintro e w1 ⟨av, tv, t, rfl, hTT, hG, -, hlen, -, hb1⟩
   rw [hn0] at hlen
   obtain ⟨ao, acap, hva, -⟩ := hTT.1.split
   obtain ⟨tbo, tcap, hvt, -⟩ := RdR.split hTT.2
   have hb2 := below_alloc w1 (.cells #[.string t.1, av, tv] 32)
   have C3 := hid (fun W h => cells3 (w := w1) (a := .string t.1) (b := av) (c := tv) (t := 32) W h)
   obtain ⟨w2, hw2⟩ : ∃ w2 : World, w1.alloc (.cells #[.string t.1, av, tv] 32) = w2 := ⟨_, rfl⟩
   rw [hw2] at hb2 C3
   have W2 := hid hw2
   have D2 := hid (hb1.trans (hb2.mono hb1.size))
   have HT2 := hid (HT0.out.below D2.out)
   have AW := hid (fun (W : World) (h : Below w2.heap.size w2 W) => awake34_any W (HT2.out.below h))
   obtain ⟨nm, ats, rs⟩ := t
   simp only at hva hvt
   subst hva hvt
   replace hlen : ats.length = 0 := hlen
   have z0 : ((ats.length : Int) == 0) = true := by rw [beq_iff_eq]; omega
   have HL := hid hlen
   obtain ⟨t100, t101, t102⟩ := C3.out _ (Below.refl _ _)
   clear hb1 hb2 hw2 hTT hG TK q0 q1 q2 hlen
   go_wp2_with fail
   rw [W2.out]
   go_wp2_with fail
   refine (AW.out _ (Below.refl _ _)).mono ?_
   rintro e w3 ⟨rfl, hb3⟩
   have D3 := hid hb3
   obtain ⟨t110, t111, t112⟩ := C3.out _ D3.out
   clear hb3 t100 t101 t102
   go_wp2_with fail
   refine (AW.out _ D3.out).mono ?_
   rintro e w4 ⟨rfl, hb4⟩
   have BF := hid (B0.out.trans ((D2.out.trans ((D3.out.trans (hb4.mono D3.out.size)).mono D2.out.size)).mono B0.out.size))
   clear hb4
   go_wp2_with fail
   go_ret
   exact ⟨rfl, BF.out⟩
  ·go_enter Tryz.func5, Tryz.ntmps5
   go_wp2_with fail
   rw [W0.out]
   go_wp2_with fail
   refine (TK.out _ RR.out).mono ?_
   rintro e w1 ⟨av, tv, t, rfl, hTT, hG, hr6, hlen, -, hb1⟩
   have OKT := good_okT hG
   have HK2 := hG.1
   have FE := good_fEL hG
   have FI := fine_of HK2 OKT
   have h5 := hG.2.1
   have h8 := hG.2.2.1
   obtain ⟨tbo, tcap, hvt, -⟩ := RdR.split hTT.2
   obtain ⟨ao, acap, hva, -⟩ := hTT.1.split
   obtain ⟨A, hA⟩ : ∃ A, ln % t.2.1.length = A := ⟨_, rfl⟩
   have hAl : A < t.2.1.length := by rw [<- hA]; exact Nat.mod_lt _ (by omega)
   have TMA := hid (show li.tmod (t.2.1.length : Int) = (A : Int) by rw [TM.out, hA])
   have FAE : faE t (A : Int) = 0 := by unfold faE; rw [if_neg (by simpa using FE), if_neg (by omega)]
   have ARE : arityE t (A : Int) = 0 := by unfold arityE; rw [if_neg (by simpa using HK2), if_neg (by omega)]
   have FR : forR t (A : Int) = forL t.2.1.length t.2.2 A := by unfold forR; rw [if_pos FAE, Int.toNat_natCast]
   have DL : difL t (A : Int) = keepS downR (diffL t.2.1.length A (pairsS t.2.2)) := by unfold difL; rw [if_pos ARE, Int.toNat_natCast]
   have PL : (pairsS t.2.2).length <= 200 := by
    have h1 := pairsS_length t.2.2
    have h2 : t.2.2.length * t.2.2.length <= 8 * 8 := Nat.mul_le_mul h8 h8
    omega
   have VA : validS (t.2.1.length : Int) (difL t (A : Int)) = 0 := by rw [DL]; exact dif_valid (by omega) PL
   have RS : resS (t.2.1.length : Int) (difL t (A : Int)) = forL t.2.1.length t.2.2 A := by unfold resS; rw [if_pos VA, DL]; exact by_for FI hAl
   have FLN := hid (show (forL t.2.1.length t.2.2 A).length <= 65536 from forL_len (by omega) (by omega))
   have EVN := hid (show (evdR t (A : Int)).length <= 40000 from by
    unfold evdR
    rw [if_pos FAE, List.length_map]
    exact maxL_len2 t _ (by omega))
   have CHE : fchkB t (A : Int) (forR t (A : Int)) (evdR t (A : Int)) = true := chk_for FAE (by omega)
   have hb2 := below_alloc w1 (.cells #[.string t.1, av, tv] 32)
   have C3 := hid (fun W h => cells3 (w := w1) (a := .string t.1) (b := av) (c := tv) (t := 32) W h)
   have T2 := hid (hTT.below hb2)
   obtain ⟨w2, hw2⟩ : ∃ w2 : World, w1.alloc (.cells #[.string t.1, av, tv] 32) = w2 := ⟨_, rfl⟩
   rw [hw2] at hb2 C3 T2
   have W2 := hid hw2
   have D2 := hid (hb1.trans (hb2.mono hb1.size))
   have HT2 := hid (HT0.out.below D2.out)
   have AW := hid (fun (W : World) (h : Below w2.heap.size w2 W) => awake34_any W (HT2.out.below h))
   have FF := hid (fun (W : World) (h : Below w2.heap.size w2 W) => fFor_any t av tv (A : Int) W (T2.out.below h) (HT2.out.below h) (fun _ => OKT))
   have DF := hid (fun (W : World) (h : Below w2.heap.size w2 W) => adiffR t av tv (A : Int) W (T2.out.below h))
   have TA := hid (fun (v : Value) (W : World) (h : RdE enc W v (difL t (A : Int))) => allW (t.2.1.length : Int) (difL t (A : Int)) v W h)
   have CO := hid (fun (W : World) (h : Below w2.heap.size w2 W) => show Calls Tryz.prog 25 #[.agg #[.string t.1, av, tv]] W fun e w' => ∃ (v' : Value) (C : List C3S), e = .returned (.tuple #[v', .int .i64 0]) /\ RdC cC3 w' v' C /\ ctxA (A : Int) C = forL t.2.1.length t.2.2 A /\ C.length <= 400 /\ Below W.heap.size W w' from
    (oconst_any t av tv W (T2.out.below h) HK2 (by omega)).mono fun e w' ⟨v', ys, h1, h2, h3, h4⟩ => ⟨v', _, h1, h2, ctx_for FI hAl h3, by
     have e1 := con_len (SM := SATm t.2.1.length t.2.2) (m := t.2.1.length) ys
     have e2 : ys.length <= 2 ^ t.2.1.length := ord_bound h3.1 fun s hs => full_pow (by omega) ((h3.2 s).1 hs)
     have e3 : 2 ^ t.2.1.length <= 2 ^ 5 := Nat.pow_le_pow_right (by decide) h5
     have e4 : ys.length * t.2.1.length <= 32 * 5 := Nat.mul_le_mul (by omega) h5
     omega, h4⟩)
   have MI := hid (fun (W : World) (h : Below w2.heap.size w2 W) => show Calls Tryz.prog 26 #[.agg #[.string t.1, av, tv], .int .i64 3, .agg #[.int .i64 0, .int .i64 1]] W fun e w' => ∃ (v' : Value) (L : List F), e = .returned (.tuple #[v', .int .i64 0]) /\ RdF w' v' L /\ projL A L = forL t.2.1.length t.2.2 A /\ Below W.heap.size W w' from
    (apmin_any t av tv W (T2.out.below h) (HT2.out.below h) HK2 OKT (by omega)).mono fun e w' ⟨v', L, ys, h1, h2, h3, h4, h5⟩ => ⟨v', L, h1, h2, (h4 A hAl).trans (ex_for (by omega) hAl h3), h5⟩)
   have EV := hid (fun (W : World) (h : Below w2.heap.size w2 W) => fevd_any t av tv (A : Int) W (T2.out.below h) (HT2.out.below h))
   have CH := hid (fun (lv wv : Value) (W : World) (h : Below w2.heap.size w2 W) (hl : RdE enc W lv (forR t (A : Int))) (hw : RdW W wv (evdR t (A : Int))) => fchk_any t av tv (A : Int) (forR t (A : Int)) lv (evdR t (A : Int)) wv W (T2.out.below h) (HT2.out.below h) (fun _ => OKT) hl hw (by rw [FR]; have := FLN.out; omega) (by have := EVN.out; omega))
   rw [CHE] at CH
   rw [FAE, FR] at FF
   rw [FAE] at EV
   rw [ARE] at DF
   rw [VA, RS] at TA
   rw [FR] at CH
   obtain ⟨FL, hFL⟩ : ∃ FL, forL t.2.1.length t.2.2 A = FL := ⟨_, rfl⟩
   rw [hFL] at FF TA CH FLN
   simp only [hFL] at CO MI
   obtain ⟨DD, hDD⟩ : ∃ DD, difL t (A : Int) = DD := ⟨_, rfl⟩
   rw [hDD] at DF
   simp only [hDD] at TA
   obtain ⟨EW, hEW⟩ : ∃ EW, evdR t (A : Int) = EW := ⟨_, rfl⟩
   rw [hEW] at EV CH EVN
   have HA := hid hAl
   obtain ⟨nm, ats, rs⟩ := t
   simp only at hva hvt
   subst hva hvt
   simp only at FF DF TA CO MI EV CH TMA C3 W2
   have hAt : A < ats.length := hAl
   obtain ⟨n, hn⟩ : ∃ n, ats.length = n := ⟨_, rfl⟩
   obtain ⟨nr, hnr⟩ : ∃ nr, rs.length = nr := ⟨_, rfl⟩
   rw [hn] at FF DF TA CO MI EV CH TMA C3 W2 hAt ⊢
   rw [hnr] at FF DF CO MI EV CH C3 W2 ⊢
   have hn5 : n <= 5 := by rw [<- hn]; exact h5
   have z0 : ((n : Int) == 0) = false := by rw [beq_eq_false_iff_ne]; omega
   have z1 : ¬ ((n : Int) = 0) := by omega
   have nn0 : (0 : Int) < (n : Int) := by omega
   have nn5 : (n : Int) <= 5 := by omega
   have A0 : (0 : Int) <= (A : Int) := by omega
   have A5 : (A : Int) <= 5 := by omega
   have tm := TMA.out
   obtain ⟨t100, t101, t102⟩ := C3.out _ (Below.refl _ _)
   have D10 := hid (Below.refl w2.heap.size w2)
   clear hb1 hb2 hw2 hTT hG TK q0 q1 q2 hr6 hlen OKT HK2 FE FI h5 h8 hA hAl FAE ARE FR DL PL VA RS CHE hFL hDD hEW hn hnr hn0 HA hAt T2 HT0
   go_wp2_with fail
   rw [W2.out]
   go_wp2_with fail
   refine (AW.out _ D10.out).mono ?_
   rintro e w11 ⟨rfl, hb11⟩
   have D11 := hid (D10.out.trans (hb11.mono D10.out.size))
   obtain ⟨t110, t111, t112⟩ := C3.out _ D11.out
   clear hb11 t100 t101 t102
   go_wp2_with fail
   refine (FF.out _ D11.out).mono ?_
   rintro e w12 ⟨v12, rfl, ho12, hb12⟩
   have D12 := hid (D11.out.trans (hb12.mono D11.out.size))
   have O12 := hid ho12
   clear ho12
   obtain ⟨t120, t121, t122⟩ := C3.out _ D12.out
   clear hb12 t110 t111 t112
   have R12 := hid (RdE.of_owns O12.out (by have := FLN.out; omega))
   obtain ⟨f12, fc12, rfl, -⟩ := R12.out.split
   go_wp2_with fail
   refine (DF.out _ D12.out).mono ?_
   rintro e w13 ⟨v13, rfl, hr13, hb13⟩
   have D13 := hid (D12.out.trans (hb13.mono D12.out.size))
   replace R12 := hid (R12.out.below hb13)
   have R13 := hid hr13
   clear hr13
   obtain ⟨t130, t131, t132⟩ := C3.out _ D13.out
   clear hb13 t120 t121 t122
   obtain ⟨f13, fc13, rfl, -⟩ := R13.out.split
   go_wp2_with fail
   refine (TA.out _ _ R13.out).mono ?_
   rintro e w14 ⟨v14, rfl, ho14, -, hb14⟩
   have D14 := hid (D13.out.trans (hb14.mono D13.out.size))
   replace R12 := hid (R12.out.below hb14)
   have O14 := hid ho14
   clear ho14
   obtain ⟨t140, t141, t142⟩ := C3.out _ D14.out
   clear hb14 t130 t131 t132
   have R14 := hid (RdE.of_owns O14.out (by have := FLN.out; omega))
   obtain ⟨f14, fc14, rfl, -⟩ := R14.out.split
   go_wp2_with fail
   refine (CO.out _ D14.out).mono ?_
   rintro e w15 ⟨v15, C, rfl, hc15, hx15, hl15, hb15⟩
   have D15 := hid (D14.out.trans (hb15.mono D14.out.size))
   replace R12 := hid (R12.out.below hb15)
   replace R14 := hid (R14.out.below hb15)
   have RC15 := hid hc15
   clear hc15
   have X15 := hid hx15
   clear hx15
   have CL := hid hl15
   clear hl15
   obtain ⟨t150, t151, t152⟩ := C3.out _ D15.out
   clear hb15 t140 t141 t142
   go_wp2_with fail
   refine (MI.out _ D15.out).mono ?_
   rintro e w16 ⟨v16, L, rfl, hf16, hp16, hb16⟩
   have D16 := hid (D15.out.trans (hb16.mono D15.out.size))
   replace R12 := hid (R12.out.below hb16)
   replace R14 := hid (R14.out.below hb16)
   replace RC15 := hid (RC15.out.below hb16)
   have RF16 := hid hf16
   clear hf16
   have P16 := hid hp16
   clear hp16
   obtain ⟨t160, t161, t162⟩ := C3.out _ D16.out
   clear hb16 t150 t151 t152
   go_wp2_with fail
   refine (EV.out _ D16.out).mono ?_
   rintro e w17 ⟨v17, rfl, hw17, hb17⟩
   have D17 := hid (D16.out.trans (hb17.mono D16.out.size))
   have S12 := hid (fun (W : World) (h : Below w17.heap.size w17 W) => (R12.out.below hb17).below h)
   have S14 := hid (fun (W : World) (h : Below w17.heap.size w17 W) => (R14.out.below hb17).below h)
   have RC17 := RdC.below RC15.out hb17
   have RF17 := RdC.below RF16.out hb17
   have SW := hid (fun (W : World) (h : Below w17.heap.size w17 W) => show RdW W v17 EW from RdC.below hw17 h)
   obtain ⟨co, ccap, rfl, -, hcc⟩ := RdC3.split RC17
   obtain ⟨lo, lcap, rfl, hll, hlc⟩ := RdF.split RF17
   obtain ⟨wo, wcap, rfl, -⟩ := RdW.split hw17
   have CC := hid hcc
   have LC := hid hlc
   have HLL := hid hll
   obtain ⟨t170, t171, t172⟩ := C3.out _ D17.out
   have c9 : (C.length : Int) <= 400 := by have := CL.out; omega
   have l99 : (L.length : Int) <= 35184372088832 := by omega
   have SZ17 := hid D17.out.size
   clear hw17 hb17 RC17 RF17 hcc hlc hll t160 t161 t162 RC15 RF16 R12 R14
   go_wp2_with fail
   go_loopw [21, 111] (fun u i wr => ∃ k : Nat, k <= C.length /\ i = .int .i64 k /\ wr.ownsRow w17.heap.size 58 1 u (ctxA (A : Int) (C.take k)).length ((ctxA (A : Int) (C.take k)).map enc) /\ Below w17.heap.size w17 wr) (fun _ i _ => C.length - (intOf i).toNat)
   case atStart => exact ⟨0, Nat.zero_le _, rfl, World.ownsRow_nil _ _ _ _, Below.refl _ _⟩
   case round =>
    obtain ⟨k, hk, rfl, hown, hnx⟩ := hrel
    have k0 : (0 : Int) <= (k : Int) := by omega
    have hsz := hnx.size
    by_cases hlt : k < C.length
    ·obtain ⟨c, hc⟩ := get_some hlt
     have hltI : (k : Int) < (C.length : Int) := by omega
     obtain ⟨b, off, rfl, hd⟩ := CC.out k c hc
     obtain ⟨e0, e1, e2⟩ := hd wr hnx
     have CN := hid (ctxA_next (a := (A : Int)) hc)
     have CNL := hid (ctxA_len (A : Int) C k)
     have bx := below_alloc wr (.cells #[.int .u32 (iv c.1), .int .i64 c.2.1, .int .i64 c.2.2] 78)
     have OX := hid (own_below hown bx)
     have NX := hid (hnx.trans (bx.mono hsz))
     obtain ⟨xs, hxs⟩ : ∃ xs, ctxA (A : Int) (C.take k) = xs := ⟨_, rfl⟩
     rw [hxs] at CN CNL OX
     obtain ⟨x0, x1, x2⟩ := cells3 (w := wr) (a := .int .u32 (iv c.1)) (b := .int .i64 c.2.1) (c := .int .i64 c.2.2) (t := 78) _ (Below.refl _ _)
     obtain ⟨wx, hwx⟩ : ∃ wx : World, wr.alloc (.cells #[.int .u32 (iv c.1), .int .i64 c.2.1, .int .i64 c.2.2] 78) = wx := ⟨_, rfl⟩
     rw [hwx] at OX NX x0 x1 x2
     have WX := hid hwx
     have HLT := hid hlt
     have sx : w17.heap.size <= wx.heap.size := NX.out.size
     clear hc hd hown hnx bx hxs hwx hlt
     go_upto_region 18 with fail
     rw [WX.out]
     cases hq : (c.2.1 == (A : Int)) with
     | true =>
      have CN2 := hid (CN.out.trans (by rw [if_pos hq]))
      have hq2 : c.2.1 = (A : Int) := by simpa using hq
      have hq3 : decide (c.2.1 = (A : Int)) = true := by simpa using hq
      go_wp2_with (at_builtin; refine wpList_push rfl _ _ 38 rfl w17.heap.size 58 (.int .u32 0) 4 undSets infoSet rfl (by decide) enc (fun _ => rfl) _ xs rfl (OX.out.alloc _) ⟨wx.heap.size, 0, none⟩ c.1 rfl cell_new (by have := CNL.out; have := CL.out; omega) (by simp; omega) ?_)
      intro v2 w3 hown2 hg2
      have O3 := hid (show w3.ownsRow w17.heap.size 58 1 v2 (ctxA (A : Int) (C.take (k + 1))).length ((ctxA (A : Int) (C.take (k + 1))).map enc) by rw [CN2.out]; simpa using hown2)
      have N3 := hid (below_push NX.out sx OX.out hg2)
      clear hown2 hg2 hq hq2 hq3
      go_wp2_with fail
      go_roundw
      case rel => exact ⟨k + 1, by have := HLT.out; omega, by go_num, O3.out, N3.out⟩
      case measure => have := HLT.out; simp [intOf]; omega
     | false =>
      have CN2 := hid (CN.out.trans (by rw [if_neg (by rw [hq]; decide), List.append_nil]))
      have hq2 : ¬ c.2.1 = (A : Int) := by simpa using hq
      have hq3 : decide (c.2.1 = (A : Int)) = false := by simpa using hq
      go_wp2_with fail
      go_roundw
      case rel => exact ⟨k + 1, by have := HLT.out; omega, by go_num, by rw [CN2.out]; exact OX.out, NX.out⟩
      case measure => have := HLT.out; simp [intOf]; omega
    ·have OC := hid (show wr.ownsRow w17.heap.size 58 1 u21 FL.length (FL.map enc) by
      have h := hown
      rw [List.take_of_length_le (by omega), X15.out] at h
      exact h)
     have NC := hid hnx
     have hltI : ¬ (k : Int) < (C.length : Int) := by omega
     clear hown hnx
     obtain ⟨wc, rfl⟩ : ∃ wc : World, wc = wr := ⟨_, rfl⟩
     have SZC := hid NC.out.size
     go_wp2_with fail
     go_loopw [22, 127] (fun u i wr => ∃ k : Nat, k <= L.length /\ i = .int .i64 k /\ wr.ownsRow wc.heap.size 58 1 u (projL A (L.take k)).length ((projL A (L.take k)).map enc) /\ Below wc.heap.size wc wr) (fun _ i _ => L.length - (intOf i).toNat)
     case atStart => exact ⟨0, Nat.zero_le _, rfl, World.ownsRow_nil _ _ _ _, Below.refl _ _⟩
     case round =>
      obtain ⟨k, hk, rfl, hown, hnx⟩ := hrel
      have k0 : (0 : Int) <= (k : Int) := by omega
      have hsz := hnx.size
      by_cases hlt : k < L.length
      ·obtain ⟨f, hf⟩ := get_some hlt
       have hltI : (k : Int) < (L.length : Int) := by omega
       obtain ⟨b, off, rfl, hd⟩ := LC.out k f hf
       obtain ⟨e0, e1⟩ := hd wr (NC.out.trans (hnx.mono SZC.out))
       have CN := hid (projL_next (j := A) hf)
       have CNL := hid (projL_len A L k)
       have bx := below_alloc wr (.cells #[.int .u32 (iv f.1), .int .u32 (iv f.2)] 80)
       have OX := hid (own_below hown bx)
       have NX := hid (hnx.trans (bx.mono hsz))
       obtain ⟨xs, hxs⟩ : ∃ xs, projL A (L.take k) = xs := ⟨_, rfl⟩
       rw [hxs] at CN CNL OX
       have BXC := hid (fun (W : World) h => cells2 (w := wr) (a := .int .u32 (iv f.1)) (b := .int .u32 (iv f.2)) (t := 80) W h)
       obtain ⟨wx, hwx⟩ : ∃ wx : World, wr.alloc (.cells #[.int .u32 (iv f.1), .int .u32 (iv f.2)] 80) = wx := ⟨_, rfl⟩
       rw [hwx] at OX NX BXC
       obtain ⟨x0, x1⟩ := BXC.out _ (Below.refl _ _)
       have WX := hid hwx
       have HLT := hid hlt
       have sx : wc.heap.size <= wx.heap.size := NX.out.size
       clear hf hd hown hnx bx hxs hwx hlt
       go_upto_region 24 with fail
       rw [WX.out]
       cases hq : (f.2 == bit A) with
       | true =>
        have CN2 := hid (CN.out.trans (by rw [if_pos hq]))
        have hq2 : (iv f.2 == iv (1#32 <<< A)) = true := by rw [iv_beq]; exact hq
        have hq3 : (f.2 == 1#32 <<< A) = true := hq
        have hq4 : f.2 = 1#32 <<< A := by simpa using hq3
        have hq5 : iv f.2 = iv (1#32 <<< A) := by rw [hq4]
        clear hq
        go_quiet (fail)
        rename Nat => q
        obtain ⟨y0, y1⟩ := BXC.out _ (below_drewN _ wx _)
        have OQ := hid (own_below OX.out (below_drewN _ wx q))
        have NQ := hid (below_drewN' NX.out q)
        have sq : wc.heap.size <= (wx.drewN q).heap.size := NQ.out.size
        obtain ⟨wq, hwq⟩ : ∃ wq : World, wx.drewN q = wq := ⟨_, rfl⟩
        rw [hwq] at y0 y1 OQ NQ sq ⊢
        clear x0 x1 hwq
        go_wp2_with (at_builtin; refine wpList_push rfl _ _ 38 rfl wc.heap.size 58 (.int .u32 0) 4 undSets infoSet rfl (by decide) enc (fun _ => rfl) _ xs rfl (OQ.out.alloc _) ⟨wq.heap.size, 0, none⟩ f.1 rfl cell_new (by have := CNL.out; rw [P16.out] at this; have := FLN.out; omega) (by simp; omega) ?_)
        intro v2 w3 hown2 hg2
        have O3 := hid (show w3.ownsRow wc.heap.size 58 1 v2 (projL A (L.take (k + 1))).length ((projL A (L.take (k + 1))).map enc) by rw [CN2.out]; simpa using hown2)
        have N3 := hid (below_push NQ.out sq OQ.out hg2)
        clear hown2 hg2 hq2 hq3 hq4 hq5
        go_wp2_with fail
        go_roundw
        case rel => exact ⟨k + 1, by have := HLT.out; omega, by go_num, O3.out, N3.out⟩
        case measure => have := HLT.out; simp [intOf]; omega
       | false =>
        have CN2 := hid (CN.out.trans (by rw [if_neg (by rw [hq]; decide), List.append_nil]))
        have hq2 : (iv f.2 == iv (1#32 <<< A)) = false := by rw [iv_beq]; exact hq
        have hq3 : (f.2 == 1#32 <<< A) = false := hq
        have hq4 : ¬ f.2 = 1#32 <<< A := by simpa using hq3
        clear hq
        go_quiet (fail)
        go_wp2_with fail
        go_roundw
        case rel => exact ⟨k + 1, by have := HLT.out; omega, by go_num, by rw [CN2.out]; exact own_below OX.out (below_drewN _ wx _), below_drewN' NX.out _⟩
        case measure => have := HLT.out; simp [intOf]; omega
      ·have OW := hid (show wr.ownsRow wc.heap.size 58 1 u22 FL.length (FL.map enc) by
        have h := hown
        rw [List.take_of_length_le (by omega), P16.out] at h
        exact h)
       have NW := hid (NC.out.trans (hnx.mono SZC.out))
       have ROC := hid (fun (W : World) (h : Below wr.heap.size wr W) => (RdE.of_owns (own_below OC.out hnx) (by have := FLN.out; omega)).below h)
       have ROW := hid (fun (W : World) (h : Below wr.heap.size wr W) => (RdE.of_owns OW.out (by have := FLN.out; omega)).below h)
       have R12 := hid (fun (W : World) (h : Below wr.heap.size wr W) => S12.out W (NW.out.trans (h.mono NW.out.size)))
       have R14 := hid (fun (W : World) (h : Below wr.heap.size wr W) => S14.out W (NW.out.trans (h.mono NW.out.size)))
       have RWW := hid (fun (W : World) (h : Below wr.heap.size wr W) => SW.out W (NW.out.trans (h.mono NW.out.size)))
       have DW := hid (fun (W : World) (h : Below wr.heap.size wr W) => D17.out.trans ((NW.out.trans (h.mono NW.out.size)).mono SZ17.out))
       have SM := hid (fun (v u : Value) (W : World) (hv : RdE enc W v FL) (hu : RdE enc W u FL) => ssame_any FL v u W hv hu)
       have hltI : ¬ (k : Int) < (L.length : Int) := by omega
       obtain ⟨t180, t181, t182⟩ := C3.out _ (DW.out wr (Below.refl _ _))
       clear hown hnx t170 t171 t172
       go_wp2_with fail
       refine (SM.out _ _ _ (R12.out _ (Below.refl _ _)) (R14.out _ (Below.refl _ _))).mono ?_
       rintro e w21 ⟨rfl, hb21⟩
       have N21 := hid hb21
       clear hb21
       go_wp2_with fail
       refine (SM.out _ _ _ (R12.out _ N21.out) (ROC.out _ N21.out)).mono ?_
       rintro e w22 ⟨rfl, hb22⟩
       have N22 := hid (N21.out.trans (hb22.mono N21.out.size))
       clear hb22
       go_wp2_with fail
       refine (SM.out _ _ _ (R12.out _ N22.out) (ROW.out _ N22.out)).mono ?_
       rintro e w23 ⟨rfl, hb23⟩
       have N23 := hid (N22.out.trans (hb23.mono N22.out.size))
       obtain ⟨t190, t191, t192⟩ := C3.out _ (DW.out _ N23.out)
       clear hb23 t180 t181 t182
       go_wp2_with fail
       refine (CH.out _ _ _ (DW.out _ N23.out) (R12.out _ N23.out) (RWW.out _ N23.out)).mono ?_
       rintro e w24 ⟨rfl, hb24⟩
       have BF := hid (B0.out.trans ((D2.out.trans (((DW.out _ N23.out).trans (hb24.mono (DW.out _ N23.out).size)).mono D2.out.size)).mono B0.out.size))
       clear hb24
       go_wp2_with fail
       go_ret
       exact ⟨rfl, BF.out⟩
 ·have hm2 : 6 < rr.length := by omega
  replace TB := hid (fun (W : World) (h : RdRc W (.slice ro rr.length rcap) rr) => TB.out W h hm2)
  clear TK
  go_enter Tryz.func5, Tryz.ntmps5
  go_wp2_with fail
  rw [W0.out]
  go_wp2_with fail
  refine (TB.out _ RR.out).mono ?_
  rintro e w1 ⟨rfl, hb1⟩
  have hb2 := below_alloc w1 (.cells #[.string (ByteArray.mk #[]), .slice none 0 0, .slice none 0 0] 32)
  obtain ⟨w2, hw2⟩ : ∃ w2 : World, w1.alloc (.cells #[.string (ByteArray.mk #[]), .slice none 0 0, .slice none 0 0] 32) = w2 := ⟨_, rfl⟩
  rw [hw2] at hb2
  have W2 := hid hw2
  have D2 := hid (hb1.trans (hb2.mono hb1.size))
  have HT2 := hid (HT0.out.below D2.out)
  have AW := hid (fun (W : World) (h : Below w2.heap.size w2 W) => awake34_any W (HT2.out.below h))
  clear hb1 hb2 hw2 TB q0 q1 q2
  go_wp2_with fail
  rw [W2.out]
  go_wp2_with fail
  refine (AW.out _ (Below.refl _ _)).mono ?_
  rintro e w3 ⟨rfl, hb3⟩
  have D3 := hid hb3
  clear hb3
  go_wp2_with fail
  refine (AW.out _ D3.out).mono ?_
  rintro e w4 ⟨rfl, hb4⟩
  have BF := hid (B0.out.trans ((D2.out.trans ((D3.out.trans (hb4.mono D3.out.size)).mono D2.out.size)).mono B0.out.size))
  clear hb4
  go_wp2_with fail
  go_ret
  exact ⟨rfl, BF.out⟩

end Go.Proofs.YtalejolehccclaaGreatDoor
