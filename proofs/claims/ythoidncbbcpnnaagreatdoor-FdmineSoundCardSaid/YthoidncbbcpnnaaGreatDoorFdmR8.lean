/- The walk of drossref28.Check. -/
import Derived.Test.YthoidncbbcpnnaaGreatDoorFdmY
import Derived.Test.YthoidncbbcpnnaaGreatDoorRefSubs
namespace Go.Proofs.YthoidncbbcpnnaaGreatDoor
open Go.RowKit
set_option linter.unusedVariables false

/-- The reference's certificate. -/
def rchkC (rs : List Row3) (m a : Nat) (lhs : List S) (ws : List W3) : Bool :=
  lhs.all (lhsB rs (othS m a) a) && ws.all (witB rs m a) && decide (keyO (othS m a) (ws.map (·.1)) = lhs)
def rchkB (t : T3) (a : Int) (lhs : List S) (ws : List W3) : Bool := decide (faE t a = 0) && rchkC t.2.2 t.2.1.length a.toNat lhs ws
theorem chk_ref {t : T3} {a : Int} {lhs : List S} {ws : List W3} (hw : ws.length ≤ 200) : fchkB t a lhs ws = rchkB t a lhs ws := by
  unfold fchkB rchkB
  by_cases h0 : faE t a = 0
  · have h10 := (fE_ok (faE_ok h0).1).2.1
    rw [chk_eq (by omega) hw]; rfl
  · rw [decide_eq_false h0]; rfl
theorem key_try {m a : Nat} {ys : List S} {ws : List W3} (hy : IsOrd ys (fun x => sub x (othS m a))) : keepS downR (ys.filter (fun s => hitsS (edgO (othS m a) ws) s)) = keyO (othS m a) (ws.map (·.1)) := by
  refine keyO_try fun s => ?_
  rw [List.mem_filter, hy.2, edgO_eq]
  exact and_congr_right fun hs => hits_o hs
theorem wit_two {rs : List Row3} {m a : Nat} {x : W3} {i k : Nat} {r q : Row3} (hA : fnd rs x.2.1 = some i) (hB : fnd rs x.2.2 = some k) (hr : rs[i]? = some r) (hq : rs[k]? = some q) (hrl : r.2.2.length = m) (hql : q.2.2.length = m) (h32 : m ≤ 32) (ha : a < m) :
    witB rs m a x = (decide (x.2.1 < x.2.2) && decide (sub x.1 (othS m a)) && (agB r.2.2 q.2.2 x.1 && !agB r.2.2 q.2.2 (bit a))) := by
  unfold witB
  rw [hA, hB]
  unfold witO
  simp only [hr, hq]
  unfold witD
  by_cases hs : sub x.1 (othS m a)
  · obtain ⟨h1, h2⟩ := (sub_oth (by omega)).1 hs
    rw [(shrOk_sub h32).2 h1, h2, wP_ag hrl hql h32 ha h1, decide_eq_true hs]
    simp
  · rw [decide_eq_false hs]
    rw [sub_oth (by omega)] at hs
    cases h1 : shrOk x.1 m with
    | false => simp
    | true =>
      have h2 := (shrOk_sub h32).1 h1
      cases h3 : x.1.getLsbD a with
      | false => exact absurd ⟨h2, h3⟩ hs
      | true => simp
theorem wit_noneA {rs : List Row3} {m a : Nat} {x : W3} (hA : fnd rs x.2.1 = none) : witB rs m a x = false := by unfold witB; rw [hA]; rfl
theorem wit_noneB {rs : List Row3} {m a : Nat} {x : W3} (hB : fnd rs x.2.2 = none) : witB rs m a x = false := by unfold witB; rw [hB]; cases fnd rs x.2.1 <;> rfl

attribute [local irreducible] Go.wpQuiet
set_option maxHeartbeats 6400000 in
set_option maxRecDepth 100000 in
theorem rchk_any (t : T3) (av rv : Value) (a : Int) (lhs : List S) (lv : Value) (ws : List W3) (wv : Value) (w : World) (ht : RdT w av rv t) (hl : RdE enc w lv lhs) (hw : RdW w wv ws)
    (hll : lhs.length ≤ 100000000) (hwl : ws.length ≤ 100000000) :
    Calls Tryz.prog 25 #[.agg #[.string t.1, av, rv], .int .i64 a, lv, wv] w fun e w' => e = .returned (.bool (rchkB t a lhs ws)) ∧ Below w.heap.size w w' := by
  have hb0 := below_alloc w (.cells #[.string t.1, av, rv] 25)
  have C3 := hid (fun W h => cells3 (w := w) (a := .string t.1) (b := av) (c := rv) (t := 25) W h)
  have T0 := hid (ht.below hb0)
  obtain ⟨w0, hw0⟩ : ∃ w0 : World, w.alloc (.cells #[.string t.1, av, rv] 25) = w0 := ⟨_, rfl⟩
  rw [hw0] at hb0 C3 T0
  have B0 := hid hb0
  have W0 := hid hw0
  have hsz0 := hb0.size
  clear hb0 hw0
  have ER := hid (fun (W : World) (h : Below w0.heap.size w0 W) => rerr28_any t av rv W (T0.out.below h))
  obtain ⟨c0, c1, c2⟩ := C3.out _ (Below.refl _ _)
  by_cases h0 : faE t a = 0
  · obtain ⟨hE, n, rfl, hn⟩ := faE_ok h0
    have hE2 := fE_tab hE
    have hm10 := (fE_ok hE).2.1
    rw [hE] at ER
    have FB : rchkB t (n : Int) lhs ws = rchkC t.2.2 t.2.1.length n lhs ws := by unfold rchkB; rw [h0]; simp
    rw [FB]
    have DE := hid (fun (s : S) (hs : sub s (fullN t.2.1.length)) (W : World) (h : Below w0.heap.size w0 W) => rdet_any t av rv s n W (T0.out.below h) hE2 hn hs)
    have FI := hid (fun (id : Int) (W : World) (h : Below w0.heap.size w0 W) => rfind_any t av rv id W (T0.out.below h))
    obtain ⟨h16, h200, hrows⟩ := tabE2_ok hE2
    obtain ⟨nm, ats, rs⟩ := t
    obtain ⟨ao, acap, hva, -⟩ := T0.out.1.split
    obtain ⟨ro, rcap, hvr, hrl, hrc⟩ := RdR.split T0.out.2
    simp only at hva hvr ER DE FI hn hm10
    subst hva hvr
    replace h16 : ats.length ≤ 16 := h16
    replace h200 : rs.length ≤ 200 := h200
    have RC := hid hrc
    have HR := hid (show ∀ r ∈ rs, r.2.2.length = ats.length ∧ ∀ x ∈ r.2.2, x.2.2.size ≤ 200 from hrows)
    have RLN := hid h200
    have A32 := hid (show ats.length ≤ 32 by omega)
    have WN := hid (fun (s : S) (i j : Int) (xs ys : List V3) (u v : Value) (W : World) (hu : RdV W u xs) (hv : RdV W v ys) (hl : ys.length = xs.length) (h32 : xs.length ≤ 32) (hx : ∀ x ∈ xs, x.2.2.size ≤ 200) => rwitn_any i j xs ys u v s n W (by omega) hu hv hl h32 hx)
    show Calls _ _ _ _ fun e w' => e = .returned (.bool (rchkC rs ats.length n lhs ws)) ∧ Below w.heap.size w w'
    have OP := hid (others_pop (m := ats.length) (n := n) hm10)
    have SOF := hid (fun (s : S) (h : sub s (othS ats.length n)) => show sub s (fullN ats.length) from ((sub_oth (by omega)).1 h).1)
    have WT := hid (fun (x : W3) (i k : Nat) (r q : Row3) (hA : fnd rs x.2.1 = some i) (hB : fnd rs x.2.2 = some k) (hr : rs[i]? = some r) (hq : rs[k]? = some q) => wit_two (a := n) hA hB hr hq (HR.out r (List.mem_of_getElem? hr)).1 (HR.out q (List.mem_of_getElem? hq)).1 (by omega) hn)
    have WA0 := hid (fun (x : W3) (hA : fnd rs x.2.1 = none) => wit_noneA (m := ats.length) (a := n) hA)
    have WB0 := hid (fun (x : W3) (hB : fnd rs x.2.2 = none) => wit_noneB (m := ats.length) (a := n) hB)
    have KT := hid (fun (ys : List S) (hy : IsOrd ys (fun x => sub x (othS ats.length n))) => key_try (ws := ws) hy)
    have OE := hid (show fullN ats.length &&& ~~~ bit n = othS ats.length n from rfl)
    have FC := hid (show rchkC rs ats.length n lhs ws = (lhs.all (lhsB rs (othS ats.length n) n) && ws.all (witB rs ats.length n) && decide (keyO (othS ats.length n) (ws.map (·.1)) = lhs)) from rfl)
    have LB := hid (fun s => show lhsB rs (othS ats.length n) n s = (decide (sub s (othS ats.length n)) && detB rs n s) by unfold lhsB detB; rw [beq_sub'])
    obtain ⟨O, hO⟩ : ∃ O, othS ats.length n = O := ⟨_, rfl⟩
    rw [hO] at OE FC SOF WT KT LB
    have OP2 := hid (show pop O ≤ 12 by rw [← OE.out]; exact OP.out)
    obtain ⟨RES, hRES⟩ : ∃ RES, rchkC rs ats.length n lhs ws = RES := ⟨_, rfl⟩
    rw [hRES] at FC ⊢
    obtain ⟨DT, hDT⟩ : ∃ DT : S → Bool, detB rs n = DT := ⟨_, rfl⟩
    rw [hDT] at DE LB
    obtain ⟨WB, hWB⟩ : ∃ WB : W3 → Bool, witB rs ats.length n = WB := ⟨_, rfl⟩
    rw [hWB] at WT WA0 WB0 FC
    obtain ⟨LBF, hLBF⟩ : ∃ LBF : S → Bool, lhsB rs O n = LBF := ⟨_, rfl⟩
    rw [hLBF] at LB FC
    obtain ⟨KEY, hKEY⟩ : ∃ KEY, keyO O (ws.map (·.1)) = KEY := ⟨_, rfl⟩
    rw [hKEY] at KT FC
    have LHS := hid (hl.below B0.out)
    have WS := hid (RdC.below hw B0.out)
    obtain ⟨lo, lcap, rfl, -, hlc⟩ := LHS.out.split
    obtain ⟨wo', wcap, rfl, -, hwc⟩ := RdW.split WS.out
    have LC := hid hlc
    have WC := hid hwc
    have HLL := hid hll
    have HWL := hid hwl
    have FU := hid (fun (W : World) => full_any (ats.length : Int) W)
    rw [show min ((ats.length : Int)).toNat 32 = ats.length by omega] at FU
    have SUB := hid (fun (x y : S) (W : World) => sub_any x y W)
    have SBS := hid (fun (W : World) => refSubsets_any O W)
    have HIT := hid (fun (xs : List S) (s : S) (v : Value) (W : World) (hv : RdE enc W v xs) => show Calls Tryz.prog 57 #[v, .int .u32 (iv s)] W fun e w' => e = .returned (.bool (hitsS xs s)) ∧ W = w' from refHits_any xs s v W hv)
    have MI := hid (fun (xs : List S) (v : Value) (W : World) (hv : RdE enc W v xs) (h : xs.length < 17592186044416) => ref2Minimal_any xs v W hv h)
    have SAME := hid (fun (xs ys : List S) (v u : Value) (W : World) (hv : RdE enc W v xs) (hu : RdE enc W u ys) => same_any xs ys v u W hv hu)
    simp only [enc_eq] at FU SUB SBS
    have n0 : (0 : Int) ≤ (n : Int) := by omega
    have n1 : (n : Int) < 32 := by omega
    have i1 : decide ((n : Int) < 0) = false := by rw [decide_eq_false_iff_not]; omega
    have i2 : decide ((ats.length : Int) ≤ (n : Int)) = false := by rw [decide_eq_false_iff_not]; omega
    have i3 : decide (ats.length ≤ n) = false := by rw [decide_eq_false_iff_not]; omega
    have i4 : ¬ ats.length ≤ n := by omega
    clear ht h0 hE hE2 hO hRES hDT hWB hLBF hKEY hl hw hlc hwc hll hwl hn hm10 h16 h200 hrows hrc FB OP
    unfold bit at *
    go_enter Tryz.func25, Tryz.ntmps25
    go_wp2_with fail
    rw [W0.out]
    go_wp2_with fail
    refine (ER.out _ (Below.refl _ _)).mono ?_
    rintro e w1 ⟨rfl, hb1⟩
    have D1 := hid hb1
    clear hb1 c0 c1 c2
    obtain ⟨c0, c1, c2⟩ := C3.out _ D1.out
    have m0 := fun z : After w1 => After.cell c0 z
    have m1 := fun z : After w1 => After.cell c1 z
    have m2 := fun z : After w1 => After.cell c2 z
    have CF := hid (fun (z : After w1) => Calls.after z ((FU.out z.world).mono fun e w' ⟨he, hw⟩ => ⟨he, hw ▸ Below.refl _ _⟩))
    go_wp2_with fail
    refine wp_region_after (by kernel_rfl) (by kernel_rfl) ?_
    repeat (any_goals (quiet_step (exact CF.out _)))
    refine wpQuiet_nil ?_
    intro w2 hb2
    have D2 := hid (D1.out.trans (hb2.mono D1.out.size))
    clear hb2 m0 m1 m2 CF c0 c1 c2
    rw [OE.out]
    go_wp2_with fail
    go_loopw [10] (fun i wr => ∃ k : Nat, k ≤ lhs.length ∧ i = .int .i64 k ∧ Hid ((lhs.take k).all LBF = true) ∧ Below w0.heap.size w0 wr) (fun i _ => lhs.length - (intOf i).toNat)
    case atStart => exact ⟨0, Nat.zero_le _, rfl, hid rfl, D2.out⟩
    case round =>
      obtain ⟨k, hk, rfl, HP, hnx⟩ := hrel
      have hsz := hnx.size
      have k0 : (0 : Int) ≤ (k : Int) := by omega
      have kn : (k : Int) ≤ 100000000 := by have := HLL.out; omega
      by_cases hlt : k < lhs.length
      · obtain ⟨s, hs⟩ := get_some hlt
        obtain ⟨b, off, rfl, hd⟩ := LC.out k s hs
        have e0 := hd wr hnx
        unfold enc at e0
        obtain ⟨c0, c1, c2⟩ := C3.out _ hnx
        have NX := hid hnx
        have HLT := hid hlt
        have HX := hid hs
        have LS := hid (LB.out s)
        have m0 := fun z : After wr => After.cell c0 z
        have m1 := fun z : After wr => After.cell c1 z
        have m2 := fun z : After wr => After.cell c2 z
        have m3 := fun z : After wr => After.cell e0 z
        have CS := hid (fun (z : After wr) => Calls.after z ((SUB.out s O z.world).mono fun e w' ⟨he, hw⟩ => ⟨he, hw ▸ Below.refl _ _⟩))
        clear hd hs hnx
        by_cases hz : sub s O
        · rw [decide_eq_true hz] at CS LS
          rw [Bool.true_and] at LS
          have CX := hid (fun (z : After wr) => Calls.after z (DE.out s (SOF.out s hz) z.world (NX.out.trans (z.below.mono hsz))))
          clear hz
          cases hsat : DT s with
          | true =>
            rw [hsat] at LS CX
            have HN := hid (all_next HX.out LS.out HP.out)
            clear hsat
            go_wp2_with fail
            refine wp_region_after (by kernel_rfl) (by kernel_rfl) ?_
            repeat (any_goals (quiet_step (first | exact CS.out _ | exact CX.out _)))
            refine wpQuiet_nil ?_
            intro wz hbz
            have BZ := hid (NX.out.trans (hbz.mono hsz))
            clear hbz m0 m1 m2 m3 CX CS c0 c1 c2 e0
            go_wp2_with fail
            go_roundw
            case rel => exact ⟨k + 1, by have := HLT.out; omega, by go_num, hid HN.out, BZ.out⟩
            case measure => have := HLT.out; simp [intOf]; omega
          | false =>
            rw [hsat] at LS CX
            have RF := hid (show RES = false by rw [FC.out, all_hit HX.out LS.out]; rfl)
            clear hsat
            go_wp2_with fail
            refine wp_region_after (by kernel_rfl) (by kernel_rfl) ?_
            repeat (any_goals (quiet_step (first | exact CS.out _ | exact CX.out _)))
            refine wpQuiet_nil ?_
            intro wz hbz
            have BF := hid (B0.out.trans ((NX.out.trans (hbz.mono hsz)).mono hsz0))
            clear hbz m0 m1 m2 m3 CX CS c0 c1 c2 e0
            go_wp2_with fail
            go_ret
            exact ⟨ret_bool RF.out.symm, BF.out⟩
        · rw [decide_eq_false hz] at CS LS
          rw [Bool.false_and] at LS
          have RF := hid (show RES = false by rw [FC.out, all_hit HX.out LS.out]; rfl)
          clear hz
          go_wp2_with fail
          refine wp_region_after (by kernel_rfl) (by kernel_rfl) ?_
          repeat (any_goals (quiet_step (first | exact CS.out _)))
          refine wpQuiet_nil ?_
          intro wz hbz
          have BF := hid (B0.out.trans ((NX.out.trans (hbz.mono hsz)).mono hsz0))
          clear hbz m0 m1 m2 m3 CS c0 c1 c2 e0
          go_wp2_with fail
          go_ret
          exact ⟨ret_bool RF.out.symm, BF.out⟩
      · have HAL := hid (show lhs.all LBF = true by have h := HP.out; rwa [List.take_of_length_le (by omega)] at h)
        have NX := hid hnx
        clear hnx
        go_wp2_with fail
        go_loopw [11, 12] (fun u i wr => ∃ j : Nat, j ≤ ws.length ∧ i = .int .i64 j ∧ wr.ownsRow w0.heap.size 53 1 u (edgO O (ws.take j)).length ((edgO O (ws.take j)).map enc) ∧ Hid ((ws.take j).all WB = true) ∧ Below w0.heap.size w0 wr) (fun _ i _ => ws.length - (intOf i).toNat)
        case atStart => exact ⟨0, Nat.zero_le _, rfl, World.ownsRow_nil _ _ _ _, hid rfl, NX.out⟩
        case round =>
          obtain ⟨j, hj, rfl, hown, HQ, hnx⟩ := hrel
          have hsz2 := hnx.size
          have j0 : (0 : Int) ≤ (j : Int) := by omega
          have jn : (j : Int) ≤ 100000000 := by have := HWL.out; omega
          by_cases hlj : j < ws.length
          · obtain ⟨x, hx⟩ := get_some hlj
            obtain ⟨b, off, rfl, hd⟩ := WC.out j x hx
            obtain ⟨e0, e1, e2⟩ := hd wr hnx
            have DW := hid (fun (W : World) (h : Below w0.heap.size w0 W) => hd W h)
            have O1 := hid hown
            have N1 := hid hnx
            have SN := hid (show edgO O (ws.take (j + 1)) = edgO O (ws.take j) ++ [O &&& ~~~ x.1] by unfold edgO; rw [take_next hx, List.map_append]; rfl)
            have OLE := hid (show (edgO O (ws.take j)).length ≤ 100000000 by unfold edgO; rw [List.length_map]; have := List.length_take_le j ws; have := HWL.out; omega)
            have HX := hid hx
            have HLJ := hid hlj
            obtain ⟨c0, c1, c2⟩ := C3.out _ hnx
            have m0 := fun z : After wr => After.cell c0 z
            have m1 := fun z : After wr => After.cell c1 z
            have m2 := fun z : After wr => After.cell c2 z
            have m3 := fun z : After wr => After.cell e0 z
            have m4 := fun z : After wr => After.cell e1 z
            have m5 := fun z : After wr => After.cell e2 z
            have CA0 := hid (fun (W : World) (h : Below w0.heap.size w0 W) => FI.out x.2.1 W h)
            clear hx hd hown hnx
            have WA1 := hid (WA0.out x)
            have WB1 := hid (WB0.out x)
            have WT1 := hid (WT.out x)
            have GA := hid (fun i (h : fnd rs x.2.1 = some i) => fnd_get h)
            have GB := hid (fun i (h : fnd rs x.2.2 = some i) => fnd_get h)
            have CB0 := hid (fun (W : World) (h : Below w0.heap.size w0 W) => FI.out x.2.2 W h)
            obtain ⟨fa, hfa⟩ : ∃ fa, fnd rs x.2.1 = fa := ⟨_, rfl⟩
            obtain ⟨fb, hfb⟩ : ∃ fb, fnd rs x.2.2 = fb := ⟨_, rfl⟩
            rw [hfa] at CA0 WA1 GA WT1
            rw [hfb] at CB0 WB1 GB WT1
            clear hfa hfb
            cases fa with
            | none =>
              cases fb with
              | none =>
                have WF := hid (WA1.out rfl)
                have CA := hid (fun (z : After wr) => Calls.after z (show Calls _ _ _ z.world fun e w' => e = .returned (.tuple #[.int .i64 0, .bool false]) ∧ Below z.world.heap.size z.world w' from CA0.out z.world (N1.out.trans (z.below.mono hsz2))))
                replace CB0 := hid (fun (W : World) (h : Below w0.heap.size w0 W) => show Calls _ _ _ W fun e w' => e = .returned (.tuple #[.int .i64 0, .bool false]) ∧ Below W.heap.size W w' from CB0.out W h)
                go_wp2_with fail
                refine wp_region_after (by kernel_rfl) (by kernel_rfl) ?_
                repeat (any_goals (quiet_step (exact CA.out _)))
                refine wpQuiet_nil ?_
                intro w3 hb3
                have N3 := hid (N1.out.trans (hb3.mono hsz2))
                have O3 := hid (own_below O1.out hb3)
                clear hb3 m0 m1 m2 m3 m4 m5 CA c0 c1 c2 e0 e1 e2
                have hsz3 := N3.out.size
                obtain ⟨c0, c1, c2⟩ := C3.out _ N3.out
                obtain ⟨e0, e1, e2⟩ := DW.out _ N3.out
                have m0 := fun z : After w3 => After.cell c0 z
                have m1 := fun z : After w3 => After.cell c1 z
                have m2 := fun z : After w3 => After.cell c2 z
                have m3 := fun z : After w3 => After.cell e0 z
                have m4 := fun z : After w3 => After.cell e1 z
                have m5 := fun z : After w3 => After.cell e2 z
                have CB := hid (fun (z : After w3) => Calls.after z (CB0.out z.world (N3.out.trans (z.below.mono hsz3))))
                go_wp2_with fail
                refine wp_region_after (by kernel_rfl) (by kernel_rfl) ?_
                repeat (any_goals (quiet_step (exact CB.out _)))
                refine wpQuiet_nil ?_
                intro w4 hb4
                have N4 := hid (N3.out.trans (hb4.mono hsz3))
                have O4 := hid (own_below O3.out hb4)
                clear hb4 m0 m1 m2 m3 m4 m5 CB c0 c1 c2 e0 e1 e2
                have hsz4 := N4.out.size
                obtain ⟨c0, c1, c2⟩ := C3.out _ N4.out
                obtain ⟨e0, e1, e2⟩ := DW.out _ N4.out
                have m0 := fun z : After w4 => After.cell c0 z
                have m1 := fun z : After w4 => After.cell c1 z
                have m2 := fun z : After w4 => After.cell c2 z
                have m3 := fun z : After w4 => After.cell e0 z
                have m4 := fun z : After w4 => After.cell e1 z
                have m5 := fun z : After w4 => After.cell e2 z
                have RF := hid (show RES = false by rw [FC.out, all_hit HX.out (WF.out), Bool.and_false]; rfl)
                go_wp2_with fail
                refine wp_region_after (by kernel_rfl) (by kernel_rfl) ?_
                repeat (any_goals (quiet_step (fail)))
                refine wpQuiet_nil ?_
                intro wz hbz
                have BF := hid (B0.out.trans ((N4.out.trans (hbz.mono hsz4)).mono hsz0))
                clear hbz m0 m1 m2 m3 m4 m5 c0 c1 c2 e0 e1 e2
                go_wp2_with fail
                go_ret
                exact ⟨ret_bool RF.out.symm, BF.out⟩
              | some i2 =>
                have WF := hid (WA1.out rfl)
                have CA := hid (fun (z : After wr) => Calls.after z (show Calls _ _ _ z.world fun e w' => e = .returned (.tuple #[.int .i64 0, .bool false]) ∧ Below z.world.heap.size z.world w' from CA0.out z.world (N1.out.trans (z.below.mono hsz2))))
                replace CB0 := hid (fun (W : World) (h : Below w0.heap.size w0 W) => show Calls _ _ _ W fun e w' => e = .returned (.tuple #[.int .i64 (i2 : Int), .bool true]) ∧ Below W.heap.size W w' from CB0.out W h)
                go_wp2_with fail
                refine wp_region_after (by kernel_rfl) (by kernel_rfl) ?_
                repeat (any_goals (quiet_step (exact CA.out _)))
                refine wpQuiet_nil ?_
                intro w3 hb3
                have N3 := hid (N1.out.trans (hb3.mono hsz2))
                have O3 := hid (own_below O1.out hb3)
                clear hb3 m0 m1 m2 m3 m4 m5 CA c0 c1 c2 e0 e1 e2
                have hsz3 := N3.out.size
                obtain ⟨c0, c1, c2⟩ := C3.out _ N3.out
                obtain ⟨e0, e1, e2⟩ := DW.out _ N3.out
                have m0 := fun z : After w3 => After.cell c0 z
                have m1 := fun z : After w3 => After.cell c1 z
                have m2 := fun z : After w3 => After.cell c2 z
                have m3 := fun z : After w3 => After.cell e0 z
                have m4 := fun z : After w3 => After.cell e1 z
                have m5 := fun z : After w3 => After.cell e2 z
                have CB := hid (fun (z : After w3) => Calls.after z (CB0.out z.world (N3.out.trans (z.below.mono hsz3))))
                go_wp2_with fail
                refine wp_region_after (by kernel_rfl) (by kernel_rfl) ?_
                repeat (any_goals (quiet_step (exact CB.out _)))
                refine wpQuiet_nil ?_
                intro w4 hb4
                have N4 := hid (N3.out.trans (hb4.mono hsz3))
                have O4 := hid (own_below O3.out hb4)
                clear hb4 m0 m1 m2 m3 m4 m5 CB c0 c1 c2 e0 e1 e2
                have hsz4 := N4.out.size
                obtain ⟨c0, c1, c2⟩ := C3.out _ N4.out
                obtain ⟨e0, e1, e2⟩ := DW.out _ N4.out
                have m0 := fun z : After w4 => After.cell c0 z
                have m1 := fun z : After w4 => After.cell c1 z
                have m2 := fun z : After w4 => After.cell c2 z
                have m3 := fun z : After w4 => After.cell e0 z
                have m4 := fun z : After w4 => After.cell e1 z
                have m5 := fun z : After w4 => After.cell e2 z
                have RF := hid (show RES = false by rw [FC.out, all_hit HX.out (WF.out), Bool.and_false]; rfl)
                go_wp2_with fail
                refine wp_region_after (by kernel_rfl) (by kernel_rfl) ?_
                repeat (any_goals (quiet_step (fail)))
                refine wpQuiet_nil ?_
                intro wz hbz
                have BF := hid (B0.out.trans ((N4.out.trans (hbz.mono hsz4)).mono hsz0))
                clear hbz m0 m1 m2 m3 m4 m5 c0 c1 c2 e0 e1 e2
                go_wp2_with fail
                go_ret
                exact ⟨ret_bool RF.out.symm, BF.out⟩
            | some ia =>
              cases fb with
              | none =>
                have WF := hid (WB1.out rfl)
                have CA := hid (fun (z : After wr) => Calls.after z (show Calls _ _ _ z.world fun e w' => e = .returned (.tuple #[.int .i64 (ia : Int), .bool true]) ∧ Below z.world.heap.size z.world w' from CA0.out z.world (N1.out.trans (z.below.mono hsz2))))
                replace CB0 := hid (fun (W : World) (h : Below w0.heap.size w0 W) => show Calls _ _ _ W fun e w' => e = .returned (.tuple #[.int .i64 0, .bool false]) ∧ Below W.heap.size W w' from CB0.out W h)
                go_wp2_with fail
                refine wp_region_after (by kernel_rfl) (by kernel_rfl) ?_
                repeat (any_goals (quiet_step (exact CA.out _)))
                refine wpQuiet_nil ?_
                intro w3 hb3
                have N3 := hid (N1.out.trans (hb3.mono hsz2))
                have O3 := hid (own_below O1.out hb3)
                clear hb3 m0 m1 m2 m3 m4 m5 CA c0 c1 c2 e0 e1 e2
                have hsz3 := N3.out.size
                obtain ⟨c0, c1, c2⟩ := C3.out _ N3.out
                obtain ⟨e0, e1, e2⟩ := DW.out _ N3.out
                have m0 := fun z : After w3 => After.cell c0 z
                have m1 := fun z : After w3 => After.cell c1 z
                have m2 := fun z : After w3 => After.cell c2 z
                have m3 := fun z : After w3 => After.cell e0 z
                have m4 := fun z : After w3 => After.cell e1 z
                have m5 := fun z : After w3 => After.cell e2 z
                have CB := hid (fun (z : After w3) => Calls.after z (CB0.out z.world (N3.out.trans (z.below.mono hsz3))))
                go_wp2_with fail
                refine wp_region_after (by kernel_rfl) (by kernel_rfl) ?_
                repeat (any_goals (quiet_step (exact CB.out _)))
                refine wpQuiet_nil ?_
                intro w4 hb4
                have N4 := hid (N3.out.trans (hb4.mono hsz3))
                have O4 := hid (own_below O3.out hb4)
                clear hb4 m0 m1 m2 m3 m4 m5 CB c0 c1 c2 e0 e1 e2
                have hsz4 := N4.out.size
                obtain ⟨c0, c1, c2⟩ := C3.out _ N4.out
                obtain ⟨e0, e1, e2⟩ := DW.out _ N4.out
                have m0 := fun z : After w4 => After.cell c0 z
                have m1 := fun z : After w4 => After.cell c1 z
                have m2 := fun z : After w4 => After.cell c2 z
                have m3 := fun z : After w4 => After.cell e0 z
                have m4 := fun z : After w4 => After.cell e1 z
                have m5 := fun z : After w4 => After.cell e2 z
                have RF := hid (show RES = false by rw [FC.out, all_hit HX.out (WF.out), Bool.and_false]; rfl)
                go_wp2_with fail
                refine wp_region_after (by kernel_rfl) (by kernel_rfl) ?_
                repeat (any_goals (quiet_step (fail)))
                refine wpQuiet_nil ?_
                intro wz hbz
                have BF := hid (B0.out.trans ((N4.out.trans (hbz.mono hsz4)).mono hsz0))
                clear hbz m0 m1 m2 m3 m4 m5 c0 c1 c2 e0 e1 e2
                go_wp2_with fail
                go_ret
                exact ⟨ret_bool RF.out.symm, BF.out⟩
              | some ib =>
                have CA := hid (fun (z : After wr) => Calls.after z (show Calls _ _ _ z.world fun e w' => e = .returned (.tuple #[.int .i64 (ia : Int), .bool true]) ∧ Below z.world.heap.size z.world w' from CA0.out z.world (N1.out.trans (z.below.mono hsz2))))
                replace CB0 := hid (fun (W : World) (h : Below w0.heap.size w0 W) => show Calls _ _ _ W fun e w' => e = .returned (.tuple #[.int .i64 (ib : Int), .bool true]) ∧ Below W.heap.size W w' from CB0.out W h)
                go_wp2_with fail
                refine wp_region_after (by kernel_rfl) (by kernel_rfl) ?_
                repeat (any_goals (quiet_step (exact CA.out _)))
                refine wpQuiet_nil ?_
                intro w3 hb3
                have N3 := hid (N1.out.trans (hb3.mono hsz2))
                have O3 := hid (own_below O1.out hb3)
                clear hb3 m0 m1 m2 m3 m4 m5 CA c0 c1 c2 e0 e1 e2
                have hsz3 := N3.out.size
                obtain ⟨c0, c1, c2⟩ := C3.out _ N3.out
                obtain ⟨e0, e1, e2⟩ := DW.out _ N3.out
                have m0 := fun z : After w3 => After.cell c0 z
                have m1 := fun z : After w3 => After.cell c1 z
                have m2 := fun z : After w3 => After.cell c2 z
                have m3 := fun z : After w3 => After.cell e0 z
                have m4 := fun z : After w3 => After.cell e1 z
                have m5 := fun z : After w3 => After.cell e2 z
                have CB := hid (fun (z : After w3) => Calls.after z (CB0.out z.world (N3.out.trans (z.below.mono hsz3))))
                go_wp2_with fail
                refine wp_region_after (by kernel_rfl) (by kernel_rfl) ?_
                repeat (any_goals (quiet_step (exact CB.out _)))
                refine wpQuiet_nil ?_
                intro w4 hb4
                have N4 := hid (N3.out.trans (hb4.mono hsz3))
                have O4 := hid (own_below O3.out hb4)
                clear hb4 m0 m1 m2 m3 m4 m5 CB c0 c1 c2 e0 e1 e2
                have hsz4 := N4.out.size
                obtain ⟨c0, c1, c2⟩ := C3.out _ N4.out
                obtain ⟨e0, e1, e2⟩ := DW.out _ N4.out
                have m0 := fun z : After w4 => After.cell c0 z
                have m1 := fun z : After w4 => After.cell c1 z
                have m2 := fun z : After w4 => After.cell c2 z
                have m3 := fun z : After w4 => After.cell e0 z
                have m4 := fun z : After w4 => After.cell e1 z
                have m5 := fun z : After w4 => After.cell e2 z
                obtain ⟨⟨rid, ru, rvs⟩, hr, hid1⟩ := GA.out ia rfl
                obtain ⟨⟨qid, qu, qvs⟩, hq, hid2⟩ := GB.out ib rfl
                have hia : ia < rs.length := (List.getElem?_eq_some_iff.1 hr).1
                have hib : ib < rs.length := (List.getElem?_eq_some_iff.1 hq).1
                have HR1 := hid (HR.out _ (List.mem_of_getElem? hr))
                have HR2 := hid (HR.out _ (List.mem_of_getElem? hq))
                have WX := hid (WT1.out ia ib _ _ rfl rfl hr hq)
                obtain ⟨⟨rb, roff, rfl, hrd⟩, hrv⟩ := RC.out ia _ hr
                obtain ⟨⟨rb', roff', hbb, hqd⟩, hqv⟩ := RC.out ib _ hq
                cases hbb
                obtain ⟨g0, g1⟩ := hrd w4 N4.out
                obtain ⟨h0', h1'⟩ := hqd w4 N4.out
                have m6 := fun z : After w4 => After.cell g0 z
                have m7 := fun z : After w4 => After.cell g1 z
                have m8 := fun z : After w4 => After.cell h0' z
                have m9 := fun z : After w4 => After.cell h1' z
                have CS := hid (fun (z : After w4) => Calls.after z ((SUB.out x.1 O z.world).mono fun e w' ⟨he, hw⟩ => ⟨he, hw ▸ Below.refl _ _⟩))
                have CW := hid (fun (z : After w4) => Calls.after z (WN.out x.1 rid qid rvs qvs ru qu z.world (hrv _ (N4.out.trans (z.below.mono hsz4))) (hqv _ (N4.out.trans (z.below.mono hsz4))) (by rw [HR1.out.1, HR2.out.1]) (by have h1 : rvs.length = ats.length := HR1.out.1; have := A32.out; omega) HR1.out.2))
                have ja0 : (0 : Int) ≤ (ia : Int) := by omega
                have jb0 : (0 : Int) ≤ (ib : Int) := by omega
                have ja1 : (ia : Int) < (rs.length : Int) := by omega
                have jb1 : (ib : Int) < (rs.length : Int) := by omega
                clear hr hq hid1 hid2 hrd hqd hrv hqv
                obtain ⟨xs, xa, xb⟩ := x
                simp only at WX CS CW e0 e1 e2 m3 m4 m5
                obtain ⟨WV, hWV⟩ : ∃ WV, (agB rvs qvs xs && !agB rvs qvs (1#32 <<< n)) = WV := ⟨_, rfl⟩
                rw [hWV] at WX CW
                clear hWV
                by_cases hlt2 : xa < xb
                · have t1 : decide (xb ≤ xa) = false := by rw [decide_eq_false_iff_not]; omega
                  have t2 : decide (xa ≥ xb) = false := by rw [decide_eq_false_iff_not]; omega
                  rw [decide_eq_true hlt2, Bool.true_and] at WX
                  have HLT2 := hid hlt2
                  clear hlt2
                  by_cases hz : sub xs O
                  · rw [decide_eq_true hz, Bool.true_and] at WX
                    rw [decide_eq_true hz] at CS
                    clear hz
                    cases WV with
                    | false =>
                      have RF := hid (show RES = false by rw [FC.out, all_hit HX.out (WX.out), Bool.and_false]; rfl)
                      go_wp2_with fail
                      refine wp_region_after (by kernel_rfl) (by kernel_rfl) ?_
                      repeat (any_goals (quiet_step (first | exact CS.out _ | exact CW.out _)))
                      refine wpQuiet_nil ?_
                      intro wz hbz
                      have BF := hid (B0.out.trans ((N4.out.trans (hbz.mono hsz4)).mono hsz0))
                      clear hbz m0 m1 m2 m3 m4 m5 c0 c1 c2 e0 e1 e2
                      go_wp2_with fail
                      go_ret
                      exact ⟨ret_bool RF.out.symm, BF.out⟩
                    | true =>
                      have HN := hid (all_next HX.out WX.out HQ.out)
                      go_wp2_with fail
                      refine wp_region_after (by kernel_rfl) (by kernel_rfl) ?_
                      repeat (any_goals (quiet_step (first | exact CS.out _ | exact CW.out _)))
                      refine wpQuiet_nil ?_
                      intro wz hbz
                      have NZ := hid (N4.out.trans (hbz.mono hsz4))
                      have OZ := hid (own_below O4.out hbz)
                      obtain ⟨k0', k1', k2'⟩ := DW.out _ NZ.out
                      try simp only at k0' k1' k2'
                      have SZ := hid NZ.out.size
                      obtain ⟨out, hout⟩ : ∃ out, edgO O (ws.take j) = out := ⟨_, rfl⟩
                      rw [hout] at OZ SN OLE
                      clear hbz m0 m1 m2 m3 m4 m5 m6 m7 m8 m9 CS CW c0 c1 c2 e0 e1 e2 g0 g1 h0' h1' hout
                      go_wp2_with (at_builtin; refine wpList_push rfl _ _ 35 rfl w0.heap.size 53 (.int .u32 0) 4 undSets infoSet rfl (by decide) enc (fun _ => rfl) _ out rfl (OZ.out.alloc _) ⟨wz.heap.size, 0, none⟩ (O &&& ~~~ xs) rfl (by simp [enc]) (by have := OLE.out; omega) (by have := SZ.out; simp; omega) ?_)
                      intro v' w5 hown' hgrow
                      have N5 := hid (below_push NZ.out SZ.out OZ.out hgrow)
                      have O5 := hid (show w5.ownsRow w0.heap.size 53 1 v' (edgO O (ws.take (j + 1))).length ((edgO O (ws.take (j + 1))).map enc) by rw [SN.out]; simpa using hown')
                      clear hown' hgrow k0' k1' k2'
                      go_wp2_with fail
                      go_roundw
                      case rel => exact ⟨j + 1, by have := HLJ.out; omega, by go_num, O5.out, hid HN.out, N5.out⟩
                      case measure => have := HLJ.out; simp [intOf]; omega
                  · rw [decide_eq_false hz, Bool.false_and] at WX
                    rw [decide_eq_false hz] at CS
                    clear hz
                    have RF := hid (show RES = false by rw [FC.out, all_hit HX.out (WX.out), Bool.and_false]; rfl)
                    go_wp2_with fail
                    refine wp_region_after (by kernel_rfl) (by kernel_rfl) ?_
                    repeat (any_goals (quiet_step (first | exact CS.out _)))
                    refine wpQuiet_nil ?_
                    intro wz hbz
                    have BF := hid (B0.out.trans ((N4.out.trans (hbz.mono hsz4)).mono hsz0))
                    clear hbz m0 m1 m2 m3 m4 m5 c0 c1 c2 e0 e1 e2
                    go_wp2_with fail
                    go_ret
                    exact ⟨ret_bool RF.out.symm, BF.out⟩
                · have t1 : decide (xb ≤ xa) = true := by rw [decide_eq_true_iff]; omega
                  have t2 : decide (xa ≥ xb) = true := by rw [decide_eq_true_iff]; omega
                  rw [decide_eq_false hlt2, Bool.false_and, Bool.false_and] at WX
                  have HLT2 := hid hlt2
                  clear hlt2
                  have RF := hid (show RES = false by rw [FC.out, all_hit HX.out (WX.out), Bool.and_false]; rfl)
                  go_wp2_with fail
                  refine wp_region_after (by kernel_rfl) (by kernel_rfl) ?_
                  repeat (any_goals (quiet_step (fail)))
                  refine wpQuiet_nil ?_
                  intro wz hbz
                  have BF := hid (B0.out.trans ((N4.out.trans (hbz.mono hsz4)).mono hsz0))
                  clear hbz m0 m1 m2 m3 m4 m5 c0 c1 c2 e0 e1 e2
                  go_wp2_with fail
                  go_ret
                  exact ⟨ret_bool RF.out.symm, BF.out⟩
          · have hje : ws.length ≤ j := by omega
            rw [List.take_of_length_le hje] at hown
            have HAW := hid (show ws.all WB = true by have h := HQ.out; rwa [List.take_of_length_le hje] at h)
            have EL := hid (show (edgO O ws).length ≤ 100000000 by unfold edgO; rw [List.length_map]; exact HWL.out)
            have RED := hid (RdE.of_owns hown (by have := EL.out; omega))
            have NXE := hid hnx
            obtain ⟨E, hE⟩ : ∃ E, edgO O ws = E := ⟨_, rfl⟩
            rw [hE] at EL RED KT
            have FC2 := hid (show RES = decide (KEY = lhs) by rw [FC.out, HAL.out, HAW.out]; simp)
            have hszr := hnx.size
            obtain ⟨eo, ecap, hev, -⟩ := RED.out.split
            obtain ⟨en, hen⟩ : ∃ en, E.length = en := ⟨_, rfl⟩
            rw [hen] at hev
            subst hev
            have KB := hid (show Below w.heap.size w wr from B0.out.trans (NXE.out.mono hsz0))
            clear hown hnx hje hE hen
            go_wp2_with fail
            refine (SBS.out _).mono ?_
            rintro e w5 ⟨v5, ys, rfl, ho5, hsp, hyl, hb5⟩
            have D5 := hid (NXE.out.trans (hb5.mono hszr))
            have YO := hid (hsp.2 OP2.out)
            have YL := hid hyl
            have hr5 := RdE.of_owns ho5 (by have := YL.out; omega)
            obtain ⟨yo, ycap, rfl, -, hyc⟩ := hr5.split
            have YC := hid hyc
            have KF := hid (KT.out ys YO.out)
            have RE5 := hid (RED.out.below hb5)
            clear ho5 hsp hyl hb5 hr5 hyc
            obtain ⟨HT, hHT⟩ : ∃ HT : S → Bool, hitsS E = HT := ⟨_, rfl⟩
            have HITE := hid (fun (s : S) (W : World) (h : Below w5.heap.size w5 W) => by have h1 := HIT.out E s (.slice eo en ecap) W (RE5.out.below h); rw [hHT] at h1; exact h1)
            have KF2 := hid (show keepS downR (ys.filter HT) = KEY by rw [← KF.out, ← hHT])
            clear hHT
            go_wp2_with fail
            go_loopw [18, 19] (fun u i wr => ∃ k : Nat, k ≤ ys.length ∧ i = .int .i64 k ∧ wr.ownsRow w5.heap.size 53 1 u ((ys.take k).filter HT).length (((ys.take k).filter HT).map enc) ∧ Below w5.heap.size w5 wr) (fun _ i _ => ys.length - (intOf i).toNat)
            case atStart => exact ⟨0, Nat.zero_le _, rfl, World.ownsRow_nil _ _ _ _, Below.refl _ _⟩
            case round =>
              obtain ⟨k, hk, rfl, hown, hnx⟩ := hrel
              have hsz := hnx.size
              have k0 : (0 : Int) ≤ (k : Int) := by omega
              have kn : (k : Int) ≤ 4294967297 := by have := YL.out; omega
              by_cases hlt : k < ys.length
              · obtain ⟨x, hx⟩ := get_some hlt
                obtain ⟨b, off, rfl, hd⟩ := YC.out k x hx
                have e0 := hd wr hnx
                unfold enc at e0
                have H1 := hid (HITE.out x wr hnx)
                have OLE := hid (show ((ys.take k).filter HT).length ≤ 4294967297 by have h1 := List.length_filter_le HT (ys.take k); have h2 := List.length_take_le k ys; have := YL.out; omega)
                have SN := hid (show (ys.take (k + 1)).filter HT = (ys.take k).filter HT ++ if HT x = true then [x] else [] by
                  rw [take_next hx, List.filter_append, List.filter_cons, List.filter_nil])
                obtain ⟨out, hout⟩ : ∃ out, (ys.take k).filter HT = out := ⟨_, rfl⟩
                rw [hout] at hown OLE SN
                have HO := hid hown
                have HNX := hid hnx
                have HLT := hid hlt
                have S3 := hid hsz
                clear hown hnx hx hd hout
                cases hq : HT x with
                | true =>
                  rw [hq] at H1 SN
                  rw [if_pos rfl] at SN
                  go_wp2_with fail
                  refine H1.out.mono ?_
                  rintro e w6 ⟨rfl, rfl⟩
                  go_wp2_with (at_builtin; refine wpList_push rfl _ _ 35 rfl w5.heap.size 53 (.int .u32 0) 4 undSets infoSet rfl (by decide) enc (fun _ => rfl) _ out rfl (HO.out.alloc _) ⟨wr.heap.size, 0, none⟩ x rfl (by simp [enc]) (by have := OLE.out; omega) (by have := S3.out; simp; omega) ?_)
                  intro v' w7 hown' hgrow
                  have N5 := hid (below_push HNX.out S3.out HO.out hgrow)
                  have O5 := hid (show w7.ownsRow w5.heap.size 53 1 v' ((ys.take (k + 1)).filter HT).length (((ys.take (k + 1)).filter HT).map enc) by rw [SN.out]; simpa using hown')
                  clear hown' hgrow e0
                  go_wp2_with fail
                  go_roundw
                  case rel => exact ⟨k + 1, by have := HLT.out; omega, by go_num, O5.out, N5.out⟩
                  case measure => have := HLT.out; simp [intOf]; omega
                | false =>
                  rw [hq] at H1 SN
                  rw [if_neg (by simp), List.append_nil] at SN
                  go_wp2_with fail
                  refine H1.out.mono ?_
                  rintro e w6 ⟨rfl, rfl⟩
                  go_wp2_with fail
                  go_roundw
                  case rel => exact ⟨k + 1, by have := HLT.out; omega, by go_num, by rw [SN.out]; exact HO.out, HNX.out⟩
                  case measure => have := HLT.out; simp [intOf]; omega
              · have hke : ys.length ≤ k := by omega
                rw [List.take_of_length_le hke] at hown
                have FLE := hid (show (ys.filter HT).length ≤ 4294967297 by have h1 := List.length_filter_le HT ys; have := YL.out; omega)
                have M1 := hid (MI.out _ _ wr (RdE.of_owns hown (by have := FLE.out; omega)) (by have := FLE.out; omega))
                rw [KF2.out] at M1
                have KL := hid (show KEY.length ≤ 4294967297 by rw [← KF2.out]; exact Nat.le_trans (keepS_length _ _) FLE.out)
                have NXW := hid (show Below w0.heap.size w0 wr from D5.out.trans (hnx.mono D5.out.size))
                clear hown hnx hke
                go_wp2_with fail
                refine M1.out.mono ?_
                rintro e w6 ⟨v6, rfl, ho6, hb6⟩
                have D6 := hid (NXW.out.trans (hb6.mono NXW.out.size))
                have R6 := hid (RdE.of_owns ho6 (by have := KL.out; omega))
                have S1 := hid (SAME.out KEY lhs v6 (.slice lo lhs.length lcap) w6 R6.out (LHS.out.below D6.out))
                rw [← FC2.out] at S1
                have BF := hid (B0.out.trans (D6.out.mono hsz0))
                clear ho6 hb6
                go_wp2_with fail
                refine S1.out.mono ?_
                rintro e w7 ⟨rfl, q, rfl⟩
                go_wp2_with fail
                go_ret
                exact ⟨by first | rfl | exact ret_bool rfl, below_drewN' BF.out q⟩
  · have FB : rchkB t a lhs ws = false := by unfold rchkB; rw [decide_eq_false h0]; rfl
    rw [FB]
    have AE : faE t a = if fE t ≠ 0 then fE t else if a < 0 ∨ (t.2.1.length : Int) ≤ a then 6 else 0 := rfl
    obtain ⟨lo, lcap, rfl, -⟩ := hl.split
    obtain ⟨wo', wcap, rfl, -⟩ := RdW.split hw
    obtain ⟨nm, ats, rs⟩ := t
    obtain ⟨ao, acap, hva, -⟩ := T0.out.1.split
    simp only at ER hva AE
    subst hva
    generalize faE (nm, ats, rs) a = ke at *
    generalize fE (nm, ats, rs) = fe at *
    clear ht hl hw FB hll hwl
    by_cases hf : fe = 0
    · subst hf
      rw [if_neg (by simp)] at AE
      have hc : a < 0 ∨ (ats.length : Int) ≤ a := by
        apply Classical.byContradiction
        intro h
        rw [if_neg h] at AE
        exact h0 AE
      clear AE h0
      by_cases h1 : a < 0
      · have i1 : decide (a < 0) = true := decide_eq_true h1
        clear hc
        go_enter Tryz.func25, Tryz.ntmps25
        go_wp2_with fail
        rw [W0.out]
        go_wp2_with fail
        refine (ER.out _ (Below.refl _ _)).mono ?_
        rintro e w1 ⟨rfl, hb1⟩
        have H1 := hid (B0.out.trans (hb1.mono hsz0))
        have D1 := hid hb1
        clear hb1 c0 c1 c2
        obtain ⟨c0, c1, c2⟩ := C3.out _ D1.out
        go_wp2_with fail
        go_ret
        exact ⟨by first | rfl | exact ret_bool rfl, H1.out⟩
      · have h2 : (ats.length : Int) ≤ a := hc.resolve_left h1
        have i1 : decide (a < 0) = false := decide_eq_false h1
        have i2 : decide ((ats.length : Int) ≤ a) = true := decide_eq_true h2
        have i3 : decide (a ≥ (ats.length : Int)) = true := decide_eq_true h2
        clear hc
        go_enter Tryz.func25, Tryz.ntmps25
        go_wp2_with fail
        rw [W0.out]
        go_wp2_with fail
        refine (ER.out _ (Below.refl _ _)).mono ?_
        rintro e w1 ⟨rfl, hb1⟩
        have H1 := hid (B0.out.trans (hb1.mono hsz0))
        have D1 := hid hb1
        clear hb1 c0 c1 c2
        obtain ⟨c0, c1, c2⟩ := C3.out _ D1.out
        go_wp2_with fail
        go_ret
        exact ⟨by first | rfl | exact ret_bool rfl, H1.out⟩
    · have hne : (fe == 0) = false := beq_eq_false_iff_ne.2 hf
      clear AE h0
      go_enter Tryz.func25, Tryz.ntmps25
      go_wp2_with fail
      rw [W0.out]
      go_wp2_with fail
      refine (ER.out _ (Below.refl _ _)).mono ?_
      rintro e w1 ⟨rfl, hb1⟩
      have H1 := hid (B0.out.trans (hb1.mono hsz0))
      have D1 := hid hb1
      clear hb1 c0 c1 c2
      obtain ⟨c0, c1, c2⟩ := C3.out _ D1.out
      go_wp2_with fail
      go_ret
      exact ⟨by first | rfl | exact ret_bool rfl, H1.out⟩

end Go.Proofs.YthoidncbbcpnnaaGreatDoor
