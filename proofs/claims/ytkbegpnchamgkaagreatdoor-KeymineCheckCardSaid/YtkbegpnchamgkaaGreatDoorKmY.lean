/- The law KeymineCheck. -/
import Derived.Test.YtkbegpnchamgkaaGreatDoorKmU
import Derived.Test.YtkbegpnchamgkaaGreatDoorKmR6
import Derived.Test.YtkbegpnchamgkaaGreatDoorAfter
namespace Go.Proofs.YtkbegpnchamgkaaGreatDoor
open Go.RowKit
set_option linter.unusedVariables false

/-! Plain: what is accepted are the minimal uniques. -/
theorem rgt_sub {t : T3} (hk : tabE2 t = 0) {x : W3} (h : rgtB t x = true) : ∃ p ∈ pairsS t.2.2, sub x.1 p := by
  obtain ⟨h16, -, hrows⟩ := tabE2_ok hk
  have hp := ids_inc hk
  unfold rgtB at h
  cases hA : fnd t.2.2 x.2.1 with
  | none => rw [hA] at h; cases h
  | some i =>
    cases hB : fnd t.2.2 x.2.2 with
    | none => rw [hA, hB] at h; cases h
    | some k =>
      rw [hA, hB] at h
      simp only [Bool.and_eq_true, decide_eq_true_iff, beq_iff_eq] at h
      obtain ⟨⟨hlt, _⟩, hs⟩ := h
      obtain ⟨r, hr, h1⟩ := fnd_get hA
      obtain ⟨q, hq, h2⟩ := fnd_get hB
      rw [rowAt_at hr, rowAt_at hq, andNot_zero_iff] at hs
      have hik : i < k := by
        obtain ⟨hi, hri⟩ := List.getElem?_eq_some_iff.1 hr
        obtain ⟨hk', hqk⟩ := List.getElem?_eq_some_iff.1 hq
        rcases Nat.lt_trichotomy i k with h | h | h
        · exact h
        · subst h
          have : r = q := by rw [← hri, ← hqk]
          rw [this] at h1; omega
        · have := List.pairwise_iff_getElem.1 hp k i hk' hi h
          rw [hri, hqk] at this; omega
      exact ⟨_, (mem_pairsW (fun r hr => (hrows r hr).1)).2 ⟨i, k, r, q, hik, hr, hq, rfl⟩, hs⟩
theorem kchk_keys {t : T3} {ks : List S} {ws : List W3} (h : kchkB t ks ws = true) : ordS ks = keyN t.2.1.length (pairsS t.2.2) := by
  unfold kchkB at h
  simp only [Bool.and_eq_true, decide_eq_true_iff, List.all_eq_true] at h
  obtain ⟨⟨⟨⟨h0, _⟩, hw⟩, hk⟩, ho⟩ := h
  have hk2 := (kE_ok h0).1
  rw [ho]
  refine cert_key (fun x hx => ?_) (fun k hkm p hp => ?_)
  · obtain ⟨y, hy, rfl⟩ := List.mem_map.1 hx
    exact rgt_sub hk2 (hw y hy)
  · rw [← ho] at hkm
    have hm := ((ordS_ord ks).2 k).1 hkm
    have hu := hk k hm
    unfold kuB at hu
    rw [Bool.and_eq_true] at hu
    exact uniB_iff.1 hu.2 p hp
theorem okT_of {t : T3} (h : kE t 0#32 true = 0) (hn : ∀ r ∈ t.2.2, ∀ y ∈ r.2.2, -9223372036854775808 ≤ y.2.1 ∧ y.2.1 < 9223372036854775808) : okT t := by
  intro r hr x hx
  have h1 := rowsE_vals _ _ _ (tabE_rows (tabE2_tab (kE_ok h).1)) r hr
  rw [List.any_eq_false] at h1
  have h3 := h1 x hx
  unfold badV at h3
  exact ⟨by simpa using h3, (hn r hr x hx).1, (hn r hr x hx).2⟩

theorem cloneW_any (xs : List W3) (v : Value) (w : World) (hv : RdW w v xs) (h44 : xs.length < 2199023255552) :
    Calls Tryz.prog 23 #[v] w fun e w' => ∃ v', e = .returned v' ∧ w'.ownsRow w.heap.size 60 3 v' xs.length (xs.flatMap cW) ∧ Below w.heap.size w w' := by
  obtain ⟨ao, cap, rfl, h1, h2, h3⟩ := hv
  have heq := fun (a : Option Addr) (n c : Nat) (w : World) => Lib.run_eql_slice_nil (P := Tryz.prog) w 48 60 a n c 0 0 undWs
  cases ao with
  | none =>
    have hx : xs = [] := by
      cases xs with
      | nil => rfl
      | cons x l => obtain ⟨b, off, h, _⟩ := h3 (by simp); cases h
    subst hx
    clear h3
    go_enter Tryz.func23, Tryz.ntmps23
    go_wp2_with fail
    go_ret
    exact ⟨_, rfl, World.ownsRow_nil _ _ _ _, Below.refl _ _⟩
  | some a =>
    obtain ⟨i, hi, hz0, hz1, hz2⟩ := info_parts infoW
    have hlen := flat_length cW_length xs
    have hcells : ∀ (j : Nat) (u : Value), (xs.flatMap cW)[j]? = some u → w.cell? (a.add j) = some u := by
      intro j u hu
      have hj : j < (xs.flatMap cW).length := (List.getElem?_eq_some_iff.1 hu).1
      obtain ⟨b, off, e, _, hc⟩ := h3 (by omega)
      cases e
      rw [Addr.add_lit]
      exact hc j u hu
    have hcells2 : ∀ (j : Nat) (u : Value), (xs.flatMap cW)[j]? = some u → (w.alloc (.cells #[] 60)).cell? (a.add j) = some u := fun j u hu => World.cell?_alloc_lt _ _ _ (World.block_lt_of_cell? _ _ (hcells j u hu)) |>.trans (hcells j u hu)
    have HC := hid hcells2
    have hown := World.ownsRow_lit (size := 3) (e := 60) w #[] 0 (Nat.le_refl _) (Nat.zero_le _) rfl
    clear hcells hcells2 h3
    go_enter Tryz.func23, Tryz.ntmps23
    have s1 : ∀ u ∈ xs.flatMap cW, u.oneCell' = true := by
      intro u hu
      obtain ⟨x, _, hx⟩ := List.mem_flatMap.1 hu
      exact cW_one x u hx
    have S1 := hid s1
    have HL := hid hlen
    clear s1 hlen
    go_wp2_with (at_builtin; refine wpList_append_own _ rfl _ _ 48 rfl w.heap.size 60 i (.agg #[.int .u32 0, .int .i64 0, .int .i64 0]) 3 24 undWs hi hz0 hz1 hz2 rfl (by decide) _ _ _ rfl hown a xs.length cap (xs.flatMap cW) rfl HL.out HC.out S1.out (by unfold maxLen; omega) (by omega) (by simp) ?_)
    · intro v' w1 h1' hg _
      have B : Below w.heap.size w w1 := ((Below.refl _ w).alloc (Nat.le_refl _) _).grown hg (by simp) (fun k hk => by simp [Value.ownBlock] at hk; omega)
      have BB := hid B
      clear B hg
      have H := hid h1'
      clear h1'
      go_wp2_with fail
      go_ret
      exact ⟨_, rfl, by simpa using H.out, BB.out⟩

attribute [local irreducible] Go.wpQuiet
set_option maxHeartbeats 6400000 in
set_option maxRecDepth 100000 in
theorem kmCheckL (t : T3) (av rv : Value) (ks : List S) (kv : Value) (ws : List W3) (wv : Value) (w : World) (hT : Tab w) (ht : RdT w av rv t) (hn : ∀ r ∈ t.2.2, ∀ y ∈ r.2.2, -9223372036854775808 ≤ y.2.1 ∧ y.2.1 < 9223372036854775808) (hk : RdE enc w kv ks) (hw : RdW w wv ws) :
    Calls Tryz.prog 5 #[.agg #[.string t.1, av, rv], kv, wv] w fun e w' => e = .returned (.bool true) ∧ Below w.heap.size w w' := by
  have hb0 := below_alloc w (.cells #[.string t.1, av, rv] 28)
  have C3 := hid (fun W h => cells3 (w := w) (a := .string t.1) (b := av) (c := rv) (t := 28) W h)
  have T0 := hid (ht.below hb0)
  obtain ⟨w0, hw0⟩ : ∃ w0 : World, w.alloc (.cells #[.string t.1, av, rv] 28) = w0 := ⟨_, rfl⟩
  rw [hw0] at hb0 C3 T0
  have B0 := hid hb0
  have W0 := hid hw0
  have hsz0 := hb0.size
  clear hb0 hw0
  have HT0 := hid (hT.below B0.out)
  have AW := hid (fun (W : World) (h : Below w0.heap.size w0 W) => awake29_any W (HT0.out.below h))
  have K0 := hid (hk.below B0.out)
  have V0 := hid (RdC.below hw B0.out)
  have OKT := hid (fun (h : kE t 0#32 true = 0) => okT_of h hn)
  have D10 := hid (Below.refl w0.heap.size w0)
  obtain ⟨t100, t101, t102⟩ := C3.out _ (Below.refl _ _)
  have KC := hid (fun (k2 w2 : Value) (W : World) (h : Below w0.heap.size w0 W) (hk : RdE enc W k2 ks) (hw : RdW W w2 ws) (hl : ks.length ≤ 100000) => kcheckC_any t av rv ks k2 ws w2 W (T0.out.below h) hk hw hl (HT0.out.below h) OKT.out)
  have RC := hid (fun (W : World) (h : Below w0.heap.size w0 W) (hl : ks.length ≤ 100000) => rcheckC_any t av rv ks kv ws wv W (T0.out.below h) (K0.out.below h) (RdC.below V0.out h) hl)
  have KK := hid (fun (h : kchkB t ks ws = true) => kchk_keys h)
  have HKE := hid (fun (h : kchkB t ks ws = true) => show tabE2 t = 0 from by
    unfold kchkB at h
    simp only [Bool.and_eq_true, decide_eq_true_iff] at h
    exact (kE_ok h.1.1.1.1).1)
  have RA := hid (fun (hk2 : tabE2 t = 0) (W : World) (h : Below w0.heap.size w0 W) => rkall_any t av rv W (T0.out.below h) hk2)
  have OR := hid (fun (W : World) (h : Below w0.heap.size w0 W) (hl : ks.length ≤ 100000) => refOrder_any ks kv W (K0.out.below h) (by omega))
  have OO := hid (fun (ys : List S) (h : IsOrd ys (· ∈ ks)) => show ys = ordS ks from ordS_of h fun _ => Iff.rfl)
  have CS := hid (fun (W : World) (h : Below w0.heap.size w0 W) (hl : ks.length ≤ 100000) => clone_any ks kv W (K0.out.below h) (by omega))
  have CW := hid (fun (W : World) (h : Below w0.heap.size w0 W) (hl : ws.length ≤ 100000) => cloneW_any ws wv W (RdC.below V0.out h) (by omega))
  obtain ⟨ko, kcap, rfl, -⟩ := K0.out.split
  obtain ⟨wo, wcap, rfl, -⟩ := RdW.split V0.out
  obtain ⟨got, hgot⟩ : ∃ got, kchkB t ks ws = got := ⟨_, rfl⟩
  rw [hgot] at KC RC KK HKE
  obtain ⟨nm, ats, rs⟩ := t
  obtain ⟨ao, acap, hva, -⟩ := T0.out.1.split
  obtain ⟨ro, rcap, hvr, -⟩ := RdR.split T0.out.2
  simp only at hva hvr KK RA
  subst hva hvr
  clear ht hT hn hk hw hgot
  by_cases h1 : 8 < rs.length
  · have ca : decide ((8 : Int) < (rs.length : Int)) = true := by rw [decide_eq_true_iff]; omega
    have ca' : decide ((rs.length : Int) > (8 : Int)) = true := by rw [decide_eq_true_iff]; omega
    clear h1
    go_enter Tryz.func5, Tryz.ntmps5
    go_wp2_with fail
    rw [W0.out]
    go_wp2_with fail
    refine (AW.out _ D10.out).mono ?_
    rintro e w11 ⟨rfl, hb11⟩
    have D11 := hid (D10.out.trans (hb11.mono D10.out.size))
    obtain ⟨t110, t111, t112⟩ := C3.out _ D11.out
    clear hb11 t100 t101 t102
    go_wp2_with fail
    refine (AW.out _ D11.out).mono ?_
    rintro e w12 ⟨rfl, hb12⟩
    have D12 := hid (D11.out.trans (hb12.mono D11.out.size))
    obtain ⟨t120, t121, t122⟩ := C3.out _ D12.out
    clear hb12 t110 t111 t112
    have BF := hid (B0.out.trans (D12.out.mono hsz0))
    go_wp2_with fail
    go_ret
    exact ⟨rfl, BF.out⟩
  · have ca : decide ((8 : Int) < (rs.length : Int)) = false := by rw [decide_eq_false_iff_not]; omega
    have ca' : decide ((rs.length : Int) > (8 : Int)) = false := by rw [decide_eq_false_iff_not]; omega
    by_cases h2 : 5 < ats.length
    · have cb : decide ((5 : Int) < (ats.length : Int)) = true := by rw [decide_eq_true_iff]; omega
      have cb' : decide ((ats.length : Int) > (5 : Int)) = true := by rw [decide_eq_true_iff]; omega
      clear h2
      go_enter Tryz.func5, Tryz.ntmps5
      go_wp2_with fail
      rw [W0.out]
      go_wp2_with fail
      refine (AW.out _ D10.out).mono ?_
      rintro e w11 ⟨rfl, hb11⟩
      have D11 := hid (D10.out.trans (hb11.mono D10.out.size))
      obtain ⟨t110, t111, t112⟩ := C3.out _ D11.out
      clear hb11 t100 t101 t102
      go_wp2_with fail
      refine (AW.out _ D11.out).mono ?_
      rintro e w12 ⟨rfl, hb12⟩
      have D12 := hid (D11.out.trans (hb12.mono D11.out.size))
      obtain ⟨t120, t121, t122⟩ := C3.out _ D12.out
      clear hb12 t110 t111 t112
      have BF := hid (B0.out.trans (D12.out.mono hsz0))
      go_wp2_with fail
      go_ret
      exact ⟨rfl, BF.out⟩
    · have cb : decide ((5 : Int) < (ats.length : Int)) = false := by rw [decide_eq_false_iff_not]; omega
      have cb' : decide ((ats.length : Int) > (5 : Int)) = false := by rw [decide_eq_false_iff_not]; omega
      by_cases h3 : 12 < ks.length
      · have cc : decide ((12 : Int) < (ks.length : Int)) = true := by rw [decide_eq_true_iff]; omega
        have cc' : decide ((ks.length : Int) > (12 : Int)) = true := by rw [decide_eq_true_iff]; omega
        clear h3
        go_enter Tryz.func5, Tryz.ntmps5
        go_wp2_with fail
        rw [W0.out]
        go_wp2_with fail
        refine (AW.out _ D10.out).mono ?_
        rintro e w11 ⟨rfl, hb11⟩
        have D11 := hid (D10.out.trans (hb11.mono D10.out.size))
        obtain ⟨t110, t111, t112⟩ := C3.out _ D11.out
        clear hb11 t100 t101 t102
        go_wp2_with fail
        refine (AW.out _ D11.out).mono ?_
        rintro e w12 ⟨rfl, hb12⟩
        have D12 := hid (D11.out.trans (hb12.mono D11.out.size))
        obtain ⟨t120, t121, t122⟩ := C3.out _ D12.out
        clear hb12 t110 t111 t112
        have BF := hid (B0.out.trans (D12.out.mono hsz0))
        go_wp2_with fail
        go_ret
        exact ⟨rfl, BF.out⟩
      · have cc : decide ((12 : Int) < (ks.length : Int)) = false := by rw [decide_eq_false_iff_not]; omega
        have cc' : decide ((ks.length : Int) > (12 : Int)) = false := by rw [decide_eq_false_iff_not]; omega
        by_cases h4 : 12 < ws.length
        · have cd : decide ((12 : Int) < (ws.length : Int)) = true := by rw [decide_eq_true_iff]; omega
          have cd' : decide ((ws.length : Int) > (12 : Int)) = true := by rw [decide_eq_true_iff]; omega
          clear h4
          go_enter Tryz.func5, Tryz.ntmps5
          go_wp2_with fail
          rw [W0.out]
          go_wp2_with fail
          refine (AW.out _ D10.out).mono ?_
          rintro e w11 ⟨rfl, hb11⟩
          have D11 := hid (D10.out.trans (hb11.mono D10.out.size))
          obtain ⟨t110, t111, t112⟩ := C3.out _ D11.out
          clear hb11 t100 t101 t102
          go_wp2_with fail
          refine (AW.out _ D11.out).mono ?_
          rintro e w12 ⟨rfl, hb12⟩
          have D12 := hid (D11.out.trans (hb12.mono D11.out.size))
          obtain ⟨t120, t121, t122⟩ := C3.out _ D12.out
          clear hb12 t110 t111 t112
          have BF := hid (B0.out.trans (D12.out.mono hsz0))
          go_wp2_with fail
          go_ret
          exact ⟨rfl, BF.out⟩
        · have cd : decide ((12 : Int) < (ws.length : Int)) = false := by rw [decide_eq_false_iff_not]; omega
          have cd' : decide ((ws.length : Int) > (12 : Int)) = false := by rw [decide_eq_false_iff_not]; omega
          have hkl : ks.length ≤ 100000 := by omega
          have hwl : ws.length ≤ 100000 := by omega
          have HKL := hid hkl
          have HWL := hid hwl
          clear h1 h2 h3 h4 hkl hwl
          go_enter Tryz.func5, Tryz.ntmps5
          go_wp2_with fail
          rw [W0.out]
          go_wp2_with fail
          refine (AW.out _ D10.out).mono ?_
          rintro e w11 ⟨rfl, hb11⟩
          have D11 := hid (D10.out.trans (hb11.mono D10.out.size))
          obtain ⟨t110, t111, t112⟩ := C3.out _ D11.out
          clear hb11 t100 t101 t102
          have SS := hid (fun (W : World) (h : Below w11.heap.size w11 W) => show Below w11.heap.size w11 W ∧ W.cell? ⟨w.heap.size, 0, none⟩ = some (.string nm) ∧ W.cell? ⟨w.heap.size, 1, none⟩ = some (.slice ao ats.length acap) ∧ W.cell? ⟨w.heap.size, 2, none⟩ = some (.slice ro rs.length rcap) from ⟨h, C3.out _ (D11.out.trans (h.mono D11.out.size))⟩)
          have CS1 := hid (fun (W : World) (h : Below w11.heap.size w11 W) => CS.out W (D11.out.trans (h.mono D11.out.size)) HKL.out)
          have CW1 := hid (fun (W : World) (h : Below w11.heap.size w11 W) => CW.out W (D11.out.trans (h.mono D11.out.size)) HWL.out)
          have KC1 := hid (fun (k2 w2 : Value) (W : World) (h : Below w11.heap.size w11 W) (hk : RdE enc W k2 ks) (hw : RdW W w2 ws) => KC.out k2 w2 W (D11.out.trans (h.mono D11.out.size)) hk hw HKL.out)
          go_wp2_with fail
          go_region_held3 (fun W => Below w11.heap.size w11 W ∧ W.cell? ⟨w.heap.size, 0, none⟩ = some (.string nm) ∧ W.cell? ⟨w.heap.size, 1, none⟩ = some (.slice ao ats.length acap) ∧ W.cell? ⟨w.heap.size, 2, none⟩ = some (.slice ro rs.length rcap))
            (first | exact SS.out _ (Below.refl _ _).drew | exact SS.out _ (by assumption))
            (first
              | (go_at_call 22; have hS := And.left ‹Below w11.heap.size w11 _ ∧ _ ∧ _›; refine (CS1.out _ hS).mono ?_; rintro e wa ⟨va, rfl, hoa, hba⟩; have hLa := hS.trans (hba.mono hS.size); have hra := RdE.of_owns hoa (by have := HKL.out; omega); (first | (replace hrb := RdC.below hrb hba) | skip); clear hba hS hoa)
              | (go_at_call 23; have hS := And.left ‹Below w11.heap.size w11 _ ∧ _ ∧ _›; refine (CW1.out _ hS).mono ?_; rintro e wb ⟨vb, rfl, hob, hbb⟩; have hLb := hS.trans (hbb.mono hS.size); have hrb := RdC.of_owns cW_length hob (by have := HWL.out; omega); (first | (replace hra := RdE.below hra hbb) | skip); clear hbb hS hob)
              | (go_at_call 21; have hS := And.left ‹Below w11.heap.size w11 _ ∧ _ ∧ _›; refine (KC1.out _ _ _ hS hra hrb).mono ?_; rintro e wc ⟨rfl, hbc⟩; have hLc := hS.trans (hbc.mono hS.size); clear hbc hS))
          all_goals
            have D12 := hid (D11.out.trans (hLc.mono D11.out.size))
            obtain ⟨t120, t121, t122⟩ := C3.out _ D12.out
            have SS2 := hid (fun (W : World) (h : Below wc.heap.size wc W) => show Below wc.heap.size wc W ∧ W.cell? ⟨w.heap.size, 0, none⟩ = some (.string nm) ∧ W.cell? ⟨w.heap.size, 1, none⟩ = some (.slice ao ats.length acap) ∧ W.cell? ⟨w.heap.size, 2, none⟩ = some (.slice ro rs.length rcap) from ⟨h, C3.out _ (D12.out.trans (h.mono D12.out.size))⟩)
            have RC2 := hid (fun (W : World) (h : Below wc.heap.size wc W) => RC.out W (D12.out.trans (h.mono D12.out.size)) HKL.out)
            clear hLa hLb hLc hra hrb t110 t111 t112 SS CS1 CW1 KC1
            cases got with
            | false =>
              have RCz := hid (fun z : After wc => Calls.after z (RC2.out z.world z.below))
              have m0 : ∀ z : After wc, z.world.cell? ⟨w.heap.size, 0, none⟩ = some (.string nm) := fun z => After.cell t120 z
              have m1 : ∀ z : After wc, z.world.cell? ⟨w.heap.size, 1, none⟩ = some (.slice ao ats.length acap) := fun z => After.cell t121 z
              have m2 : ∀ z : After wc, z.world.cell? ⟨w.heap.size, 2, none⟩ = some (.slice ro rs.length rcap) := fun z => After.cell t122 z
              go_wp2_with fail
              refine wp_region_after (by kernel_rfl) (by kernel_rfl) ?_
              repeat (any_goals (quiet_step (first | exact RCz.out _)))
              refine wpQuiet_nil ?_
              intro wd hbd
              have BF := hid (B0.out.trans ((D12.out.trans (hbd.mono D12.out.size)).mono hsz0))
              clear hbd m0 m1 m2
              go_wp2_with fail
              go_ret
              exact ⟨rfl, BF.out⟩
            | true =>
              have hk2 := HKE.out rfl
              have hkk := KK.out rfl
              have RA2 := hid (fun (W : World) (h : Below wc.heap.size wc W) => RA.out hk2 W (D12.out.trans (h.mono D12.out.size)))
              have OR2 := hid (fun (W : World) (h : Below wc.heap.size wc W) => OR.out W (D12.out.trans (h.mono D12.out.size)) HKL.out)
              have OO2 := hid (fun (ys : List S) (h : IsOrd ys (· ∈ ks)) => (OO.out ys h).trans hkk)
              have hkb := keyN_bound (tabE2_ok hk2).1 (pairsS rs)
              replace hkb := hid (show (keyN ats.length (pairsS rs)).length ≤ 65536 from hkb)
              generalize keyN ats.length (pairsS rs) = ky at *
              have EQ := hid (fun (v u : Value) (W : World) (hv : RdE enc W v ky) (hu : RdE enc W u ky) => show Calls Tryz.prog 17 #[v, u] W fun e w' => e = .returned (.bool true) ∧ Below W.heap.size W w' from (equalS_any ky ky v u W hv hu).mono fun e w' ⟨he, q, hq⟩ => ⟨by rw [he, decide_eq_true rfl], by rw [hq]; exact below_drewN _ _ q⟩)
              clear hk2 hkk RA OR OO KK HKE KC RC
              go_wp2_with fail
              go_region_held3 (fun W => Below wc.heap.size wc W ∧ W.cell? ⟨w.heap.size, 0, none⟩ = some (.string nm) ∧ W.cell? ⟨w.heap.size, 1, none⟩ = some (.slice ao ats.length acap) ∧ W.cell? ⟨w.heap.size, 2, none⟩ = some (.slice ro rs.length rcap))
                (first | exact SS2.out _ (Below.refl _ _).drew | exact SS2.out _ (by assumption))
                (first
                  | (go_at_call 24; have hS := And.left ‹Below wc.heap.size wc _ ∧ _ ∧ _›; refine (RC2.out _ hS).mono ?_; rintro e wd ⟨rfl, hbd⟩; have hLd := hS.trans (hbd.mono hS.size); (first | (replace hre := RdE.below hre hbd) | skip); (first | (replace hrf := RdE.below hrf hbd) | skip); clear hbd hS)
                  | (go_at_call 25; have hS := And.left ‹Below wc.heap.size wc _ ∧ _ ∧ _›; refine (OR2.out _ hS).mono ?_; rintro e we ⟨ve, ye, rfl, hoe, hie, hle, hbe⟩; obtain rfl := OO2.out _ hie; have hLe := hS.trans (hbe.mono hS.size); have hre := RdE.of_owns hoe (by have := hkb.out; omega); (first | (replace hrf := RdE.below hrf hbe) | skip); clear hbe hS hoe hie hle)
                  | (go_at_call 18; have hS := And.left ‹Below wc.heap.size wc _ ∧ _ ∧ _›; refine (RA2.out _ hS).mono ?_; rintro e wf ⟨vf, rfl, hof, hlf, hbf⟩; have hLf := hS.trans (hbf.mono hS.size); have hrf := RdE.of_owns hof (by have := hkb.out; omega); (first | (replace hre := RdE.below hre hbf) | skip); clear hbf hS hof hlf)
                  | (go_at_call 17; have hS := And.left ‹Below wc.heap.size wc _ ∧ _ ∧ _›; refine (EQ.out _ _ _ hre hrf).mono ?_; rintro e wg ⟨rfl, hbg⟩; have hLg := hS.trans (hbg.mono hS.size); clear hbg hS))
              all_goals
                have BF := hid (B0.out.trans ((D12.out.trans (hLg.mono D12.out.size)).mono hsz0))
                clear hLd hLe hLf hLg hre hrf
                go_wp2_with fail
                go_ret
                exact ⟨rfl, BF.out⟩

end Go.Proofs.YtkbegpnchamgkaaGreatDoor
