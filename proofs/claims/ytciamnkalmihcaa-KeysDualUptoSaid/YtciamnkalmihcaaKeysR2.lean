/- The walks of the reference of chapter 11: Anti, Complements, Check. -/
import Derived.Test.YtciamnkalmihcaaKeysR
namespace Go.Proofs.Ytciamnkalmihcaa
open Go.RowKit

attribute [local irreducible] Go.wpQuiet

noncomputable def antiP (n : Int) (fs : List F) (s : S) (j : Nat) : Bool := !supB n fs s && (List.range j).all (fun i => s.getLsbD i || supB n fs (s ||| bit i))
theorem antiP_zero (n : Int) (fs : List F) (s : S) : antiP n fs s 0 = !supB n fs s := by unfold antiP; simp
theorem antiP_next (n : Int) (fs : List F) (s : S) (j : Nat) : antiP n fs s (j + 1) = (antiP n fs s j && (s.getLsbD j || supB n fs (s ||| bit j))) := by
  unfold antiP; rw [List.range_succ, List.all_append, ← Bool.and_assoc]; simp
theorem antiP_all {n : Int} {fs : List F} {s : S} (hv : validF n fs = 0) (h : sub s (fullN n.toNat)) : antiP n fs s n.toNat = antiB n fs s := by
  unfold antiP antiB; rw [decide_eq_true hv, decide_eq_true h]; simp

set_option maxHeartbeats 1600000 in
theorem refKAnti_any (n : Int) (fs : List F) (v : Value) (w : World) (hv : RdF w v fs) :
    Calls Try.prog 31 #[.int .i64 n, v] w fun e w' => ∃ v', e = .returned (.tuple #[v', .int .i64 (antiE n fs)]) ∧ RdE enc w' v' (antiR n fs) ∧ (antiR n fs).length ≤ 65536 ∧ Below w.heap.size w w' := by
  have V := hid (refValidF_any n fs v w hv)
  by_cases hz : validF n fs = 0
  · by_cases h12 : 12 < n
    · have EE := hid (show antiE n fs = 3 by unfold antiE; rw [if_neg (by simpa using hz), if_pos h12])
      have KR := hid (show antiR n fs = [] by unfold antiR; rw [EE.out]; rfl)
      rw [KR.out, EE.out]
      rw [hz] at V
      obtain ⟨ao, cap, rfl, -⟩ := hv.split
      have hd : decide (n > 12) = true := by simp; omega
      clear hv hz KR EE
      go_enter Try.func31, Try.ntmps31
      go_wp2_with fail
      refine (V.out).mono ?_
      rintro e w' ⟨rfl, rfl⟩
      go_wp2_with fail
      go_ret2
      exact ⟨_, rfl, RdE.nil _ _, by simp, Below.refl _ _⟩
    · have EE := hid (show antiE n fs = 0 by unfold antiE; rw [if_neg (by simpa using hz), if_neg h12])
      have KR := hid (show antiR n fs = antiS n fs by unfold antiR; rw [if_pos EE.out])
      obtain ⟨h0, h16, -, -⟩ := validF_w2 hz
      have KW := hid (fun s (h : antiB n fs s = true) => show s.toNat < 2 ^ n.toNat from full_pow (by omega) (antiB_iff.1 h).2.1)
      have KO := hid (fun (ys : List S) (h : IsOrd ys (fun s => antiB n fs s = true)) => show ys = antiS n fs from listB_of h)
      have AP := hid (fun (s : S) (h : s.toNat < 2 ^ n.toNat) => antiP_all hz (sub_of_lt h))
      have A0 := hid (antiP_zero n fs)
      have AN := hid (antiP_next n fs)
      rw [KR.out, EE.out]
      rw [hz] at V
      have FU := hid (fun (W : World) => full_any n W)
      have SK := hid (fun (s : S) (W : World) (hb : Below w.heap.size w W) => refSuperkey_any n fs s v W (hv.below hb))
      have HX := hid (fun (y : S) (k : Nat) (hk : k < 32) (W : World) => has_any y k hk W)
      have O := hid (fun (xs : List S) (v : Value) (W : World) (hv : RdE enc W v xs) (h : xs.length < 17592186044416) => refOrder_any xs v W hv h)
      rw [show min n.toNat 32 = n.toNat by omega] at FU
      obtain ⟨m, rfl⟩ : ∃ m : Nat, n = m := ⟨n.toNat, by omega⟩
      rw [show (m : Int).toNat = m by omega] at FU KW AP
      have hG : (fullN m).toNat = 2 ^ m - 1 := fullN_nat (by omega)
      have hN2 : 2 ^ m ≤ 2 ^ 16 := Nat.pow_le_pow_right (by omega) (by omega)
      have hp0 := Nat.two_pow_pos m
      have hd12 : decide ((m : Int) > 12) = false := by simp; omega
      have hd13 : ¬ 12 < m := by omega
      obtain ⟨ao, cap, rfl, -⟩ := hv.split
      clear hv hz KR EE h0 h12
      generalize fullN m = G at *
      generalize 2 ^ m = N at *
      generalize antiB (m : Int) fs = ab at *
      generalize antiS (m : Int) fs = ks at *
      generalize antiP (m : Int) fs = ap at *
      generalize supB (m : Int) fs = sp at *
      have HG := hid hG
      clear hG
      simp only [enc_eq] at SK FU HX
      go_enter Try.func31, Try.ntmps31
      go_wp2_with fail
      refine (V.out).mono ?_
      rintro e w' ⟨rfl, rfl⟩
      go_wp2_with fail
      go_loopw [7, 8] (fun u i wr => ∃ (x : S) (xs : List S), i = .int .u32 (iv x) ∧ wr.ownsRow w.heap.size 24 1 u xs.length (xs.map enc) ∧ x.toNat ≤ N ∧ xs.length ≤ x.toNat ∧ Hid (∀ y, y ∈ xs ↔ ab y = true ∧ y.toNat < x.toNat) ∧ Below w.heap.size w wr) (fun _ i _ => N - (intOf i).toNat)
      case atStart => exact ⟨0#32, [], rfl, World.ownsRow_nil _ _ _ _, by simp, by simp, hid (by simp), Below.refl _ _⟩
      case round =>
        obtain ⟨x, xs, rfl, hown, hxN, hlen, M, hnx⟩ := hrel
        obtain ⟨wo, rfl⟩ : ∃ wo : World, wo = wr := ⟨_, rfl⟩
        have hsz := hnx.size
        have hx1 : (x + 1#32).toNat = x.toNat + 1 := by rw [BitVec.toNat_add]; simp; omega
        by_cases hlt : x.toNat < N
        · have hle : iv x ≤ iv G := by have := HG.out; unfold iv; omega
          have S1 := hid (SK.out x wo hnx)
          have AX := hid (AP.out x hlt)
          have A1 := hid (A0.out x)
          have HO := hid hown
          have HN := hid hnx
          clear hown hnx
          go_wp2_with fail
          refine (FU.out _).mono ?_
          rintro e w' ⟨rfl, rfl⟩
          go_wp2_with fail
          refine S1.out.mono ?_
          rintro e w3 ⟨rfl, hb3⟩
          have O3 := hid (own_below HO.out hb3)
          have N3 := hid (HN.out.trans (hb3.mono HN.out.size))
          clear hb3 HO HN
          go_wp2_with fail
          go_loopw [9, 10] (fun o i wr => ∃ j : Nat, j ≤ m ∧ i = .int .i64 j ∧ o = .bool (ap x j) ∧ wr.ownsRow w.heap.size 24 1 u7 xs.length (xs.map enc) ∧ Below w.heap.size w wr) (fun _ i _ => m - (intOf i).toNat)
          case atStart => exact ⟨0, Nat.zero_le _, rfl, by rw [A1.out], O3.out, N3.out⟩
          case round =>
            obtain ⟨j, hj, rfl, rfl, hown, hnx⟩ := hrel
            by_cases hjm : j < m
            · have H1 := hid (HX.out x j (by omega) wr)
              have S2 := hid (SK.out (x ||| 1#32 <<< j) wr hnx)
              have AJ := hid (show ap x (j + 1) = (ap x j && (x.getLsbD j || sp (x ||| 1#32 <<< j))) from AN.out x j)
              have j0 : (0 : Int) ≤ (j : Int) := by omega
              have HO := hid hown
              have HN := hid hnx
              clear hown hnx
              cases hb : x.getLsbD j with
              | true =>
                rw [hb] at H1 AJ
                have A2 := hid (show ap x (j + 1) = ap x j by rw [AJ.out]; simp)
                clear hb AJ
                generalize ap x j = a0 at *
                go_wp2_with fail
                refine H1.out.mono ?_
                rintro e w4 ⟨rfl, rfl⟩
                go_wp2_with fail
                go_roundw
                case rel => exact ⟨j + 1, by omega, by go_num, by rw [A2.out], HO.out, HN.out⟩
                case measure => simp [intOf]; omega
              | false =>
                rw [hb] at H1 AJ
                clear hb
                cases hq : sp (x ||| 1#32 <<< j) with
                | true =>
                  rw [hq] at S2 AJ
                  have A2 := hid (show ap x (j + 1) = ap x j by rw [AJ.out]; simp)
                  clear hq AJ
                  generalize ap x j = a0 at *
                  go_wp2_with fail
                  refine H1.out.mono ?_
                  rintro e w4 ⟨rfl, rfl⟩
                  go_wp2_with fail
                  refine S2.out.mono ?_
                  rintro e w5 ⟨rfl, hb5⟩
                  have O5 := hid (own_below HO.out hb5)
                  have N5 := hid (HN.out.trans (hb5.mono HN.out.size))
                  clear hb5
                  go_wp2_with fail
                  go_roundw
                  case rel => exact ⟨j + 1, by omega, by go_num, by rw [A2.out], O5.out, N5.out⟩
                  case measure => simp [intOf]; omega
                | false =>
                  rw [hq] at S2 AJ
                  have A2 := hid (show ap x (j + 1) = false by rw [AJ.out]; simp)
                  clear hq AJ
                  generalize ap x j = a0 at *
                  go_wp2_with fail
                  refine H1.out.mono ?_
                  rintro e w4 ⟨rfl, rfl⟩
                  go_wp2_with fail
                  refine S2.out.mono ?_
                  rintro e w5 ⟨rfl, hb5⟩
                  have O5 := hid (own_below HO.out hb5)
                  have N5 := hid (HN.out.trans (hb5.mono HN.out.size))
                  clear hb5
                  go_wp2_with fail
                  go_roundw
                  case rel => exact ⟨j + 1, by omega, by go_num, by rw [A2.out], O5.out, N5.out⟩
                  case measure => simp [intOf]; omega
            · obtain rfl : j = m := by omega
              rw [AX.out]
              have hs3 := hnx.size
              cases hq : ab x with
              | true =>
                have M2 := hid (more_set hx1 M.out hq)
                clear hq M
                go_wp2_with (at_builtin; refine wpList_push rfl _ _ 34 rfl w.heap.size 24 (.int .u32 0) 4 undSets infoSet rfl (by decide) enc (fun _ => rfl) _ xs rfl (hown.alloc _) ⟨wr.heap.size, 0, none⟩ x rfl cell_new (by omega) (by simp; omega) ?_)
                intro v' w4 hown' hgrow
                have hb4 := below_push hnx hs3 hown hgrow
                clear hgrow hown hnx
                go_wp2_with fail
                go_roundw
                case rel => exact ⟨x + 1#32, xs ++ [x], rfl, by simpa using hown', by omega, by rw [List.length_append, List.length_singleton]; omega, M2, hb4⟩
                case measure => simp [intOf, iv]; omega
              | false =>
                have M2 := hid (same_set hx1 M.out hq)
                clear hq M
                go_wp2_with fail
                go_roundw
                case rel => exact ⟨x + 1#32, xs, rfl, hown, by omega, by omega, M2, hnx⟩
                case measure => simp [intOf, iv]; omega
        · have hle : ¬ iv x ≤ iv G := by have := HG.out; unfold iv; omega
          have RD := hid (RdE.of_owns hown (by omega))
          have MM := hid (show ∀ s, s ∈ xs ↔ ab s = true by
            intro s
            rw [M.out s]
            exact ⟨fun h => h.1, fun h => ⟨h, by have := KW.out s h; omega⟩⟩)
          have HN := hid hnx
          have hxl : xs.length ≤ 65536 := by omega
          clear hown M hnx
          go_wp2_with fail
          refine (FU.out _).mono ?_
          rintro e w' ⟨rfl, rfl⟩
          go_wp2_with fail
          refine (O.out xs _ _ RD.out (by omega)).mono ?_
          rintro e w2 ⟨v2, ys, rfl, ho2, hord, hyl, hb2⟩
          obtain rfl : ys = ks := KO.out ys (hord.congr MM.out)
          have B2 := hid (HN.out.trans (hb2.mono HN.out.size))
          have R2 := hid (RdE.of_owns ho2 (by omega))
          have HL := hid (show ys.length ≤ 65536 by omega)
          clear hb2 ho2 hord hyl
          go_wp2_with fail
          go_ret2
          exact ⟨_, rfl, R2.out, HL.out, B2.out⟩
  · have EE := hid (show antiE n fs = validF n fs by unfold antiE; rw [if_pos hz])
    have KR := hid (show antiR n fs = [] by unfold antiR; rw [EE.out, if_neg hz])
    rw [KR.out, EE.out]
    obtain ⟨ao, cap, rfl, -⟩ := hv.split
    have hq : (validF n fs != 0) = true := by simpa using hz
    clear hv hz KR EE
    generalize validF n fs = r at *
    go_enter Try.func31, Try.ntmps31
    go_wp2_with fail
    refine (V.out).mono ?_
    rintro e w' ⟨rfl, rfl⟩
    go_wp2_with fail
    go_ret2
    exact ⟨_, rfl, RdE.nil _ _, by simp, Below.refl _ _⟩

set_option maxHeartbeats 800000 in
set_option maxRecDepth 100000 in
theorem complements_any (n : Int) (m : List S) (v : Value) (w : World) (hv : RdE enc w v m) (hl : m.length < 1099511627776) :
    Calls Try.prog 38 #[.int .i64 n, v] w fun e w' => ∃ v', e = .returned v' ∧ RdE enc w' v' (compl (fullN (min n.toNat 32)) m) ∧ Below w.heap.size w w' := by
  have FU := hid (fun (W : World) => full_any n W)
  have CN := hid (fun (k : Nat) (x : S) (h : m[k]? = some x) => compl_next (A := fullN (min n.toNat 32)) h)
  have CL := hid (fun k => compl_length (fullN (min n.toNat 32)) (m.take k))
  obtain ⟨ao, cap, rfl, -, hc⟩ := hv.split
  have MC := hid hc
  clear hv hc
  generalize fullN (min n.toNat 32) = A at *
  simp only [enc_eq] at FU
  go_enter Try.func38, Try.ntmps38
  go_wp2_with fail
  go_loopw [5, 6] (fun u i wr => ∃ k : Nat, k ≤ m.length ∧ i = .int .i64 k ∧ wr.ownsRow w.heap.size 24 1 u (compl A (m.take k)).length ((compl A (m.take k)).map enc) ∧ Below w.heap.size w wr) (fun _ i _ => m.length - (intOf i).toNat)
  case atStart => exact ⟨0, Nat.zero_le _, rfl, World.ownsRow_nil _ _ _ _, Below.refl _ _⟩
  case round =>
    obtain ⟨k, hk, rfl, hown, hnx⟩ := hrel
    have hsz := hnx.size
    have hcl : (compl A (m.take k)).length ≤ k := by rw [CL.out]; simp; omega
    by_cases hlt : k < m.length
    · obtain ⟨x, hx⟩ := get_some hlt
      obtain ⟨b, off, rfl, hd⟩ := MC.out k x hx
      have N1 := hid (CN.out k x hx)
      have HS := hid (fun (W : World) (h : Below w.heap.size w W) => show Below w.heap.size w W ∧ W.cell? ⟨b, off + k, none⟩ = some (.int .u32 (iv x)) from ⟨h, hd W h⟩)
      have e0 := (HS.out wr hnx).2
      have k0 : (0 : Int) ≤ (k : Int) := by omega
      have k1 : (k : Int) < (m.length : Int) := by omega
      clear hd hx
      generalize compl A (m.take k) = out at *
      go_wp2_with fail
      go_region_held3 (fun W => Below w.heap.size w W ∧ W.cell? ⟨b, off + k, none⟩ = some (.int .u32 (iv x)))
        (first | exact HS.out _ hnx.drew | exact HS.out _ (hnx.alloc hsz _).drew | exact HS.out _ (by assumption) | assumption)
        (first
          | (go_at_call 40; refine (FU.out _).mono ?_; rintro e w2 ⟨rfl, rfl⟩)
          | (refine step_push (by rfl) _ _ 34 (by rfl) w.heap.size 24 (.int .u32 0) 4 undSets infoSet rfl (by decide) enc (fun _ => rfl) _ out (by rfl) ((hown.alloc _).drew) ⟨wr.heap.size, 0, none⟩ (A &&& ~~~ x) (by rfl) (by simp [enc]) (by omega) (by simp; omega) ?_; intro v' w4 hown' hgrow; have hb4 : Below w.heap.size w w4 := below_push hnx.drew hsz hown.drew hgrow))
      clear hgrow hown hnx e0
      go_wp2_with fail
      go_roundw
      case rel => exact ⟨k + 1, by omega, by go_num, by rw [N1.out]; simpa using hown', hb4⟩
      case measure => simp [intOf]; omega
    · rw [take_all hlt] at hown hcl
      have R := hid (RdE.of_owns hown (by omega))
      go_wp2_with fail
      go_ret
      exact ⟨_, rfl, R.out, hnx⟩

theorem order_same {xs l ys : List S} (h : IsOrd ys (· ∈ l)) : decide (ys = allS xs) = decide (∀ s, s ∈ l ↔ minS xs s = true) := by
  rw [decide_eq_decide]
  constructor
  · intro e s
    exact (h.2 s).symm.trans (by rw [e]; exact (allS_ord xs).2 s)
  · intro k
    exact h.uniq (allS_ord xs) k

set_option maxHeartbeats 1600000 in
set_option maxRecDepth 100000 in
theorem refKCheck_any (n : Int) (fs : List F) (l m : List S) (v u1 u2 : Value) (w : World) (hv : RdF w v fs) (h1 : RdE enc w u1 l) (h2 : RdE enc w u2 m) (hl : l.length ≤ 20000) :
    Calls Try.prog 35 #[.int .i64 n, v, u1, u2] w fun e w' => e = .returned (.bool (certB n fs l m)) ∧ Below w.heap.size w w' := by
  have V := hid (refValidF_any n fs v w hv)
  have SK := hid (fun (s : S) (W : World) (h : Below w.heap.size w W) => refSuperkey_any n fs s v W (hv.below h))
  have R1 := hid h1
  have R2 := hid h2
  obtain ⟨ao, cap, rfl, -⟩ := hv.split
  obtain ⟨lo, lcap, rfl, hll, hlc⟩ := h1.split
  obtain ⟨mo, mcap, rfl, hml, hmc⟩ := h2.split
  have LC := hid hlc
  have MC := hid hmc
  clear hv h1 h2 hlc hmc
  by_cases hz : validF n fs = 0
  · by_cases hm : m.length ≤ 200
    · have hd : decide ((m.length : Int) > 200) = false := by simp; omega
      have CE := hid (cert_eq (l := l) hz hm)
      obtain ⟨h0, h16, -, -⟩ := validF_w2 hz
      have VC := hid (validS_compl (m := m) h0 h16 hm)
      have CO := hid (fun (W : World) (h : Below w.heap.size w W) => complements_any n m _ W (R2.out.below h) (by omega))
      rw [show min n.toNat 32 = n.toNat by omega] at CO
      have AL := hid (fun (x : Value) (W : World) (hx : RdE enc W x (compl (fullN n.toNat) m)) => refAllW n (compl (fullN n.toNat) m) x W hx)
      have RS := hid (show resS n (compl (fullN n.toNat) m) = allS (compl (fullN n.toNat) m) by unfold resS; rw [if_pos VC.out])
      rw [RS.out, VC.out] at AL
      have OR := hid (fun (W : World) (h : Below w.heap.size w W) => refOrder_any l _ W (R1.out.below h) (by omega))
      have OS := hid (fun (ys : List S) (h : IsOrd ys (· ∈ l)) => order_same (xs := compl (fullN n.toNat) m) h)
      have SM := hid (fun (xs ys : List S) (x y : Value) (W : World) (hx : RdE enc W x xs) (hy : RdE enc W y ys) => same_any xs ys x y W hx hy)
      have KB := hid (fun s => show badK n fs s = !supB n fs s from rfl)
      have AB := hid (fun s => show badA n fs s = (supB n fs s || (s &&& ~~~ fullN n.toNat != 0#32)) by rw [over_full]; rfl)
      have FU := hid (fun (W : World) => full_any n W)
      rw [show min n.toNat 32 = n.toNat by omega] at FU
      rw [hz] at V
      clear hz h0 h16 VC RS
      generalize allS (compl (fullN n.toNat) m) = al at *
      have go : ∀ r : Bool, certB n fs l m = r → Calls Try.prog 35 #[.int .i64 n, .slice ao fs.length cap, .slice lo l.length lcap, .slice mo m.length mcap] w fun e w' => e = .returned (.bool r) ∧ Below w.heap.size w w' := by
        intro r hr
        rw [hr] at CE
        clear hr
        generalize minS (compl (fullN n.toNat) m) = ms at *
        generalize compl (fullN n.toNat) m = cm at *
        generalize fullN n.toNat = A at *
        generalize badK n fs = bk at *
        generalize badA n fs = ba at *
        generalize supB n fs = sp at *
        simp only [enc_eq] at SK FU
        go_enter Try.func35, Try.ntmps35
        go_wp2_with fail
        refine (V.out).mono ?_
        rintro e w' ⟨rfl, rfl⟩
        go_wp2_with fail
        go_loopw [9] (fun i wr => ∃ k : Nat, k ≤ l.length ∧ i = .int .i64 k ∧ Hid ((l.take k).any bk = false) ∧ Below w.heap.size w wr) (fun i _ => l.length - (intOf i).toNat)
        case atStart => exact ⟨0, Nat.zero_le _, rfl, hid rfl, Below.refl _ _⟩
        case round =>
          obtain ⟨k, hk, rfl, H, hnx⟩ := hrel
          by_cases hlt : k < l.length
          · obtain ⟨x, hx⟩ := get_some hlt
            obtain ⟨b, off, rfl, hd1⟩ := LC.out k x hx
            have e0 : wr.cell? ⟨b, off + k, none⟩ = some (.int .u32 (iv x)) := hd1 wr hnx
            have S1 := hid (SK.out x wr hnx)
            have K1 := hid (KB.out x)
            have HX := hid hx
            have HN := hid hnx
            have k0 : (0 : Int) ≤ (k : Int) := by omega
            clear hd1 hx hnx
            cases hq : sp x with
            | false =>
              rw [hq] at S1 K1
              have RF := hid (show false = r by rw [CE.out, any_hit HX.out K1.out]; rfl)
              clear hq
              go_wp2_with fail
              refine S1.out.mono ?_
              rintro e w3 ⟨rfl, hb3⟩
              have B3 := hid (HN.out.trans (hb3.mono HN.out.size))
              clear hb3
              go_wp2_with fail
              go_ret
              exact ⟨ret_bool RF.out, B3.out⟩
            | true =>
              rw [hq] at S1 K1
              clear hq
              go_wp2_with fail
              refine S1.out.mono ?_
              rintro e w3 ⟨rfl, hb3⟩
              have B3 := hid (HN.out.trans (hb3.mono HN.out.size))
              clear hb3
              go_wp2_with fail
              go_roundw
              case rel => exact ⟨k + 1, by omega, by go_num, hid (none_next HX.out K1.out H.out), B3.out⟩
              case measure => simp [intOf]; omega
          · have HL := hid (any_end H.out hlt)
            have HN := hid hnx
            clear hnx
            go_wp2_with fail
            go_loopw [10] (fun i wr => ∃ k : Nat, k ≤ m.length ∧ i = .int .i64 k ∧ Hid ((m.take k).any ba = false) ∧ Below w.heap.size w wr) (fun i _ => m.length - (intOf i).toNat)
            case atStart => exact ⟨0, Nat.zero_le _, rfl, hid rfl, HN.out⟩
            case round =>
              obtain ⟨k, hk, rfl, H, hnx⟩ := hrel
              obtain ⟨wo, rfl⟩ : ∃ wo : World, wo = wr := ⟨_, rfl⟩
              by_cases hlt : k < m.length
              · obtain ⟨x, hx⟩ := get_some hlt
                obtain ⟨b, off, rfl, hd1⟩ := MC.out k x hx
                have e0 : ∀ i : After wo, i.world.cell? ⟨b, off + k, none⟩ = some (.int .u32 (iv x)) := fun i => hd1 _ (hnx.trans (i.below.mono hnx.size))
                have S1 := hid (fun i : After wo => Calls.after i (SK.out x i.world (hnx.trans (i.below.mono hnx.size))))
                have F1 := hid (fun i : After wo => Calls.after_same i (FU.out i.world))
                have A1 := hid (AB.out x)
                have HX := hid hx
                have HN := hid hnx
                have k0 : (0 : Int) ≤ (k : Int) := by omega
                have k1 : (k : Int) < (m.length : Int) := by omega
                clear hd1 hx hnx
                cases hq : sp x with
                | true =>
                  rw [hq] at S1 A1
                  have RF := hid (show false = r by rw [CE.out, any_hit HX.out (by rw [A1.out]; rfl)]; simp)
                  clear hq
                  go_wp2_with fail
                  refine wp_region_after (by kernel_rfl) (by kernel_rfl) ?_
                  repeat (any_goals (quiet_step (first | exact S1.out _ | exact F1.out _)))
                  refine wpQuiet_nil ?_
                  intro wq hb
                  have BQ := hid (HN.out.trans (hb.mono HN.out.size))
                  clear hb
                  go_wp2_with fail
                  go_ret
                  exact ⟨ret_bool RF.out, BQ.out⟩
                | false =>
                  rw [hq] at S1 A1
                  clear hq
                  cases hs : (x &&& ~~~ A != 0#32) with
                  | true =>
                    have RF := hid (show false = r by rw [CE.out, any_hit HX.out (by rw [A1.out, hs]; rfl)]; simp)
                    go_wp2_with fail
                    refine wp_region_after (by kernel_rfl) (by kernel_rfl) ?_
                    repeat (any_goals (quiet_step (first | exact S1.out _ | exact F1.out _)))
                    refine wpQuiet_nil ?_
                    intro wq hb
                    have BQ := hid (HN.out.trans (hb.mono HN.out.size))
                    clear hb
                    go_wp2_with fail
                    go_ret
                    exact ⟨ret_bool RF.out, BQ.out⟩
                  | false =>
                    have A2 := hid (show ba x = false by rw [A1.out, hs]; rfl)
                    go_wp2_with fail
                    refine wp_region_after (by kernel_rfl) (by kernel_rfl) ?_
                    repeat (any_goals (quiet_step (first | exact S1.out _ | exact F1.out _)))
                    refine wpQuiet_nil ?_
                    intro wq hb
                    have BQ := hid (HN.out.trans (hb.mono HN.out.size))
                    clear hb
                    go_wp2_with fail
                    go_roundw
                    case rel => exact ⟨k + 1, by omega, by go_num, hid (none_next HX.out A2.out H.out), BQ.out⟩
                    case measure => simp [intOf]; omega
              · have HM := hid (any_end H.out hlt)
                have RR := hid (show r = decide (∀ s, s ∈ l ↔ ms s = true) by rw [CE.out, HL.out, HM.out]; rfl)
                have B4 := hid hnx
                clear hnx
                go_wp2_with fail
                refine (CO.out _ B4.out).mono ?_
                rintro e w5 ⟨v5, rfl, hr5, hb5⟩
                have B5 := hid (B4.out.trans (hb5.mono B4.out.size))
                have R5 := hid hr5
                clear hr5 hb5
                go_wp2_with fail
                refine (AL.out _ _ R5.out).mono ?_
                rintro e w6 ⟨v6, rfl, ho6, hl6, hb6⟩
                have B6 := hid (B5.out.trans (hb6.mono B5.out.size))
                have R6 := hid (RdE.of_owns ho6 (by omega))
                clear ho6 hb6
                go_wp2_with fail
                refine (OR.out _ B6.out).mono ?_
                rintro e w7 ⟨v7, ys, rfl, ho7, hord, hyl, hb7⟩
                have B7 := hid (B6.out.trans (hb7.mono B6.out.size))
                have R7 := hid (RdE.of_owns ho7 (by omega))
                have R6' := hid (R6.out.below hb7)
                have OS1 := hid (OS.out ys hord)
                clear ho7 hord hb7
                go_wp2_with fail
                refine (SM.out _ _ _ _ _ R7.out R6'.out).mono ?_
                rintro e w8 ⟨rfl, q, rfl⟩
                have B8 := hid (below_drewN' B7.out q)
                go_wp2_with fail
                go_ret
                exact ⟨ret_bool (OS1.out.trans RR.out.symm), B8.out⟩
      exact go _ rfl
    · have E := hid (cert_bad (n := n) (fs := fs) (l := l) (.inr (show 200 < m.length by omega)))
      rw [E.out]
      have hd : decide ((m.length : Int) > 200) = true := by simp; omega
      rw [hz] at V
      clear hz E
      go_enter Try.func35, Try.ntmps35
      go_wp2_with fail
      refine (V.out).mono ?_
      rintro e w' ⟨rfl, rfl⟩
      go_wp2_with fail
      go_ret
      exact ⟨rfl, Below.refl _ _⟩
  · have E := hid (cert_bad (n := n) (fs := fs) (l := l) (m := m) (.inl hz))
    rw [E.out]
    have hq : (validF n fs != 0) = true := by simpa using hz
    clear hz E
    generalize validF n fs = r at *
    go_enter Try.func35, Try.ntmps35
    go_wp2_with fail
    refine (V.out).mono ?_
    rintro e w' ⟨rfl, rfl⟩
    go_wp2_with fail
    go_ret
    exact ⟨rfl, Below.refl _ _⟩

end Go.Proofs.Ytciamnkalmihcaa
