/- The walk of awake of chapter 29: the chapter's example holds. -/
import Derived.Test.YtkbegpnchamgkaaDoorKmE
import Derived.Test.YtkbegpnchamgkaaDoorGKm3
import Derived.Test.YtkbegpnchamgkaaDoorGSmall
import Derived.Test.YtkbegpnchamgkaaDoorGTab20
namespace Go.Proofs.YtkbegpnchamgkaaDoor
open Go.RowKit
set_option linter.unusedVariables false

/-! The example's values. -/
def ex9A : List V3 := [exV 1, exV 1, exV 1]
def ex9B : List V3 := [exV 1, exV 2, exV 2]
def ex9C : List V3 := [exV 2, exV 2, exV 1]
def ex9S (s1 s2 s3 : Value) : List Row3 := [(1, s1, ex9A), (2, s2, ex9B), (3, s3, ex9C)]
theorem vC_one : vC 1#8 = exV 1 := by first | rfl | decide
theorem vC_two : vC 2#8 = exV 2 := by first | rfl | decide
theorem ex9_shape {rs : List Row3} (h : rs.map (fun r => (r.1, r.2.2)) = ex9R) : ∃ s1 s2 s3, rs = ex9S s1 s2 s3 := by
  have e : ex9R = [(1, ex9A), (2, ex9B), (3, ex9C)] := by
    unfold ex9R exC ex9A ex9B ex9C
    simp only [List.map_cons, List.map_nil, vC_one, vC_two]
  rw [e] at h
  match rs, h with
  | [(a, s1, x), (b, s2, y), (c, s3, z)], h =>
    simp only [List.map_cons, List.map_nil, List.cons.injEq, Prod.mk.injEq, and_true] at h
    obtain ⟨⟨rfl, rfl⟩, ⟨rfl, rfl⟩, rfl, rfl⟩ := h
    exact ⟨s1, s2, s3, rfl⟩
theorem ex9_name : nameB (ByteArray.mk #[116]) = true := by
  unfold nameB
  simp only [ByteArray.toList_eq]
  decide +kernel
variable (s1 s2 s3 : Value)
theorem ex9_tab : tabE2 (ex9 (ex9S s1 s2 s3)) = 0 := by
  have h2 : attrsBad (ex9 (ex9S s1 s2 s3)).2.1 = false := ex_attrs s1 s2 s3
  have h3 : rowsE 0 (ex9 (ex9S s1 s2 s3)).2.1.length (ex9 (ex9S s1 s2 s3)).2.2 = 0 := by
    show rowsE 0 3 [(1, s1, [exV 1, exV 1, exV 1]), (2, s2, [exV 1, exV 2, exV 2]), (3, s3, [exV 2, exV 2, exV 1])] = 0
    simp [rowsE, exV_ok]
  have h4 : tabE (ex9 (ex9S s1 s2 s3)) = 0 := by
    unfold tabE
    rw [show nameB (ex9 (ex9S s1 s2 s3)).1 = true from ex9_name, h2, h3]
    rfl
  unfold tabE2
  rw [h4]
  rfl
theorem ex9_kE : kE (ex9 (ex9S s1 s2 s3)) 0#32 true = 0 := by
  unfold kE
  rw [tabE2_tab (ex9_tab s1 s2 s3)]
  rfl
theorem ex9_kE1 : kE (ex9 (ex9S s1 s2 s3)) 1#32 false = 0 := by
  unfold kE
  rw [tabE2_tab (ex9_tab s1 s2 s3)]
  first | rfl | decide
theorem ex9_pairs : pairsS (ex9S s1 s2 s3) = [1#32, 4#32, 2#32] := by
  show [rowsS ex9A ex9B 3, rowsS ex9A ex9C 3, rowsS ex9B ex9C 3] = _
  simp [rowsS, ex_eqV, ex9A, ex9B, ex9C]
theorem ex9_keyN : keyN 3 [1#32, 4#32, 2#32] = [3#32, 5#32, 6#32] := by
  have e : edgN 3 [1#32, 4#32, 2#32] = [6#32, 3#32, 5#32] := by first | rfl | decide +kernel
  unfold keyN
  rw [e]
  have h : ∀ k, k < 8 → (minS [6#32, 3#32, 5#32] (BitVec.ofNat 32 k) = true ↔ BitVec.ofNat 32 k ∈ [3#32, 5#32, 6#32]) := by decide +kernel
  have hv : ∀ x ∈ [6#32, 3#32, 5#32], ∀ i, i < 32 → 3 ≤ i → x.getLsbD i = false := by
    have hv0 : validS 3 [6#32, 3#32, 5#32] = 0 := by decide +kernel
    exact fun x hx i hi h4 => (valid_bits hv0).2.2.2 x hx i hi h4
  have hp : [3#32, 5#32, 6#32].Pairwise bef := by decide +kernel
  have hb : ∀ y ∈ [3#32, 5#32, 6#32], y.toNat < 8 := by
    intro y hy
    simp only [List.mem_cons, List.not_mem_nil, or_false] at hy
    rcases hy with rfl | rfl | rfl <;> decide
  exact allS_check [6#32, 3#32, 5#32] [3#32, 5#32, 6#32] 3 8 (by decide) hv hp h hb
def ex9W : List W3 := [(1#32, 1, 2), (2#32, 2, 3), (4#32, 1, 3)]
theorem ex9_wits : witsL (ex9S s1 s2 s3) = ex9W := by
  have hs : seqW (ex9S s1 s2 s3) = [(1#32, 1, 2), (4#32, 1, 3), (2#32, 2, 3)] := by
    have h1 : rowsS ex9A ex9B 3 = 1#32 := by simp [rowsS, ex_eqV, ex9A, ex9B]
    have h2 : rowsS ex9A ex9C 3 = 4#32 := by simp [rowsS, ex_eqV, ex9A, ex9C]
    have h3 : rowsS ex9B ex9C 3 = 2#32 := by simp [rowsS, ex_eqV, ex9B, ex9C]
    show [(rowsS ex9A ex9B 3, (1 : Int), (2 : Int)), (rowsS ex9A ex9C 3, 1, 3), (rowsS ex9B ex9C 3, 2, 3)] = _
    rw [h1, h2, h3]
  have hk : keepS upR [1#32, 4#32, 2#32] = [1#32, 2#32, 4#32] := by
    unfold keepS
    rw [ord_lit (b := [1#32, 2#32, 4#32]) (by decide +kernel) (by decide)]
    decide +kernel
  unfold witsL
  rw [ex9_pairs, hs, hk]
  rfl
theorem ex9_okT : okT (ex9 (ex9S s1 s2 s3)) := by
  have h1 : okV (exV 1) := ⟨by have := exV_ok 1; unfold badV at this; simpa using this, by decide, by decide⟩
  have h2 : okV (exV 2) := ⟨by have := exV_ok 2; unfold badV at this; simpa using this, by decide, by decide⟩
  intro r hr x hx
  replace hr : r ∈ ex9S s1 s2 s3 := hr
  unfold ex9S at hr
  simp only [List.mem_cons, List.not_mem_nil, or_false] at hr
  rcases hr with rfl | rfl | rfl <;> (simp only [ex9A, ex9B, ex9C, List.mem_cons, List.not_mem_nil, or_false] at hx; rcases hx with rfl | rfl | rfl <;> assumption)
theorem ex9_dup : dupL (ex9 (ex9S s1 s2 s3)) 1#32 = [[1, 2]] := by
  unfold dupL
  rw [if_pos (ex9_kE1 s1 s2 s3)]
  have e : lK (ex9 (ex9S s1 s2 s3)).2.2 1#32 = [([exV 1], 1), ([exV 1], 2), ([exV 2], 3)] := by
    show [(valTo ex9A 1#32 3, (1 : Int)), (valTo ex9B 1#32 3, 2), (valTo ex9C 1#32 3, 3)] = _
    rfl
  rw [e]
  decide +kernel

set_option maxHeartbeats 1600000 in
theorem equalW_same (xs : List W3) (v u : Value) (w : World) (hv : RdW w v xs) (hu : RdW w u xs) :
    Calls Tryd.prog 26 #[v, u] w fun e w' => e = .returned (.bool true) ∧ Below w.heap.size w w' := by
  obtain ⟨ao, cap, rfl, hl, hc⟩ := RdW.split hv
  obtain ⟨bo, cbp, rfl, -, hd⟩ := RdW.split hu
  have HC := hid hc
  have HD := hid hd
  have hne : ((xs.length : Int) != (xs.length : Int)) = false := by simp
  clear hc hd hv hu
  go_enter Tryd.func26, Tryd.ntmps26
  go_wp2_with fail
  go_loopw [13] (fun i wr => ∃ k : Nat, k ≤ xs.length ∧ i = .int .i64 k ∧ Below w.heap.size w wr) (fun i _ => xs.length - (intOf i).toNat)
  case atStart => exact ⟨0, Nat.zero_le _, rfl, Below.refl _ _⟩
  case round =>
    obtain ⟨k, hk, rfl, hnx⟩ := hrel
    have NX := hid hnx
    by_cases hlt : k < xs.length
    · obtain ⟨x, hx⟩ := get_some hlt
      obtain ⟨b, off, rfl, h1⟩ := HC.out k x hx
      obtain ⟨b', off', rfl, h2⟩ := HD.out k x hx
      obtain ⟨e0, e1, e2⟩ := h1 wr hnx
      obtain ⟨f0, f1, f2⟩ := h2 wr hnx
      have hq := fun w => run_neqW x w
      have k0 : (0 : Int) ≤ (k : Int) := by omega
      clear h1 h2 hx hnx
      go_wp2_with fail
      go_quiet (fail)
      go_wp2_with fail
      go_roundw
      case rel => exact ⟨k + 1, by omega, by go_num, below_drewN' NX.out _⟩
      case measure => simp [intOf]; omega
    · clear hnx
      go_wp2_with fail
      go_ret
      exact ⟨rfl, NX.out⟩
theorem equalJ_same (xs : List Int) (v u : Value) (w : World) (hv : RdE encJ w v xs) (hu : RdE encJ w u xs) :
    Calls Tryd.prog 27 #[v, u] w fun e w' => e = .returned (.bool true) ∧ Below w.heap.size w w' := by
  obtain ⟨ao, cap, rfl, hl, hc⟩ := hv.split
  obtain ⟨bo, cbp, rfl, -, hd⟩ := hu.split
  have HC := hid hc
  have HD := hid hd
  have hne : ((xs.length : Int) != (xs.length : Int)) = false := by simp
  unfold encJ at HC HD
  clear hc hd hv hu
  go_enter Tryd.func27, Tryd.ntmps27
  go_wp2_with fail
  go_loopw [13] (fun i wr => ∃ k : Nat, k ≤ xs.length ∧ i = .int .i64 k ∧ Below w.heap.size w wr) (fun i _ => xs.length - (intOf i).toNat)
  case atStart => exact ⟨0, Nat.zero_le _, rfl, Below.refl _ _⟩
  case round =>
    obtain ⟨k, hk, rfl, hnx⟩ := hrel
    have NX := hid hnx
    by_cases hlt : k < xs.length
    · obtain ⟨x, hx⟩ := get_some hlt
      obtain ⟨b, off, rfl, h1⟩ := HC.out k x hx
      obtain ⟨b', off', rfl, h2⟩ := HD.out k x hx
      have e0 := h1 wr hnx
      have f0 := h2 wr hnx
      have hq : ((x : Int) != x) = false := by simp
      have k0 : (0 : Int) ≤ (k : Int) := by omega
      clear h1 h2 hx hnx
      go_wp2_with fail
      go_quiet (fail)
      go_wp2_with fail
      go_roundw
      case rel => exact ⟨k + 1, by omega, by go_num, below_drewN' NX.out _⟩
      case measure => simp [intOf]; omega
    · clear hnx
      go_wp2_with fail
      go_ret
      exact ⟨rfl, NX.out⟩

theorem RdG.one {w : World} {v : Value} {gs : List Gp} (h : RdG w v gs) {xs : List Int} (he : gs.map (·.2) = [xs]) : ∃ ao cap gv, v = .slice ao 1 cap ∧ (∃ b off, ao = some ⟨b, off, none⟩ ∧ ∀ wr, Below w.heap.size w wr → wr.cell? ⟨b, off, none⟩ = some gv) ∧ RdE encJ w gv xs := by
  match gs, he with
  | [(gv, gl)], he =>
    simp only [List.map_cons, List.map_nil, List.cons.injEq, and_true] at he
    subst he
    obtain ⟨ao, cap, rfl, -, hc⟩ := h.1.split
    obtain ⟨b, off, rfl, hd⟩ := hc 0 (gv, gl) rfl
    exact ⟨_, cap, gv, rfl, ⟨b, off, rfl, fun wr hn => by have := hd wr hn; simpa using this⟩, h.2 (gv, gl) (by simp)⟩

set_option maxHeartbeats 3200000 in
set_option maxRecDepth 100000 in
theorem awake29_any (w : World) (hT : Tab w) : Calls Tryd.prog 7 #[] w fun e w' => e = .returned (.bool true) ∧ Below w.heap.size w w' := by
  have EX := hid (ex9_any w)
  have HT := hid hT
  go_enter Tryd.func7, Tryd.ntmps7
  go_wp2_with fail
  refine EX.out.mono ?_
  rintro e w1 ⟨av, rv, rs, rfl, hrd, hsh, hb1⟩
  obtain ⟨s1, s2, s3, rfl⟩ := ex9_shape hsh
  obtain ⟨ao, acap, hav, -⟩ := hrd.1.split
  replace hav : av = .slice ao 3 acap := hav
  subst hav
  obtain ⟨ro, rcap, hrv, -⟩ := RdR.split hrd.2
  replace hrv : rv = .slice ro 3 rcap := hrv
  subst hrv
  have B1 := hid hb1
  have hba := below_alloc w1 (.cells #[.string (ByteArray.mk #[116]), .slice ao 3 acap, .slice ro 3 rcap] 28)
  have C3 := hid (fun W h => cells3 (w := w1) (a := .string (ByteArray.mk #[116])) (b := .slice ao 3 acap) (c := .slice ro 3 rcap) (t := 28) W h)
  have T0 := hid (hrd.below hba)
  have HT0 := hid ((HT.out.below hb1).below hba)
  obtain ⟨w2, hw2⟩ : ∃ w2 : World, w1.alloc (.cells #[.string (ByteArray.mk #[116]), .slice ao 3 acap, .slice ro 3 rcap] 28) = w2 := ⟨_, rfl⟩
  rw [hw2] at hba C3 T0 HT0
  have B2 := hid (hb1.trans (hba.mono hb1.size))
  have W2 := hid hw2
  have K1 := hid (kall_any (ex9 (ex9S s1 s2 s3)) (.slice ao 3 acap) (.slice ro 3 rcap) w2 T0.out)
  rw [show kallL (ex9 (ex9S s1 s2 s3)) = [3#32, 5#32, 6#32] by unfold kallL; rw [if_pos (ex9_kE s1 s2 s3)]; show keyN 3 (pairsS (ex9S s1 s2 s3)) = _; rw [ex9_pairs, ex9_keyN], ex9_kE] at K1
  have K2 := hid (fun (W : World) (h : Below w2.heap.size w2 W) => kmaximal_any (ex9 (ex9S s1 s2 s3)) (.slice ao 3 acap) (.slice ro 3 rcap) W (T0.out.below h))
  rw [show kmaxL (ex9 (ex9S s1 s2 s3)) = ex9W by unfold kmaxL; rw [if_pos (ex9_kE s1 s2 s3)]; exact ex9_wits s1 s2 s3, ex9_kE] at K2
  have K3 := hid (fun (W : World) (h : Below w2.heap.size w2 W) => show Calls Tryd.prog 21 #[.agg #[.string (ByteArray.mk #[116]), .slice ao 3 acap, .slice ro 3 rcap], .int .u32 1] W _ from kdup_any (ex9 (ex9S s1 s2 s3)) (.slice ao 3 acap) (.slice ro 3 rcap) 1#32 W (T0.out.below h) (HT0.out.below h) (fun _ => ex9_okT s1 s2 s3))
  rw [ex9_dup, ex9_kE1] at K3
  have K4 := hid (fun (kv wv : Value) (W : World) (h : Below w2.heap.size w2 W) (hk : RdE enc W kv [3#32, 5#32, 6#32]) (hw : RdW W wv ex9W) => kcheckC_any (ex9 (ex9S s1 s2 s3)) (.slice ao 3 acap) (.slice ro 3 rcap) [3#32, 5#32, 6#32] kv ex9W wv W (T0.out.below h) hk hw (by decide) (HT0.out.below h) (fun _ => ex9_okT s1 s2 s3))
  have CK : kchkB (ex9 (ex9S s1 s2 s3)) [3#32, 5#32, 6#32] ex9W = true := by
    have h := kchk_all (ex9_kE s1 s2 s3) (by show (witsL (ex9S s1 s2 s3)).length ≤ 200; rw [ex9_wits]; decide)
    have h2 : keyN (ex9 (ex9S s1 s2 s3)).2.1.length (pairsS (ex9 (ex9S s1 s2 s3)).2.2) = [3#32, 5#32, 6#32] := by
      show keyN 3 (pairsS (ex9S s1 s2 s3)) = _
      rw [ex9_pairs, ex9_keyN]
    have h3 : witsL (ex9 (ex9S s1 s2 s3)).2.2 = ex9W := ex9_wits s1 s2 s3
    rw [h2, h3] at h
    exact h
  rw [CK] at K4
  have HE := hid (fun (v : Value) (W : World) (hv : RdE enc W v [3#32, 5#32, 6#32]) => show Calls Tryd.prog 25 #[v, .slice (some ⟨W.heap.size, 0, none⟩) 3 3] (W.alloc (.cells #[.int .u32 3, .int .u32 5, .int .u32 6] 33)) fun e w' => e = .returned (.bool true) ∧ Below W.heap.size W w' from
    (equalS_any [3#32, 5#32, 6#32] [3#32, 5#32, 6#32] v _ _ (hv.below (below_alloc _ _)) (RdE.lit (f := enc) W [3#32, 5#32, 6#32] 33 (by decide))).mono fun e w' ⟨he, q, hq⟩ => ⟨by rw [he, decide_eq_true rfl], by rw [hq]; exact below_drewN' (below_alloc _ _) q⟩)
  have HW := hid (fun (v : Value) (W : World) (hv : RdW W v ex9W) => show Calls Tryd.prog 26 #[v, .slice (some ⟨W.heap.size, 0, none⟩) 3 3] (W.alloc (.cells #[.int .u32 1, .int .i64 1, .int .i64 2, .int .u32 2, .int .i64 2, .int .i64 3, .int .u32 4, .int .i64 1, .int .i64 3] 49)) fun e w' => e = .returned (.bool true) ∧ Below W.heap.size W w' from
    (equalW_same ex9W v _ _ (RdC.below hv (below_alloc _ _)) (RdC.lit cW_length W ex9W 49 (by decide) (by decide))).mono fun e w' ⟨he, hb⟩ => ⟨he, (below_alloc _ _).trans (hb.mono (by simp))⟩)
  have HJ := hid (fun (v : Value) (W : World) (hv : RdE encJ W v [1, 2]) => show Calls Tryd.prog 27 #[v, .slice (some ⟨W.heap.size, 0, none⟩) 2 2] (W.alloc (.cells #[.int .i64 1, .int .i64 2] 2)) fun e w' => e = .returned (.bool true) ∧ Below W.heap.size W w' from
    (equalJ_same [1, 2] v _ _ (hv.below (below_alloc _ _)) (RdE.lit (f := encJ) W [1, 2] 2 (by decide))).mono fun e w' ⟨he, hb⟩ => ⟨he, (below_alloc _ _).trans (hb.mono (by simp))⟩)
  obtain ⟨t00, t01, t02⟩ := C3.out _ (Below.refl _ _)
  clear hrd hsh hb1 hba hw2 CK hT
  unfold ex9 at K1
  go_wp2_with fail
  rw [W2.out]
  go_wp2_with fail
  refine K1.out.mono ?_
  rintro e w3 ⟨v3, rfl, ho3, -, hb3⟩
  have D3 := hid hb3
  have R3 := hid (RdE.of_owns ho3 (by decide))
  obtain ⟨t10, t11, t12⟩ := C3.out _ D3.out
  clear ho3 hb3 t00 t01 t02 K1
  go_wp2_with fail
  refine (K2.out _ D3.out).mono ?_
  rintro e w4 ⟨v4, rfl, ho4, -, hb4⟩
  have D4 := hid (D3.out.trans (hb4.mono D3.out.size))
  have R4 := hid (RdC.of_owns cW_length ho4 (by decide))
  replace R3 := hid (R3.out.below hb4)
  obtain ⟨t20, t21, t22⟩ := C3.out _ D4.out
  clear ho4 hb4 t10 t11 t12 K2
  go_wp2_with fail
  refine (K3.out _ D4.out).mono ?_
  rintro e w5 ⟨v5, gs, rfl, hrg, hge, -, hb5⟩
  have D5 := hid (D4.out.trans (hb5.mono D4.out.size))
  replace R3 := hid (R3.out.below hb5)
  replace R4 := hid (RdC.below R4.out hb5)
  obtain ⟨go, gcap, gv, rfl, ⟨gb, goff, rfl, hgc⟩, hgr⟩ := RdG.one hrg hge
  have GC := hid hgc
  have GR := hid hgr
  have D55 := hid (Below.refl w5.heap.size w5)
  obtain ⟨t30, t31, t32⟩ := C3.out _ D5.out
  clear hrg hge hb5 hgc hgr t20 t21 t22 K3
  go_wp2_with fail
  refine (HE.out _ _ R3.out).mono ?_
  rintro e w6 ⟨rfl, hb6⟩
  have D6 := hid (D5.out.trans (hb6.mono D5.out.size))
  have E6 := hid hb6
  replace R3 := hid (R3.out.below hb6)
  replace R4 := hid (RdC.below R4.out hb6)
  obtain ⟨t40, t41, t42⟩ := C3.out _ D6.out
  clear hb6 t30 t31 t32 HE
  go_wp2_with fail
  refine (HW.out _ _ R4.out).mono ?_
  rintro e w7 ⟨rfl, hb7⟩
  have D7 := hid (D6.out.trans (hb7.mono D6.out.size))
  have E7 := hid (E6.out.trans (hb7.mono E6.out.size))
  replace R3 := hid (R3.out.below hb7)
  replace R4 := hid (RdC.below R4.out hb7)
  obtain ⟨t50, t51, t52⟩ := C3.out _ D7.out
  clear hb7 t40 t41 t42 HW
  go_wp2_with fail
  refine (K4.out _ _ _ D7.out R3.out R4.out).mono ?_
  rintro e w8 ⟨rfl, hb8⟩
  have D8 := hid (D7.out.trans (hb8.mono D7.out.size))
  have E8 := hid (E7.out.trans (hb8.mono E7.out.size))
  have g0 := GC.out _ E8.out
  clear hb8 t50 t51 t52 K4
  go_wp2_with fail
  refine (HJ.out _ _ (GR.out.below E8.out)).mono ?_
  rintro e w9 ⟨rfl, hb9⟩
  have BF := hid (B2.out.trans ((D8.out.trans (hb9.mono D8.out.size)).mono B2.out.size))
  clear hb9
  go_wp2_with fail
  go_ret
  exact ⟨rfl, BF.out⟩

end Go.Proofs.YtkbegpnchamgkaaDoor
