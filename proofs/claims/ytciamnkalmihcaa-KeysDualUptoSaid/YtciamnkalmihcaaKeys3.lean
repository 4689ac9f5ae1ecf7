/- The walks of keys: All, Prime, Anti, Check. -/
import Derived.Test.YtciamnkalmihcaaKeys2
namespace Go.Proofs.Ytciamnkalmihcaa
open Go.RowKit

theorem bit_toNat {a : Nat} (ha : a < 32) : (bit a).toNat = 2 ^ a := by
  unfold bit
  rw [BitVec.toNat_shiftLeft, Nat.shiftLeft_eq]
  have : 2 ^ a < 2 ^ 32 := Nat.pow_lt_pow_right (by omega) ha
  simp only [BitVec.toNat_ofNat]
  omega
theorem xor_has {s : S} {a : Nat} (h : s.getLsbD a = true) : s ^^^ bit a = s &&& ~~~ bit a := bv_ext fun i hi => by
  rw [BitVec.getLsbD_xor, andNot_bit s a i hi, bit_get a i hi]
  by_cases e : i = a
  · subst e; rw [h]; simp
  · simp [e]
theorem xor_lacks {s : S} {a : Nat} (h : s.getLsbD a = false) : s ^^^ bit a = s ||| bit a := bv_ext fun i hi => by
  rw [BitVec.getLsbD_xor, or_bit_get s a i hi, bit_get a i hi]
  by_cases e : i = a
  · subst e; rw [h]; simp
  · simp [e]
theorem xor_nat (s : S) {a : Nat} (ha : a < 32) : s.toNat ^^^ 2 ^ a = (s ^^^ bit a).toNat := by rw [BitVec.toNat_xor, bit_toNat ha]
theorem xor_less (s : S) {a : Nat} (ha : a < 32) : decide (s.toNat ^^^ 2 ^ a < s.toNat) = s.getLsbD a := by
  rw [xor_nat s ha]
  cases h : s.getLsbD a with
  | true => rw [xor_has h, decide_eq_true_iff]; exact sub_toNat_lt (less_subK s a) (less_ne ha h)
  | false =>
    rw [xor_lacks h, decide_eq_false_iff_not]
    have := sub_toNat (sub_or_left s (bit a)); omega
theorem sub_of_lt {m : Nat} {s : S} (h : s.toNat < 2 ^ m) : sub s (fullN m) := fun i hi hb => by
  rw [fullN_get m i hi, decide_eq_true_iff]
  apply Classical.byContradiction
  intro k
  have : s.toNat < 2 ^ i := Nat.lt_of_lt_of_le h (Nat.pow_le_pow_right (by omega) (by omega))
  have h2 := Nat.testBit_lt_two_pow this
  unfold BitVec.getLsbD at hb
  rw [h2] at hb; cases hb
theorem fullB_sup {n : Int} {fs : List F} (hv : validF n fs = 0) {s : S} (h : sub s (fullN n.toNat)) : fullB fs n.toNat s = supB n fs s := by
  unfold fullB supB
  rw [decide_eq_true hv, sub_full.1 h]; rfl
noncomputable def qK (fs : List F) (m : Nat) (k : Nat) : Bool := fullB fs m (BitVec.ofNat 32 k)
theorem qK_at (fs : List F) (m : Nat) (s : S) : qK fs m s.toNat = fullB fs m s := by unfold qK; simp
theorem worse_key {n : Int} {fs : List F} (hv : validF n fs = 0) {s : S} (hs : sub s (fullN n.toNat)) {a : Nat} (ha : a < n.toNat) (want : Bool) :
    worseB (qK fs n.toNat) want s.toNat a = ((s.getLsbD a == want) && (supB n fs (s ^^^ bit a) == want)) := by
  have h16 := (validF_w2 hv).2.1
  have ha32 : a < 32 := by omega
  unfold worseB
  rw [xor_less s ha32, xor_nat s ha32, qK_at, fullB_sup hv]
  cases h : s.getLsbD a with
  | true => rw [xor_has h]; exact sub_trans (less_subK s a) hs
  | false =>
    rw [xor_lacks h]
    refine or_sub hs fun j hj hb => ?_
    rw [bit_get a j hj, decide_eq_true_iff] at hb
    rw [hb, fullN_get _ a ha32, decide_eq_true_iff]
    exact ha
theorem ext_key {n : Int} {fs : List F} (hv : validF n fs = 0) (s : S) : (s.toNat < 2 ^ n.toNat ∧ extP (qK fs n.toNat) true s.toNat n.toNat = true) ↔ keyB n fs s = true := by
  have h16 := (validF_w2 hv).2.1
  have hx : sub s (fullN n.toNat) → (extP (qK fs n.toNat) true s.toNat n.toNat = true ↔ keyB n fs s = true) := fun hs => by
    unfold extP keyB
    rw [qK_at, fullB_sup hv hs, Bool.and_eq_true, Bool.and_eq_true, Bool.not_eq_true', Bool.not_eq_true', leavesB_iff, List.any_eq_false]
    simp only [beq_true]
    refine and_congr_right fun _ => ⟨fun h i hi hb => ?_, fun h a ha => ?_⟩
    · have hin : i < n.toNat := by have := hs i hi hb; rw [fullN_get _ i hi, decide_eq_true_iff] at this; exact this
      have := h i (List.mem_range.2 hin)
      rw [worse_key hv hs hin, hb, xor_has hb] at this
      simpa using this
    · have ha := List.mem_range.1 ha
      rw [worse_key hv hs ha]
      cases hb : s.getLsbD a with
      | false => simp
      | true => rw [xor_has hb, h a (by omega) hb]; simp
  constructor
  · rintro ⟨h1, h2⟩; exact (hx (sub_of_lt h1)).1 h2
  · intro h
    have hs := supB_sub (keyB_sup h)
    exact ⟨full_pow (by omega) hs, (hx hs).2 h⟩
theorem ext_anti {n : Int} {fs : List F} (hv : validF n fs = 0) (s : S) : (s.toNat < 2 ^ n.toNat ∧ extP (qK fs n.toNat) false s.toNat n.toNat = true) ↔ antiB n fs s = true := by
  have h16 := (validF_w2 hv).2.1
  have hx : sub s (fullN n.toNat) → (extP (qK fs n.toNat) false s.toNat n.toNat = true ↔ antiB n fs s = true) := fun hs => by
    unfold extP antiB
    rw [qK_at, fullB_sup hv hs, decide_eq_true hv, decide_eq_true hs, Bool.and_eq_true, Bool.and_eq_true, Bool.not_eq_true', Bool.true_and, Bool.true_and, Bool.not_eq_true', List.any_eq_false, List.all_eq_true]
    simp only [beq_false, Bool.not_eq_true']
    refine and_congr_right fun _ => ⟨fun h a ha => ?_, fun h a ha => ?_⟩
    · have ha' := List.mem_range.1 ha
      have := h a ha
      rw [worse_key hv hs ha'] at this
      cases hb : s.getLsbD a with
      | true => rfl
      | false => rw [hb, xor_lacks hb] at this; simpa using this
    · have ha' := List.mem_range.1 ha
      rw [worse_key hv hs ha']
      have := h a ha
      cases hb : s.getLsbD a with
      | true => simp
      | false => rw [hb] at this; rw [xor_lacks hb]; simpa using this
  constructor
  · rintro ⟨h1, h2⟩; exact (hx (sub_of_lt h1)).1 h2
  · intro h
    have hs := (antiB_iff.1 h).2.1
    exact ⟨full_pow (by omega) hs, (hx hs).2 h⟩

/-- supers and extreme, one behind the other. -/
theorem extremeR (m : Nat) (hm : m ≤ 16) (fs : List F) (want : Bool) (v : Value) (w : World) (hv : RdE encB w v ((List.range (2 ^ m)).map fun k => fullB fs m (BitVec.ofNat 32 k))) :
    Calls Try.prog 72 #[.int .i64 (m : Int), v, .bool want] w fun e w' => ∃ v' ys, e = .returned v' ∧ w'.ownsRow w.heap.size 24 1 v' ys.length (ys.map enc) ∧ IsOrd ys (fun s => s.toNat < 2 ^ m ∧ extP (qK fs m) want s.toNat m = true) ∧ ys.length ≤ 65536 ∧ Below w.heap.size w w' :=
  extreme_any m hm (qK fs m) want v w hv

theorem kall_any (n : Int) (fs : List F) (v : Value) (w : World) (hv : RdF w v fs) :
    Calls Try.prog 25 #[.int .i64 n, v] w fun e w' => ∃ v', e = .returned (.tuple #[v', .int .i64 (validF n fs)]) ∧ RdE enc w' v' (keyR n fs) ∧ (keyR n fs).length ≤ 65536 ∧ Below w.heap.size w w' := by
  have V := hid (validF_any n fs v w hv)
  by_cases hz : validF n fs = 0
  · have KR := hid (show keyR n fs = keysS n fs by unfold keyR; rw [if_pos hz])
    have KO := hid (fun (ys : List S) (h : IsOrd ys (fun s => s.toNat < 2 ^ n.toNat ∧ extP (qK fs n.toNat) true s.toNat n.toNat = true)) => show ys = keysS n fs from listB_of (h.congr (ext_key hz)))
    rw [KR.out, hz]
    rw [hz] at V
    obtain ⟨h0, h16, -, -⟩ := validF_w2 hz
    obtain ⟨m, rfl⟩ : ∃ m : Nat, n = m := ⟨n.toNat, by omega⟩
    have SU := hid (fun (W : World) (h : Below w.heap.size w W) => supers_any m (by omega) fs v W (hv.below h))
    have EX := hid (fun (u : Value) (W : World) (h : RdE encB W u ((List.range (2 ^ m)).map fun k => fullB fs m (BitVec.ofNat 32 k))) => extremeR m (by omega) fs true u W h)
    obtain ⟨ao, cap, rfl, -⟩ := hv.split
    clear hv hz KR h0 h16
    generalize keysS (m : Int) fs = ks at *
    go_enter Try.func25, Try.ntmps25
    go_wp2_with fail
    refine V.out.mono ?_
    rintro e w1 ⟨rfl, hb1⟩
    have B1 := hid hb1
    clear hb1
    go_wp2_with fail
    refine (SU.out _ B1.out).mono ?_
    rintro e w2 ⟨v2, rfl, hr2, hb2⟩
    have R2 := hid hr2
    have B2 := hid (B1.out.trans (hb2.mono B1.out.size))
    clear hr2 hb2
    go_wp2_with fail
    refine (EX.out _ _ R2.out).mono ?_
    rintro e w3 ⟨v3, ys, rfl, ho3, hord, hyl, hb3⟩
    obtain rfl : ys = ks := KO.out ys hord
    have B3 := hid (B2.out.trans (hb3.mono B2.out.size))
    have R3 := hid (RdE.of_owns ho3 (by omega))
    have HL := hid hyl
    clear ho3 hord hyl hb3
    go_wp2_with fail
    go_ret2
    exact ⟨_, rfl, R3.out, HL.out, B3.out⟩
  · have KR := hid (show keyR n fs = [] by unfold keyR; rw [if_neg hz])
    rw [KR.out]
    obtain ⟨ao, cap, rfl, -⟩ := hv.split
    have hq : (validF n fs != 0) = true := by simpa using hz
    clear hv hz KR
    generalize validF n fs = r at *
    go_enter Try.func25, Try.ntmps25
    go_wp2_with fail
    refine V.out.mono ?_
    rintro e w1 ⟨rfl, hb1⟩
    have B1 := hid hb1
    clear hb1
    go_wp2_with fail
    go_ret2
    exact ⟨_, rfl, RdE.nil _ _, by simp, B1.out⟩

theorem kanti_any (n : Int) (fs : List F) (v : Value) (w : World) (hv : RdF w v fs) :
    Calls Try.prog 30 #[.int .i64 n, v] w fun e w' => ∃ v', e = .returned (.tuple #[v', .int .i64 (antiE n fs)]) ∧ RdE enc w' v' (antiR n fs) ∧ (antiR n fs).length ≤ 65536 ∧ Below w.heap.size w w' := by
  have V := hid (validF_any n fs v w hv)
  by_cases hz : validF n fs = 0
  · by_cases h12 : 12 < n
    · have EE := hid (show antiE n fs = 3 by unfold antiE; rw [if_neg (by simpa using hz), if_pos h12])
      have KR := hid (show antiR n fs = [] by unfold antiR; rw [EE.out]; rfl)
      rw [KR.out, EE.out]
      rw [hz] at V
      obtain ⟨ao, cap, rfl, -⟩ := hv.split
      have hd : decide (n > 12) = true := by simp; omega
      clear hv hz KR EE
      go_enter Try.func30, Try.ntmps30
      go_wp2_with fail
      refine V.out.mono ?_
      rintro e w1 ⟨rfl, hb1⟩
      have B1 := hid hb1
      clear hb1
      go_wp2_with fail
      go_ret2
      exact ⟨_, rfl, RdE.nil _ _, by simp, B1.out⟩
    · have EE := hid (show antiE n fs = 0 by unfold antiE; rw [if_neg (by simpa using hz), if_neg h12])
      have KR := hid (show antiR n fs = antiS n fs by unfold antiR; rw [if_pos EE.out])
      have KO := hid (fun (ys : List S) (h : IsOrd ys (fun s => s.toNat < 2 ^ n.toNat ∧ extP (qK fs n.toNat) false s.toNat n.toNat = true)) => show ys = antiS n fs from listB_of (h.congr (ext_anti hz)))
      rw [KR.out, EE.out]
      rw [hz] at V
      obtain ⟨h0, h16, -, -⟩ := validF_w2 hz
      obtain ⟨m, rfl⟩ : ∃ m : Nat, n = m := ⟨n.toNat, by omega⟩
      have SU := hid (fun (W : World) (h : Below w.heap.size w W) => supers_any m (by omega) fs v W (hv.below h))
      have EX := hid (fun (u : Value) (W : World) (h : RdE encB W u ((List.range (2 ^ m)).map fun k => fullB fs m (BitVec.ofNat 32 k))) => extremeR m (by omega) fs false u W h)
      have hd : decide ((m : Int) > 12) = false := by simp; omega
      have hd2 : ¬ 12 < m := by omega
      obtain ⟨ao, cap, rfl, -⟩ := hv.split
      clear hv hz KR EE h0 h16 h12
      generalize antiS (m : Int) fs = ks at *
      go_enter Try.func30, Try.ntmps30
      go_wp2_with fail
      refine V.out.mono ?_
      rintro e w1 ⟨rfl, hb1⟩
      have B1 := hid hb1
      clear hb1
      go_wp2_with fail
      refine (SU.out _ B1.out).mono ?_
      rintro e w2 ⟨v2, rfl, hr2, hb2⟩
      have R2 := hid hr2
      have B2 := hid (B1.out.trans (hb2.mono B1.out.size))
      clear hr2 hb2
      go_wp2_with fail
      refine (EX.out _ _ R2.out).mono ?_
      rintro e w3 ⟨v3, ys, rfl, ho3, hord, hyl, hb3⟩
      obtain rfl : ys = ks := KO.out ys hord
      have B3 := hid (B2.out.trans (hb3.mono B2.out.size))
      have R3 := hid (RdE.of_owns ho3 (by omega))
      have HL := hid hyl
      clear ho3 hord hyl hb3
      go_wp2_with fail
      go_ret2
      exact ⟨_, rfl, R3.out, HL.out, B3.out⟩
  · have EE := hid (show antiE n fs = validF n fs by unfold antiE; rw [if_pos hz])
    have KR := hid (show antiR n fs = [] by unfold antiR; rw [EE.out, if_neg hz])
    rw [KR.out, EE.out]
    obtain ⟨ao, cap, rfl, -⟩ := hv.split
    have hq : (validF n fs != 0) = true := by simpa using hz
    clear hv hz KR EE
    generalize validF n fs = r at *
    go_enter Try.func30, Try.ntmps30
    go_wp2_with fail
    refine V.out.mono ?_
    rintro e w1 ⟨rfl, hb1⟩
    have B1 := hid hb1
    clear hb1
    go_wp2_with fail
    go_ret2
    exact ⟨_, rfl, RdE.nil _ _, by simp, B1.out⟩

/-- All members of some sets. -/
def orL (l : List S) : S := l.foldl (· ||| ·) 0#32
theorem orL_next {l : List S} {k : Nat} {x : S} (h : l[k]? = some x) : orL (l.take (k + 1)) = orL (l.take k) ||| x := by
  unfold orL; rw [take_next h, List.foldl_append]; rfl
theorem kprime_any (n : Int) (fs : List F) (v : Value) (w : World) (hv : RdF w v fs) :
    Calls Try.prog 27 #[.int .i64 n, v] w fun e w' => e = .returned (.tuple #[enc (orL (keyR n fs)), .int .i64 (validF n fs)]) ∧ Below w.heap.size w w' := by
  have AL := hid (kall_any n fs v w hv)
  obtain ⟨ao, cap, rfl, -⟩ := hv.split
  clear hv
  generalize keyR n fs = ks at *
  generalize validF n fs = r at *
  simp only [enc_eq]
  go_enter Try.func27, Try.ntmps27
  go_wp2_with fail
  refine AL.out.mono ?_
  rintro e w1 ⟨v1, rfl, hr1, hl1, hb1⟩
  have B1 := hid hb1
  obtain ⟨ko, kcap, rfl, -, hkc⟩ := hr1.split
  have KC := hid hkc
  clear hr1 hb1 hkc
  go_wp2_with fail
  go_loop [8, 19] (fun o i => ∃ k : Nat, k ≤ ks.length ∧ i = .int .i64 k ∧ o = .int .u32 (iv (orL (ks.take k)))) (fun _ i => ks.length - (intOf i).toNat)
  case atStart => exact ⟨0, Nat.zero_le _, rfl, rfl⟩
  case round =>
    obtain ⟨k, hk, rfl, rfl⟩ := hrel
    by_cases hlt : k < ks.length
    · obtain ⟨x, hx⟩ := get_some hlt
      obtain ⟨b, off, rfl, hd⟩ := KC.out k x hx
      have e0 : w1.cell? ⟨b, off + k, none⟩ = some (.int .u32 (iv x)) := hd w1 (Below.refl _ _)
      have N := hid (orL_next hx)
      clear hd hx
      generalize orL (ks.take k) = o at *
      go_wp2_with fail
      go_round
      case rel => exact ⟨k + 1, by omega, by go_num, by rw [N.out]⟩
      case measure => simp [intOf]; omega
    · rw [take_all hlt]
      go_wp2_with fail
      go_ret2
      exact ⟨rfl, B1.out⟩

end Go.Proofs.Ytciamnkalmihcaa
