/- The walks of keys: full, Superkey, Is, Reduce. -/
import Derived.Test.YtciamnkalmihcaaKeysL
namespace Go.Proofs.Ytciamnkalmihcaa
open Go.RowKit

theorem shl_fullK {m : Nat} (h : m ≤ 16) : 1#32 <<< m - 1#32 = fullN m := by
  have : m = 0 ∨ m = 1 ∨ m = 2 ∨ m = 3 ∨ m = 4 ∨ m = 5 ∨ m = 6 ∨ m = 7 ∨ m = 8 ∨ m = 9 ∨ m = 10 ∨ m = 11 ∨ m = 12 ∨ m = 13 ∨ m = 14 ∨ m = 15 ∨ m = 16 := by omega
  rcases this with rfl | rfl | rfl | rfl | rfl | rfl | rfl | rfl | rfl | rfl | rfl | rfl | rfl | rfl | rfl | rfl | rfl <;> decide +kernel
theorem kfull_any (m : Nat) (hm : m ≤ 16) (w : World) :
    Calls Try.prog 75 #[.int .i64 (m : Int)] w fun e w' => e = .returned (enc (fullN m)) ∧ w = w' := by
  have E := hid (shl_fullK hm)
  have m0 : (0 : Int) ≤ (m : Int) := by omega
  rw [← E.out]
  simp only [enc_eq]
  go_enter Try.func75, Try.ntmps75
  go_wp2_with fail
  go_ret
  exact ⟨rfl, rfl⟩

theorem superkey_any (n : Int) (fs : List F) (s : S) (v : Value) (w : World) (hv : RdF w v fs) :
    Calls Try.prog 44 #[.int .i64 n, v, enc s] w fun e w' => e = .returned (.bool (supB n fs s)) ∧ Below w.heap.size w w' := by
  have V := hid (validF_any n fs v w hv)
  have C := hid (fun (W : World) (h : Below w.heap.size w W) => close_any fs s v W (hv.below h))
  obtain ⟨ao, cap, rfl, -⟩ := hv.split
  clear hv
  by_cases hz : validF n fs = 0
  · obtain ⟨h0, h16, -, -⟩ := validF_w2 hz
    obtain ⟨m, rfl⟩ : ∃ m : Nat, n = m := ⟨n.toNat, by omega⟩
    have FU := hid (fun (W : World) => kfull_any m (by omega) W)
    have E := hid (show supB (m : Int) fs s = ((s >>> m == 0#32) && (closeS fs s == fullN m)) by unfold supB; rw [decide_eq_true hz]; rfl)
    rw [E.out]
    rw [hz] at V
    clear hz E h0
    generalize closeS fs s = c at *
    generalize fullN m = fl at *
    have m0 : (0 : Int) ≤ (m : Int) := by omega
    have m1 : (m : Int) ≤ 32 := by omega
    simp only [enc_eq] at C FU ⊢
    cases hs : (s >>> m == 0#32) with
    | false =>
      go_enter Try.func44, Try.ntmps44
      go_wp2_with fail
      refine V.out.mono ?_
      rintro e w1 ⟨rfl, hb1⟩
      have B1 := hid hb1
      clear hb1
      go_wp2_with fail
      go_ret
      exact ⟨rfl, B1.out⟩
    | true =>
      go_enter Try.func44, Try.ntmps44
      go_wp2_with fail
      refine V.out.mono ?_
      rintro e w1 ⟨rfl, hb1⟩
      have B1 := hid hb1
      clear hb1
      go_wp2_with fail
      refine (C.out _ B1.out).mono ?_
      rintro e w2 ⟨rfl, hb2⟩
      have B2 := hid (B1.out.trans (hb2.mono B1.out.size))
      clear hb2
      go_wp2_with fail
      refine (FU.out _).mono ?_
      rintro e w' ⟨rfl, rfl⟩
      go_wp2_with fail
      go_ret
      exact ⟨ret_bool (by simp), B2.out⟩
  · have E := hid (supB_bad hz s)
    rw [E.out]
    have hq : (validF n fs == 0) = false := by simpa using hz
    clear hz E
    generalize validF n fs = r at *
    simp only [enc_eq]
    go_enter Try.func44, Try.ntmps44
    go_wp2_with fail
    refine V.out.mono ?_
    rintro e w1 ⟨rfl, hb1⟩
    have B1 := hid hb1
    clear hb1
    go_wp2_with fail
    go_ret
    exact ⟨rfl, B1.out⟩

theorem kis_any (n : Int) (fs : List F) (s : S) (v : Value) (w : World) (hv : RdF w v fs) :
    Calls Try.prog 46 #[.int .i64 n, v, enc s] w fun e w' => e = .returned (.bool (keyB n fs s)) ∧ Below w.heap.size w w' := by
  have C := hid (fun s (wr : World) (hb : Below w.heap.size w wr) => superkey_any n fs s v wr (hv.below hb))
  obtain ⟨ao, cap, rfl, -⟩ := hv.split
  clear hv
  have E := hid (show keyB n fs s = (supB n fs s && !leavesB (supB n fs) s 32) from rfl)
  rw [E.out]
  clear E
  generalize supB n fs = p at *
  simp only [enc_eq] at C ⊢
  cases hh : p s with
  | false =>
    have HH := hid hh
    clear hh
    go_enter Try.func46, Try.ntmps46
    go_wp2_with fail
    refine (C.out s _ (Below.refl _ _)).mono ?_
    rw [HH.out]
    rintro e w' ⟨rfl, hb⟩
    have B := hid hb
    clear hb
    go_wp2_with fail
    go_ret
    exact ⟨rfl, B.out⟩
  | true =>
    have HH := hid hh
    clear hh
    go_enter Try.func46, Try.ntmps46
    go_wp2_with fail
    refine (C.out s _ (Below.refl _ _)).mono ?_
    rw [HH.out]
    rintro e w1 ⟨rfl, hb⟩
    have B := hid hb
    clear hb
    go_wp2_with fail
    go_loopw [7] (fun i wr => ∃ r : S, i = .int .u32 (iv r) ∧ Below w.heap.size w wr ∧ Hid (sub r s ∧ ∀ i, i < 32 → s.getLsbD i = true → r.getLsbD i = false → p (s &&& ~~~ bit i) = false)) (fun i _ => (intOf i).toNat)
    case atStart => exact ⟨s, rfl, B.out, hid ⟨sub_refl _, fun i _ h1 h2 => by rw [h1] at h2; cases h2⟩⟩
    case round =>
      obtain ⟨r, rfl, hb, H⟩ := hrel
      by_cases h0 : r = 0#32
      · have hne : (r != 0#32) = false := by simp [h0]
        have R0 := hid h0
        clear h0
        have B2 := hid hb
        clear hb
        go_wp2_with fail
        go_ret
        refine ⟨ret_bool ?_, B2.out⟩
        rw [leavesB_none (fun i hi => ?_)]; rfl
        cases hs : s.getLsbD i with
        | false => simp
        | true => simp [H.out.2 i hi hs (by rw [R0.out]; simp)]
      · have hne : (r != 0#32) = true := by simp [h0]
        obtain ⟨i, hi, h1, h2, h3, h4⟩ := low_bit h0
        have hlt := drop_low_lt h0
        clear h2 h0
        have h1s := H.out.1 i hi h1
        have H3 := hid h3; have H4 := hid h4; have H1 := hid h1; have H1s := hid h1s; have HL := hid hlt
        clear h3 h4 h1 h1s hlt
        cases hq : p (s &&& ~~~ bit i) with
        | true =>
          have HQ := hid hq
          clear hq
          go_wp2_with fail
          refine (C.out _ _ hb).mono ?_
          rw [H3.out, HQ.out]
          rintro e w2 ⟨rfl, hb2⟩
          have B2 := hid (hb.trans (hb2.mono hb.size))
          clear hb hb2
          go_wp2_with fail
          go_ret
          refine ⟨ret_bool ?_, B2.out⟩
          rw [leavesB_hit hi (by simp [H1s.out, HQ.out])]; rfl
        | false =>
          have HQ := hid hq
          clear hq
          go_wp2_with fail
          refine (C.out _ _ hb).mono ?_
          rw [H3.out, HQ.out]
          rintro e w2 ⟨rfl, hb2⟩
          have B2 := hid (hb.trans (hb2.mono hb.size))
          clear hb hb2
          go_wp2_with fail
          go_roundw
          case rel =>
            refine ⟨r &&& (r - 1#32), rfl, B2.out, hid ⟨?_, fun j hj hs hr => ?_⟩⟩
            · rw [H4.out]
              intro j hj hr
              rw [BitVec.getLsbD_and] at hr
              simp at hr
              exact H.out.1 j hj hr.1
            · rw [H4.out, BitVec.getLsbD_and, BitVec.getLsbD_not, bit_get i j hj] at hr
              by_cases e : j = i
              · subst e; exact HQ.out
              · refine H.out.2 j hj hs ?_
                simpa [hj, e] using hr
          case measure => have := HL.out; simp only [intOf, iv]; omega

/-- What remains when the attributes are left out from the greatest on. -/
def redN (p : S → Bool) : Nat → S → S
  | 0, x => x
  | k + 1, x => redN p k (if p (x &&& ~~~ bit k) then x &&& ~~~ bit k else x)
theorem redN_key {n : Int} {fs : List F} : ∀ (k : Nat) (x : S), supB n fs x = true → (∀ i, k ≤ i → i < 32 → x.getLsbD i = true → supB n fs (x &&& ~~~ bit i) = false) → keyB n fs (redN (supB n fs) k x) = true := by
  intro k
  induction k with
  | zero =>
    intro x hx h
    unfold redN keyB
    rw [hx, leavesB_iff.2 fun i hi hb => h i (by omega) hi hb]; rfl
  | succ k ih =>
    intro x hx h
    unfold redN
    split
    · rename_i hq
      refine ih _ hq fun i hk hi hb => ?_
      by_cases e : i = k
      · subst e
        rw [andNot_bit x i i hi] at hb; simp at hb
      · have hb' : x.getLsbD i = true := by rw [andNot_bit x k i hi] at hb; simp at hb; exact hb.1
        cases hq2 : supB n fs (x &&& ~~~ bit k &&& ~~~ bit i) with
        | false => rfl
        | true =>
          have := supB_mono (t := x &&& ~~~ bit i) hq2 (fun j hj hj2 => by
            rw [BitVec.getLsbD_and, andNot_bit x k j hj] at hj2
            rw [BitVec.getLsbD_and]
            simp only [Bool.and_eq_true] at hj2 ⊢
            exact ⟨hj2.1.1, hj2.2⟩) (sub_trans (less_subK x i) (supB_sub hx))
          rw [h i (by omega) hi hb'] at this; cases this
    · rename_i hq
      refine ih _ hx fun i hk hi hb => ?_
      by_cases e : i = k
      · subst e; simpa using hq
      · exact h i (by omega) hi hb
noncomputable def rdS (n : Int) (fs : List F) (s : S) : S := if supB n fs s = true then redN (supB n fs) n.toNat s else 0#32
noncomputable def rdE (n : Int) (fs : List F) (s : S) : Int := if validF n fs ≠ 0 then validF n fs else if supB n fs s = true then 0 else 1
theorem rd_key {n : Int} {fs : List F} {s : S} (h : rdE n fs s = 0) : keyB n fs (rdS n fs s) = true := by
  unfold rdE at h
  split at h
  · exact absurd h (by assumption)
  · split at h
    · rename_i hs
      unfold rdS
      rw [if_pos hs]
      refine redN_key _ _ hs fun i hi h32 hb => ?_
      have := supB_sub hs i h32 hb
      rw [fullN_get _ i h32, decide_eq_true_iff] at this
      omega
    · simp at h
theorem ret_seti {k : Int} {a b : S} (h : a = b) : Ending.returned (.tuple #[.int .u32 (iv a), .int .i64 k]) = Ending.returned (.tuple #[.int .u32 (iv b), .int .i64 k]) := by rw [h]

theorem kreduce_any (n : Int) (fs : List F) (s : S) (v : Value) (w : World) (hv : RdF w v fs) :
    Calls Try.prog 20 #[.int .i64 n, v, enc s] w fun e w' => e = .returned (.tuple #[enc (rdS n fs s), .int .i64 (rdE n fs s)]) ∧ Below w.heap.size w w' := by
  have V := hid (validF_any n fs v w hv)
  have C := hid (fun s (wr : World) (hb : Below w.heap.size w wr) => superkey_any n fs s v wr (hv.below hb))
  obtain ⟨ao, cap, rfl, -⟩ := hv.split
  clear hv
  by_cases hz : validF n fs = 0
  · obtain ⟨h0, h16, -, -⟩ := validF_w2 hz
    obtain ⟨m, rfl⟩ : ∃ m : Nat, n = m := ⟨n.toNat, by omega⟩
    have ES := hid (show rdS (m : Int) fs s = if supB (m : Int) fs s = true then redN (supB (m : Int) fs) m s else 0#32 from rfl)
    have EE := hid (show rdE (m : Int) fs s = if supB (m : Int) fs s = true then 0 else 1 by unfold rdE; rw [if_neg (by simpa using hz)])
    rw [ES.out, EE.out]
    rw [hz] at V
    clear hz ES EE
    generalize supB (m : Int) fs = p at *
    simp only [enc_eq] at C ⊢
    cases hh : p s with
    | false =>
      have C0 := hid (C.out s)
      rw [hh] at C0
      rw [if_neg (by simp), if_neg (by simp)]
      clear hh
      go_enter Try.func20, Try.ntmps20
      go_wp2_with fail
      refine V.out.mono ?_
      rintro e w1 ⟨rfl, hb1⟩
      have B1 := hid hb1
      clear hb1
      go_wp2_with fail
      refine (C0.out _ B1.out).mono ?_
      rintro e w2 ⟨rfl, hb2⟩
      have B2 := hid (B1.out.trans (hb2.mono B1.out.size))
      clear hb2
      go_wp2_with fail
      go_ret2
      exact ⟨rfl, B2.out⟩
    | true =>
      have C0 := hid (C.out s)
      rw [hh] at C0
      rw [if_pos rfl, if_pos rfl]
      obtain ⟨z, hzz⟩ : ∃ z, redN p m s = z := ⟨_, rfl⟩
      rw [hzz]
      have Z := hid hzz
      clear hh hzz
      go_enter Try.func20, Try.ntmps20
      go_wp2_with fail
      refine V.out.mono ?_
      rintro e w1 ⟨rfl, hb1⟩
      have B1 := hid hb1
      clear hb1
      go_wp2_with fail
      refine (C0.out _ B1.out).mono ?_
      rintro e w2 ⟨rfl, hb2⟩
      have B2 := hid (B1.out.trans (hb2.mono B1.out.size))
      clear hb2
      go_wp2_with fail
      go_loopw [2, 9] (fun x i wr => ∃ (k : Nat) (y : S) (c : Int), k ≤ m ∧ c = (k : Int) - 1 ∧ i = .int .i64 c ∧ x = .int .u32 (iv y) ∧ Hid (redN p k y = z) ∧ Below w.heap.size w wr) (fun _ i _ => (intOf i + 1).toNat)
      case atStart => exact ⟨m, s, (m : Int) - 1, Nat.le_refl _, rfl, by go_num, rfl, Z, B2.out⟩
      case round =>
        obtain ⟨k, y, c, hk, hc, rfl, rfl, HZ, hnx⟩ := hrel
        cases k with
        | zero =>
          obtain rfl : c = -1 := by simpa using hc
          have hd : decide ((-1 : Int) ≥ 0) = false := by decide
          have Z2 := hid (show y = z from HZ.out)
          clear hc HZ
          go_wp2_with fail
          go_ret2
          exact ⟨ret_seti Z2.out, hnx⟩
        | succ k =>
          obtain rfl : c = (k : Int) := by omega
          have k0 : (0 : Int) ≤ (k : Int) := by omega
          have hd : decide ((k : Int) ≥ 0) = true := by simp
          have C1 := hid (C.out (y &&& ~~~ (1#32 <<< k)) _ hnx)
          have STEP := hid (show redN p k (if p (y &&& ~~~ (1#32 <<< k)) then y &&& ~~~ (1#32 <<< k) else y) = z from HZ.out)
          have HN := hid hnx
          clear hnx HZ hc
          cases hq : p (y &&& ~~~ (1#32 <<< k)) with
          | true =>
            rw [hq] at C1 STEP
            rw [if_pos rfl] at STEP
            clear hq
            go_wp2_with fail
            refine C1.out.mono ?_
            rintro e w3 ⟨rfl, hb3⟩
            have B3 := hid (HN.out.trans (hb3.mono HN.out.size))
            clear hb3
            go_wp2_with fail
            go_roundw
            case rel => exact ⟨k, y &&& ~~~ (1#32 <<< k), (k : Int) - 1, by omega, rfl, by go_num, rfl, STEP, B3.out⟩
            case measure => simp [intOf] <;> omega
          | false =>
            rw [hq] at C1 STEP
            rw [if_neg (by simp)] at STEP
            clear hq
            go_wp2_with fail
            refine C1.out.mono ?_
            rintro e w3 ⟨rfl, hb3⟩
            have B3 := hid (HN.out.trans (hb3.mono HN.out.size))
            clear hb3
            go_wp2_with fail
            go_roundw
            case rel => exact ⟨k, y, (k : Int) - 1, by omega, rfl, by go_num, rfl, STEP, B3.out⟩
            case measure => simp [intOf] <;> omega
  · have ES := hid (show rdS n fs s = 0#32 by unfold rdS; rw [if_neg (by rw [supB_bad hz]; simp)])
    have EE := hid (show rdE n fs s = validF n fs by unfold rdE; rw [if_pos hz])
    rw [ES.out, EE.out]
    have hq : (validF n fs != 0) = true := by simpa using hz
    clear hz ES EE
    generalize validF n fs = r at *
    simp only [enc_eq]
    go_enter Try.func20, Try.ntmps20
    go_wp2_with fail
    refine V.out.mono ?_
    rintro e w1 ⟨rfl, hb1⟩
    have B1 := hid hb1
    clear hb1
    go_wp2_with fail
    go_ret2
    exact ⟨rfl, B1.out⟩

end Go.Proofs.Ytciamnkalmihcaa
