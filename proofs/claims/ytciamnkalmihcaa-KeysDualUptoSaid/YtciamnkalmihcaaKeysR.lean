/- The walks of the reference of chapter 11: Superkey, Is, Reduce, All, Prime, Anti. -/
import Derived.Test.YtciamnkalmihcaaKeys4
namespace Go.Proofs.Ytciamnkalmihcaa
open Go.RowKit

theorem refSuperkey_any (n : Int) (fs : List F) (s : S) (v : Value) (w : World) (hv : RdF w v fs) :
    Calls Try.prog 45 #[.int .i64 n, v, enc s] w fun e w' => e = .returned (.bool (supB n fs s)) ∧ Below w.heap.size w w' := by
  have V := hid (refValidF_any n fs v w hv)
  have C := hid (fun (W : World) (h : Below w.heap.size w W) => refClose_any fs s v W (hv.below h))
  obtain ⟨ao, cap, rfl, -⟩ := hv.split
  clear hv
  by_cases hz : validF n fs = 0
  · obtain ⟨h0, h16, -, -⟩ := validF_w2 hz
    have FU := hid (fun (W : World) => full_any n W)
    rw [show min n.toNat 32 = n.toNat by omega] at FU
    have E := hid (show supB n fs s = (!(s &&& ~~~ fullN n.toNat != 0#32) && (closeS fs s == fullN n.toNat)) by unfold supB; rw [decide_eq_true hz, over_full]; unfold bne; cases (s >>> n.toNat == 0#32) <;> rfl)
    rw [E.out]
    rw [hz] at V
    clear hz E h0 h16
    generalize closeS fs s = c at *
    generalize fullN n.toNat = fl at *
    simp only [enc_eq] at C FU ⊢
    cases hs : (s &&& ~~~ fl != 0#32) with
    | true =>
      go_enter Try.func45, Try.ntmps45
      go_wp2_with fail
      refine (V.out).mono ?_
      rintro e w' ⟨rfl, rfl⟩
      go_wp2_with fail
      refine (FU.out _).mono ?_
      rintro e w' ⟨rfl, rfl⟩
      go_wp2_with fail
      go_ret
      exact ⟨rfl, Below.refl _ _⟩
    | false =>
      go_enter Try.func45, Try.ntmps45
      go_wp2_with fail
      refine (V.out).mono ?_
      rintro e w' ⟨rfl, rfl⟩
      go_wp2_with fail
      refine (FU.out _).mono ?_
      rintro e w' ⟨rfl, rfl⟩
      go_wp2_with fail
      refine (C.out _ (Below.refl _ _)).mono ?_
      rintro e w2 ⟨rfl, hb2⟩
      have B2 := hid hb2
      clear hb2
      go_wp2_with fail
      refine (FU.out _).mono ?_
      rintro e w' ⟨rfl, rfl⟩
      go_wp2_with fail
      go_ret
      exact ⟨ret_bool (by simp), B2.out⟩
  · have E := hid (supB_bad hz s)
    rw [E.out]
    have hq : (validF n fs != 0) = true := by simpa using hz
    clear hz E
    generalize validF n fs = r at *
    simp only [enc_eq]
    go_enter Try.func45, Try.ntmps45
    go_wp2_with fail
    refine (V.out).mono ?_
    rintro e w' ⟨rfl, rfl⟩
    go_wp2_with fail
    go_ret
    exact ⟨rfl, Below.refl _ _⟩

theorem leavesB_within {n : Int} {fs : List F} {s : S} (h : supB n fs s = true) : leavesB (supB n fs) s n.toNat = leavesB (supB n fs) s 32 := by
  have hs := supB_sub h
  have h16 := (validF_w2 (supB_valid h)).2.1
  cases hq : leavesB (supB n fs) s n.toNat with
  | true =>
    unfold leavesB at hq
    obtain ⟨i, hi, hb⟩ := List.any_eq_true.1 hq
    have hi := List.mem_range.1 hi
    exact (leavesB_hit (by omega) hb).symm
  | false =>
    symm
    refine leavesB_none fun i hi => ?_
    cases hb : s.getLsbD i with
    | false => rfl
    | true =>
      have hin := hs i hi hb
      rw [fullN_get _ i hi, decide_eq_true_iff] at hin
      unfold leavesB at hq
      rw [List.any_eq_false] at hq
      have := hq i (List.mem_range.2 hin)
      rw [hb] at this
      simpa using this

theorem refIs_any (n : Int) (fs : List F) (s : S) (v : Value) (w : World) (hv : RdF w v fs) :
    Calls Try.prog 23 #[.int .i64 n, v, enc s] w fun e w' => e = .returned (.bool (keyB n fs s)) ∧ Below w.heap.size w w' := by
  have C := hid (fun s (wr : World) (hb : Below w.heap.size w wr) => refSuperkey_any n fs s v wr (hv.below hb))
  have HX := hid (fun (k : Nat) (hk : k < 32) (W : World) => has_any s k hk W)
  obtain ⟨ao, cap, rfl, -⟩ := hv.split
  clear hv
  cases hh : supB n fs s with
  | false =>
    have E := hid (show keyB n fs s = false by unfold keyB; rw [hh]; rfl)
    rw [E.out]
    clear E
    have HH := hid hh
    clear hh
    generalize supB n fs = p at *
    simp only [enc_eq] at C ⊢
    go_enter Try.func23, Try.ntmps23
    go_wp2_with fail
    refine (C.out s _ (Below.refl _ _)).mono ?_
    rw [HH.out]
    rintro e w' ⟨rfl, hb⟩
    have B := hid hb
    clear hb
    go_wp2_with fail
    go_ret
    exact ⟨rfl, B.out⟩
  | true =>
    have E := hid (show keyB n fs s = !leavesB (supB n fs) s n.toNat by unfold keyB; rw [leavesB_within hh, hh]; rfl)
    rw [E.out]
    have HH := hid hh
    obtain ⟨h0, h16, -, -⟩ := validF_w2 (supB_valid hh)
    obtain ⟨m, rfl⟩ : ∃ m : Nat, n = m := ⟨n.toNat, by omega⟩
    rw [show (m : Int).toNat = m by omega]
    clear hh E h0
    generalize supB (m : Int) fs = p at *
    simp only [enc_eq] at C HX ⊢
    go_enter Try.func23, Try.ntmps23
    go_wp2_with fail
    refine (C.out s _ (Below.refl _ _)).mono ?_
    rw [HH.out]
    rintro e w1 ⟨rfl, hb⟩
    have B := hid hb
    clear hb
    go_wp2_with fail
    go_loopw [7] (fun i wr => ∃ k : Nat, k ≤ m ∧ i = .int .i64 k ∧ Hid (leavesB p s k = false) ∧ Below w.heap.size w wr) (fun i _ => m - (intOf i).toNat)
    case atStart => exact ⟨0, Nat.zero_le _, rfl, hid rfl, B.out⟩
    case round =>
      obtain ⟨k, hk, rfl, H, hnx⟩ := hrel
      by_cases hlt : k < m
      · have H1 := hid (HX.out k (by omega) wr)
        have k0 : (0 : Int) ≤ (k : Int) := by omega
        have HN := hid hnx
        clear hnx
        cases hs : s.getLsbD k with
        | false =>
          rw [hs] at H1
          have HS := hid hs
          clear hs
          go_wp2_with fail
          refine H1.out.mono ?_
          rintro e w3 ⟨rfl, rfl⟩
          go_wp2_with fail
          go_roundw
          case rel => exact ⟨k + 1, by omega, by go_num, hid (leavesB_next H.out (by simp [HS.out])), HN.out⟩
          case measure => simp [intOf]; omega
        | true =>
          rw [hs] at H1
          have HS := hid hs
          have C1 := hid (C.out (s &&& ~~~ (1#32 <<< k)) _ HN.out)
          clear hs
          cases hq : p (s &&& ~~~ (1#32 <<< k)) with
          | true =>
            rw [hq] at C1
            have HQ := hid (show p (s &&& ~~~ bit k) = true from hq)
            clear hq
            go_wp2_with fail
            refine H1.out.mono ?_
            rintro e w3 ⟨rfl, rfl⟩
            go_wp2_with fail
            refine C1.out.mono ?_
            rintro e w4 ⟨rfl, hb4⟩
            have B4 := hid (HN.out.trans (hb4.mono HN.out.size))
            clear hb4
            go_wp2_with fail
            go_ret
            exact ⟨ret_bool (by rw [leavesB_hit hlt (by simp [HS.out, HQ.out])]; rfl), B4.out⟩
          | false =>
            rw [hq] at C1
            have HQ := hid (show p (s &&& ~~~ bit k) = false from hq)
            clear hq
            go_wp2_with fail
            refine H1.out.mono ?_
            rintro e w3 ⟨rfl, rfl⟩
            go_wp2_with fail
            refine C1.out.mono ?_
            rintro e w4 ⟨rfl, hb4⟩
            have B4 := hid (HN.out.trans (hb4.mono HN.out.size))
            clear hb4
            go_wp2_with fail
            go_roundw
            case rel => exact ⟨k + 1, by omega, by go_num, hid (leavesB_next H.out (by simp [HS.out, HQ.out])), B4.out⟩
            case measure => simp [intOf]; omega
      · obtain rfl : k = m := by omega
        go_wp2_with fail
        go_ret
        exact ⟨ret_bool (by rw [H.out]; rfl), hnx⟩

theorem lacks_self {y : S} {k : Nat} (h : y.getLsbD k = false) : y &&& ~~~ (1#32 <<< k) = y := bv_ext fun i hi => by
  have := andNot_bit y k i hi
  unfold bit at this
  rw [this]
  by_cases e : i = k
  · subst e; rw [h]; simp
  · simp [e]

theorem refKReduce_any (n : Int) (fs : List F) (s : S) (v : Value) (w : World) (hv : RdF w v fs) :
    Calls Try.prog 22 #[.int .i64 n, v, enc s] w fun e w' => e = .returned (.tuple #[enc (rdS n fs s), .int .i64 (rdE n fs s)]) ∧ Below w.heap.size w w' := by
  have V := hid (refValidF_any n fs v w hv)
  have C := hid (fun s (wr : World) (hb : Below w.heap.size w wr) => refSuperkey_any n fs s v wr (hv.below hb))
  have HX := hid (fun (y : S) (k : Nat) (hk : k < 32) (W : World) => has_any y k hk W)
  obtain ⟨ao, cap, rfl, -⟩ := hv.split
  clear hv
  by_cases hz : validF n fs = 0
  · obtain ⟨h0, h16, -, -⟩ := validF_w2 hz
    obtain ⟨m, rfl⟩ : ∃ m : Nat, n = m := ⟨n.toNat, by omega⟩
    have ES := hid (show rdS (m : Int) fs s = if supB (m : Int) fs s = true then redN (supB (m : Int) fs) m s else 0#32 from rfl)
    have EE := hid (show rdE (m : Int) fs s = if supB (m : Int) fs s = true then 0 else 1 by unfold rdE; rw [if_neg (by simpa using hz)])
    rw [ES.out, EE.out]
    rw [hz] at V
    clear hz ES EE
    generalize supB (m : Int) fs = p at *
    simp only [enc_eq] at C HX ⊢
    cases hh : p s with
    | false =>
      have C0 := hid (C.out s)
      rw [hh] at C0
      rw [if_neg (by simp), if_neg (by simp)]
      clear hh
      go_enter Try.func22, Try.ntmps22
      go_wp2_with fail
      refine (V.out).mono ?_
      rintro e w' ⟨rfl, rfl⟩
      go_wp2_with fail
      refine (C0.out _ (Below.refl _ _)).mono ?_
      rintro e w2 ⟨rfl, hb2⟩
      have B2 := hid hb2
      clear hb2
      go_wp2_with fail
      go_ret2
      exact ⟨rfl, B2.out⟩
    | true =>
      have C0 := hid (C.out s)
      rw [hh] at C0
      rw [if_pos rfl, if_pos rfl]
      obtain ⟨z, hzz⟩ : ∃ z, redN p m s = z := ⟨_, rfl⟩
      rw [hzz]
      have Z := hid hzz
      clear hh hzz
      go_enter Try.func22, Try.ntmps22
      go_wp2_with fail
      refine (V.out).mono ?_
      rintro e w' ⟨rfl, rfl⟩
      go_wp2_with fail
      refine (C0.out _ (Below.refl _ _)).mono ?_
      rintro e w2 ⟨rfl, hb2⟩
      have B2 := hid hb2
      clear hb2
      go_wp2_with fail
      go_loopw [2, 9] (fun x i wr => ∃ (k : Nat) (y : S) (c : Int), k ≤ m ∧ c = (k : Int) - 1 ∧ i = .int .i64 c ∧ x = .int .u32 (iv y) ∧ Hid (redN p k y = z) ∧ Below w.heap.size w wr) (fun _ i _ => (intOf i + 1).toNat)
      case atStart => exact ⟨m, s, (m : Int) - 1, Nat.le_refl _, rfl, by go_num, rfl, Z, B2.out⟩
      case round =>
        obtain ⟨k, y, c, hk, hc, rfl, rfl, HZ, hnx⟩ := hrel
        cases k with
        | zero =>
          obtain rfl : c = -1 := by simpa using hc
          have hd : decide ((-1 : Int) ≥ 0) = false := by decide
          have Z2 := hid (show y = z from HZ.out)
          clear hc HZ
          go_wp2_with fail
          go_ret2
          exact ⟨ret_seti Z2.out, hnx⟩
        | succ k =>
          obtain rfl : c = (k : Int) := by omega
          have k0 : (0 : Int) ≤ (k : Int) := by omega
          have hd : decide ((k : Int) ≥ 0) = true := by simp
          have H1 := hid (HX.out y k (by omega) wr)
          have C1 := hid (C.out (y &&& ~~~ (1#32 <<< k)) _ hnx)
          have STEP := hid (show redN p k (if p (y &&& ~~~ (1#32 <<< k)) then y &&& ~~~ (1#32 <<< k) else y) = z from HZ.out)
          have HN := hid hnx
          clear hnx HZ hc
          cases hb : y.getLsbD k with
          | false =>
            rw [hb] at H1
            have LS := lacks_self hb
            rw [LS] at STEP
            rw [show (if p y = true then y else y) = y by split <;> rfl] at STEP
            clear hb LS C1
            go_wp2_with fail
            refine H1.out.mono ?_
            rintro e w3 ⟨rfl, rfl⟩
            go_wp2_with fail
            go_roundw
            case rel => exact ⟨k, y, (k : Int) - 1, by omega, rfl, by go_num, rfl, STEP, HN.out⟩
            case measure => simp [intOf] <;> omega
          | true =>
            rw [hb] at H1
            clear hb
            cases hq : p (y &&& ~~~ (1#32 <<< k)) with
            | true =>
              rw [hq] at C1 STEP
              rw [if_pos rfl] at STEP
              clear hq
              go_wp2_with fail
              refine H1.out.mono ?_
              rintro e w3 ⟨rfl, rfl⟩
              go_wp2_with fail
              refine C1.out.mono ?_
              rintro e w4 ⟨rfl, hb4⟩
              have B3 := hid (HN.out.trans (hb4.mono HN.out.size))
              clear hb4
              go_wp2_with fail
              go_roundw
              case rel => exact ⟨k, y &&& ~~~ (1#32 <<< k), (k : Int) - 1, by omega, rfl, by go_num, rfl, STEP, B3.out⟩
              case measure => simp [intOf] <;> omega
            | false =>
              rw [hq] at C1 STEP
              rw [if_neg (by simp)] at STEP
              clear hq
              go_wp2_with fail
              refine H1.out.mono ?_
              rintro e w3 ⟨rfl, rfl⟩
              go_wp2_with fail
              refine C1.out.mono ?_
              rintro e w4 ⟨rfl, hb4⟩
              have B3 := hid (HN.out.trans (hb4.mono HN.out.size))
              clear hb4
              go_wp2_with fail
              go_roundw
              case rel => exact ⟨k, y, (k : Int) - 1, by omega, rfl, by go_num, rfl, STEP, B3.out⟩
              case measure => simp [intOf] <;> omega
  · have ES := hid (show rdS n fs s = 0#32 by unfold rdS; rw [if_neg (by rw [supB_bad hz]; simp)])
    have EE := hid (show rdE n fs s = validF n fs by unfold rdE; rw [if_pos hz])
    rw [ES.out, EE.out]
    have hq : (validF n fs != 0) = true := by simpa using hz
    clear hz ES EE
    generalize validF n fs = r at *
    simp only [enc_eq]
    go_enter Try.func22, Try.ntmps22
    go_wp2_with fail
    refine (V.out).mono ?_
    rintro e w' ⟨rfl, rfl⟩
    go_wp2_with fail
    go_ret2
    exact ⟨rfl, Below.refl _ _⟩

/-! All sets of a universe, one after the other. -/
theorem more_set {p : S → Bool} {xs : List S} {x : S} (hx1 : (x + 1#32).toNat = x.toNat + 1) (M : ∀ y, y ∈ xs ↔ p y = true ∧ y.toNat < x.toNat) (hq : p x = true) : ∀ y, y ∈ xs ++ [x] ↔ p y = true ∧ y.toNat < (x + 1#32).toNat := by
  intro y
  rw [List.mem_append, List.mem_singleton, M y, hx1]
  constructor
  · rintro (⟨h1, h2⟩ | rfl)
    · exact ⟨h1, by omega⟩
    · exact ⟨hq, by omega⟩
  · rintro ⟨h1, h2⟩
    by_cases h : y.toNat < x.toNat
    · exact .inl ⟨h1, h⟩
    · exact .inr (BitVec.eq_of_toNat_eq (by omega))
theorem same_set {p : S → Bool} {xs : List S} {x : S} (hx1 : (x + 1#32).toNat = x.toNat + 1) (M : ∀ y, y ∈ xs ↔ p y = true ∧ y.toNat < x.toNat) (hq : p x = false) : ∀ y, y ∈ xs ↔ p y = true ∧ y.toNat < (x + 1#32).toNat := by
  intro y
  rw [M y, hx1]
  constructor
  · rintro ⟨h1, h2⟩; exact ⟨h1, by omega⟩
  · rintro ⟨h1, h2⟩
    refine ⟨h1, ?_⟩
    by_cases h : y.toNat < x.toNat
    · exact h
    · have : y = x := BitVec.eq_of_toNat_eq (by omega)
      subst this
      rw [hq] at h1; cases h1
theorem fullN_nat {m : Nat} (h : m ≤ 32) : (fullN m).toNat = 2 ^ m - 1 := fullN_toNat m h

set_option maxHeartbeats 800000 in
theorem refKAll_any (n : Int) (fs : List F) (v : Value) (w : World) (hv : RdF w v fs) :
    Calls Try.prog 26 #[.int .i64 n, v] w fun e w' => ∃ v', e = .returned (.tuple #[v', .int .i64 (validF n fs)]) ∧ RdE enc w' v' (keyR n fs) ∧ (keyR n fs).length ≤ 65536 ∧ Below w.heap.size w w' := by
  have V := hid (refValidF_any n fs v w hv)
  by_cases hz : validF n fs = 0
  · have KR := hid (show keyR n fs = keysS n fs by unfold keyR; rw [if_pos hz])
    have KL := hid (keysS_length hz)
    obtain ⟨h0, h16, -, -⟩ := validF_w2 hz
    have KW := hid (fun s (h : keyB n fs s = true) => show s.toNat < 2 ^ n.toNat from full_pow (by omega) (supB_sub (keyB_sup h)))
    have KO := hid (fun (ys : List S) (h : IsOrd ys (fun s => keyB n fs s = true)) => show ys = keysS n fs from listB_of h)
    rw [KR.out, hz]
    rw [hz] at V
    have FU := hid (fun (W : World) => full_any n W)
    have IC := hid (fun (s : S) (W : World) (hb : Below w.heap.size w W) => refIs_any n fs s v W (hv.below hb))
    have O := hid (fun (xs : List S) (v : Value) (W : World) (hv : RdE enc W v xs) (h : xs.length < 17592186044416) => refOrder_any xs v W hv h)
    rw [show min n.toNat 32 = n.toNat by omega] at FU
    obtain ⟨m, rfl⟩ : ∃ m : Nat, n = m := ⟨n.toNat, by omega⟩
    rw [show (m : Int).toNat = m by omega] at FU KL KW
    have hG : (fullN m).toNat = 2 ^ m - 1 := fullN_nat (by omega)
    have hN2 : 2 ^ m ≤ 2 ^ 16 := Nat.pow_le_pow_right (by omega) (by omega)
    have hp0 := Nat.two_pow_pos m
    obtain ⟨ao, cap, rfl, -⟩ := hv.split
    clear hv hz KR h0
    generalize fullN m = G at *
    generalize 2 ^ m = N at *
    generalize keyB (m : Int) fs = kb at *
    generalize keysS (m : Int) fs = ks at *
    have HG := hid hG
    clear hG
    simp only [enc_eq] at IC FU
    go_enter Try.func26, Try.ntmps26
    go_wp2_with fail
    refine (V.out).mono ?_
    rintro e w' ⟨rfl, rfl⟩
    go_wp2_with fail
    go_loopw [7, 8] (fun u i wr => ∃ (x : S) (xs : List S), i = .int .u32 (iv x) ∧ wr.ownsRow w.heap.size 24 1 u xs.length (xs.map enc) ∧ x.toNat ≤ N ∧ xs.length ≤ x.toNat ∧ Hid (∀ y, y ∈ xs ↔ kb y = true ∧ y.toNat < x.toNat) ∧ Below w.heap.size w wr) (fun _ i _ => N - (intOf i).toNat)
    case atStart => exact ⟨0#32, [], rfl, World.ownsRow_nil _ _ _ _, by simp, by simp, hid (by simp), Below.refl _ _⟩
    case round =>
      obtain ⟨x, xs, rfl, hown, hxN, hlen, M, hnx⟩ := hrel
      have hsz := hnx.size
      have hx1 : (x + 1#32).toNat = x.toNat + 1 := by rw [BitVec.toNat_add]; simp; omega
      by_cases hlt : x.toNat < N
      · have hle : iv x ≤ iv G := by have := HG.out; unfold iv; omega
        have I1 := hid (IC.out x wr hnx)
        have HO := hid hown
        have HN := hid hnx
        clear hown hnx
        cases hq : kb x with
        | true =>
          have M2 := hid (more_set hx1 M.out hq)
          rw [hq] at I1
          clear hq M
          go_wp2_with fail
          refine (FU.out _).mono ?_
          rintro e w' ⟨rfl, rfl⟩
          go_wp2_with fail
          refine I1.out.mono ?_
          rintro e w3 ⟨rfl, hb3⟩
          have hown3 := own_below HO.out hb3
          have hnx3 := HN.out.trans (hb3.mono HN.out.size)
          have hs3 := hnx3.size
          clear hb3
          go_wp2_with (at_builtin; refine wpList_push rfl _ _ 34 rfl w.heap.size 24 (.int .u32 0) 4 undSets infoSet rfl (by decide) enc (fun _ => rfl) _ xs rfl (hown3.alloc _) ⟨w3.heap.size, 0, none⟩ x rfl cell_new (by omega) (by simp; omega) ?_)
          intro v' w4 hown' hgrow
          have hb4 := below_push hnx3 hs3 hown3 hgrow
          clear hgrow hown3 hnx3
          go_wp2_with fail
          go_roundw
          case rel => exact ⟨x + 1#32, xs ++ [x], rfl, by simpa using hown', by omega, by rw [List.length_append, List.length_singleton]; omega, M2, hb4⟩
          case measure => simp [intOf, iv]; omega
        | false =>
          have M2 := hid (same_set hx1 M.out hq)
          rw [hq] at I1
          clear hq M
          go_wp2_with fail
          refine (FU.out _).mono ?_
          rintro e w' ⟨rfl, rfl⟩
          go_wp2_with fail
          refine I1.out.mono ?_
          rintro e w3 ⟨rfl, hb3⟩
          have hown3 := own_below HO.out hb3
          have hnx3 := HN.out.trans (hb3.mono HN.out.size)
          clear hb3
          go_wp2_with fail
          go_roundw
          case rel => exact ⟨x + 1#32, xs, rfl, hown3, by omega, by omega, M2, hnx3⟩
          case measure => simp [intOf, iv]; omega
      · have hle : ¬ iv x ≤ iv G := by have := HG.out; unfold iv; omega
        have RD := hid (RdE.of_owns hown (by omega))
        have MM := hid (show ∀ s, s ∈ xs ↔ kb s = true by
          intro s
          rw [M.out s]
          exact ⟨fun h => h.1, fun h => ⟨h, by have := KW.out s h; omega⟩⟩)
        have HN := hid hnx
        have hxl : xs.length ≤ 65536 := by omega
        clear hown M hnx
        go_wp2_with fail
        refine (FU.out _).mono ?_
        rintro e w' ⟨rfl, rfl⟩
        go_wp2_with fail
        refine (O.out xs _ _ RD.out (by omega)).mono ?_
        rintro e w2 ⟨v2, ys, rfl, ho2, hord, hyl, hb2⟩
        obtain rfl : ys = ks := KO.out ys (hord.congr MM.out)
        have B2 := hid (HN.out.trans (hb2.mono HN.out.size))
        have R2 := hid (RdE.of_owns ho2 (by omega))
        have HL := hid (show ys.length ≤ 65536 by omega)
        clear hb2 ho2 hord hyl
        go_wp2_with fail
        go_ret2
        exact ⟨_, rfl, R2.out, HL.out, B2.out⟩
  · have KR := hid (show keyR n fs = [] by unfold keyR; rw [if_neg hz])
    rw [KR.out]
    obtain ⟨ao, cap, rfl, -⟩ := hv.split
    have hq : (validF n fs != 0) = true := by simpa using hz
    clear hv hz KR
    generalize validF n fs = r at *
    go_enter Try.func26, Try.ntmps26
    go_wp2_with fail
    refine (V.out).mono ?_
    rintro e w' ⟨rfl, rfl⟩
    go_wp2_with fail
    go_ret2
    exact ⟨_, rfl, RdE.nil _ _, by simp, Below.refl _ _⟩

theorem refKPrime_any (n : Int) (fs : List F) (v : Value) (w : World) (hv : RdF w v fs) :
    Calls Try.prog 28 #[.int .i64 n, v] w fun e w' => e = .returned (.tuple #[enc (orL (keyR n fs)), .int .i64 (validF n fs)]) ∧ Below w.heap.size w w' := by
  have AL := hid (refKAll_any n fs v w hv)
  obtain ⟨ao, cap, rfl, -⟩ := hv.split
  clear hv
  generalize keyR n fs = ks at *
  generalize validF n fs = r at *
  simp only [enc_eq]
  go_enter Try.func28, Try.ntmps28
  go_wp2_with fail
  refine AL.out.mono ?_
  rintro e w1 ⟨v1, rfl, hr1, hl1, hb1⟩
  have B1 := hid hb1
  obtain ⟨ko, kcap, rfl, -, hkc⟩ := hr1.split
  have KC := hid hkc
  clear hr1 hb1 hkc
  go_wp2_with fail
  go_loop [8, 9] (fun o i => ∃ k : Nat, k ≤ ks.length ∧ i = .int .i64 k ∧ o = .int .u32 (iv (orL (ks.take k)))) (fun _ i => ks.length - (intOf i).toNat)
  case atStart => exact ⟨0, Nat.zero_le _, rfl, rfl⟩
  case round =>
    obtain ⟨k, hk, rfl, rfl⟩ := hrel
    by_cases hlt : k < ks.length
    · obtain ⟨x, hx⟩ := get_some hlt
      obtain ⟨b, off, rfl, hd⟩ := KC.out k x hx
      have e0 : w1.cell? ⟨b, off + k, none⟩ = some (.int .u32 (iv x)) := hd w1 (Below.refl _ _)
      have N := hid (orL_next hx)
      have k0 : (0 : Int) ≤ (k : Int) := by omega
      clear hd hx
      generalize orL (ks.take k) = o at *
      go_wp2_with fail
      go_round
      case rel => exact ⟨k + 1, by omega, by go_num, by rw [N.out]⟩
      case measure => simp [intOf]; omega
    · rw [take_all hlt]
      go_wp2_with fail
      go_ret2
      exact ⟨rfl, B1.out⟩

end Go.Proofs.Ytciamnkalmihcaa
