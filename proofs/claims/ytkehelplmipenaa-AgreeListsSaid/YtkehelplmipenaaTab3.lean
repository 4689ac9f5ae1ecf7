/- The walks of drossref03's Name, of slices.Contains over strings, of validValues and Valids. -/
import Derived.Test.YtkehelplmipenaaTab2
namespace Go.Proofs.Ytkehelplmipenaa
open Go.RowKit

theorem byteN_zero {s : ByteArray} (h : 0 < s.size) : (s[0]'h).toNat = byteN s 0 := byteN_at h

set_option maxHeartbeats 800000 in
theorem refName_any (s : ByteArray) (w : World) :
    Calls Try.prog 85 #[.string s] w fun e w' => e = .returned (.bool (nameB s)) ∧ w = w' := by
  have NB := hid (show nameB s = (!s.toList.isEmpty && decide (s.size ≤ 24) && !(s.toList == nullL) && !(List.range s.size).any (badC s)) from rfl)
  have LE := hid (fun (c : Nat) (W : World) => letter_any c W)
  have go : ∀ r : Bool, nameB s = r → Calls Try.prog 85 #[.string s] w fun e w' => e = .returned (.bool r) ∧ w = w' := by
    intro r hr
    rw [hr, empty_size] at NB
    clear hr
    by_cases hz : s.size = 0
    · have z0 : ((s.size : Int) == 0) = true := by rw [beq_iff_eq]; omega
      have RF := hid (show false = r by rw [NB.out, hz]; rfl)
      go_enter Try.func85, Try.ntmps85
      go_wp2_with fail
      go_ret
      exact ⟨ret_bool RF.out, rfl⟩
    · have z0 : ((s.size : Int) == 0) = false := by rw [beq_eq_false_iff_ne]; omega
      have zn : (s.size == 0) = false := by rw [beq_eq_false_iff_ne]; exact hz
      rw [zn] at NB
      have hp : 0 < s.size := by omega
      have hp1 : (0 : Int) < (s.size : Int) := by omega
      by_cases h24 : s.size ≤ 24
      · have d24 : decide ((s.size : Int) > 24) = false := by simp; omega
        rw [decide_eq_true h24] at NB
        have hb0 := fun h : 0 < s.size => byteN_zero h
        have BC := hid (fun k => show badC s k = !charB k (byteN s k) from rfl)
        have BL := hid (fun k (h : k < s.size) => byteN_at h)
        have L0 := hid (LE.out (byteN s 0))
        have C0 := hid (show charB 0 (byteN s 0) = letterB (byteN s 0) by unfold charB; simp)
        have R0 := hid (range_at hp)
        cases hl0 : letterB (byteN s 0) with
        | false =>
          rw [hl0] at L0 C0
          have RF := hid (show false = r by rw [NB.out, any_hit R0.out (by rw [BC.out, C0.out]; rfl)]; simp)
          clear hl0 NB
          generalize byteN s 0 = c0 at *
          go_enter Try.func85, Try.ntmps85
          go_wp2_with fail
          refine (L0.out _).mono ?_
          rintro e w' ⟨rfl, rfl⟩
          go_wp2_with fail
          go_ret
          exact ⟨ret_bool RF.out, rfl⟩
        | true =>
          rw [hl0] at L0
          have HL0 := hid hl0
          clear hl0 C0
          cases hn : (s.toList == nullL) with
          | true =>
            rw [hn] at NB
            have hn2 : s.toList = [110, 117, 108, 108] := by simpa [nullL] using hn
            have RF := hid (show false = r from NB.out.symm)
            clear hn NB HL0
            generalize byteN s 0 = c0 at *
            go_enter Try.func85, Try.ntmps85
            go_wp2_with fail
            refine (L0.out _).mono ?_
            rintro e w' ⟨rfl, rfl⟩
            go_wp2_with fail
            go_ret
            exact ⟨ret_bool RF.out, rfl⟩
          | false =>
            rw [hn] at NB
            have hn2 : (s.toList == [110, 117, 108, 108]) = false := hn
            have NB2 := hid (show r = !(List.range s.size).any (badC s) from NB.out)
            clear hn NB
            generalize hc00 : byteN s 0 = c0 at *
            have HC0 := hid hc00
            clear hc00
            go_enter Try.func85, Try.ntmps85
            go_wp2_with fail
            refine (L0.out _).mono ?_
            rintro e w' ⟨rfl, rfl⟩
            go_wp2_with fail
            clear hb0
            go_loop [3] (fun i => ∃ k : Nat, k ≤ s.size ∧ i = .int .i64 k ∧ Hid (((List.range s.size).take k).any (badC s) = false)) (fun i => s.size - (intOf i).toNat)
            case atStart => exact ⟨0, Nat.zero_le _, rfl, hid rfl⟩
            case round =>
              obtain ⟨k, hk, rfl, H⟩ := hrel
              by_cases hlt : k < s.size
              · have hb := fun h : k < s.size => BL.out k h
                have BC1 := hid (BC.out k)
                have RA := hid (range_at hlt)
                have L1 := hid (LE.out (byteN s k))
                have KZ := hid (fun h : k = 0 => show letterB (byteN s k) = true by rw [h, HC0.out]; exact HL0.out)
                have k0 : (0 : Int) ≤ (k : Int) := by omega
                have k1 : (k : Int) < (s.size : Int) := by omega
                generalize byteN s k = c at *
                have CB := hid (show charB k c = (letterB c || (k != 0 && digitB c)) from rfl)
                have DB := hid (show digitB c = (decide (48 ≤ c) && decide (c ≤ 57)) from rfl)
                have BAD := hid (fun h : badC s k = true => show false = r by rw [NB2.out, any_hit RA.out h]; rfl)
                have GOOD := hid (fun h : badC s k = false => none_next RA.out h H.out)
                cases hl : letterB c with
                | true =>
                  rw [hl] at L1
                  have G := hid (GOOD.out (by rw [BC1.out, CB.out, hl]; rfl))
                  clear BAD GOOD hl
                  go_wp2_with fail
                  refine (L1.out _).mono ?_
                  rintro e w' ⟨rfl, rfl⟩
                  go_wp2_with fail
                  go_round
                  case rel => exact ⟨k + 1, by omega, by go_num, hid G.out⟩
                  case measure => simp [intOf]; omega
                | false =>
                  rw [hl] at L1
                  have z1 : (k != 0) = true := by
                    rw [bne_iff_ne]; intro h
                    rw [KZ.out h] at hl; cases hl
                  by_cases h48 : c < 48
                  · have i6 : (c : Int) < 48 := by omega
                    have RF := hid (BAD.out (by rw [BC1.out, CB.out, hl, DB.out, decide_eq_false (show ¬ 48 ≤ c by omega)]; simp))
                    clear BAD GOOD hl z1
                    go_wp2_with fail
                    refine (L1.out _).mono ?_
                    rintro e w' ⟨rfl, rfl⟩
                    go_wp2_with fail
                    go_ret
                    exact ⟨ret_bool RF.out, rfl⟩
                  · have i6 : ¬ ((c : Int) < 48) := by omega
                    by_cases h57 : c ≤ 57
                    · have i7 : ¬ ((57 : Int) < (c : Int)) := by omega
                      have j7 : ¬ 57 < c := by omega
                      have G := hid (GOOD.out (by rw [BC1.out, CB.out, hl, DB.out, decide_eq_true (show 48 ≤ c by omega), decide_eq_true h57, z1]; rfl))
                      clear BAD GOOD hl z1
                      go_wp2_with fail
                      refine (L1.out _).mono ?_
                      rintro e w' ⟨rfl, rfl⟩
                      go_wp2_with fail
                      go_round
                      case rel => exact ⟨k + 1, by omega, by go_num, hid G.out⟩
                      case measure => simp [intOf]; omega
                    · have i7 : (57 : Int) < (c : Int) := by omega
                      have j7 : 57 < c := by omega
                      have RF := hid (BAD.out (by rw [BC1.out, CB.out, hl, DB.out, decide_eq_false h57]; simp))
                      clear BAD GOOD hl z1
                      go_wp2_with fail
                      refine (L1.out _).mono ?_
                      rintro e w' ⟨rfl, rfl⟩
                      go_wp2_with fail
                      go_ret
                      exact ⟨ret_bool RF.out, rfl⟩
              · have HA := hid (any_end H.out (by simpa using hlt))
                have RT := hid (show true = r by rw [NB2.out, HA.out]; rfl)
                go_wp2_with fail
                go_ret
                exact ⟨ret_bool RT.out, rfl⟩
      · have d24 : decide ((s.size : Int) > 24) = true := by simp; omega
        rw [decide_eq_false h24] at NB
        go_enter Try.func85, Try.ntmps85
        go_wp2_with fail
        go_ret
        exact ⟨ret_bool NB.out.symm, rfl⟩
  exact go _ rfl

/-! Strings in a list. -/
def eqT (s x : ByteArray) : Bool := s.toList == x.toList
theorem indexT_any (xs : List ByteArray) (s : ByteArray) (v : Value) (w : World) (hv : RdE encT w v xs) :
    Calls Try.prog 96 #[v, .string s] w fun e w' => (∃ n : Int, e = .returned (.int .i64 n) ∧ decide (0 ≤ n) = xs.any (eqT s)) ∧ w = w' := by
  obtain ⟨ao, cap, rfl, hl, hc⟩ := hv.split
  have FC := hid hc
  have ET := hid (fun x => show eqT s x = (s.toList == x.toList) from rfl)
  clear hv hc
  go_enter Try.func96, Try.ntmps96
  go_wp2_with fail
  go_loop [8] (fun i => ∃ k : Nat, k ≤ xs.length ∧ i = .int .i64 k ∧ Hid ((xs.take k).any (eqT s) = false)) (fun i => xs.length - (intOf i).toNat)
  case atStart => exact ⟨0, Nat.zero_le _, rfl, hid rfl⟩
  case round =>
    obtain ⟨k, hk, rfl, H⟩ := hrel
    by_cases hlt : k < xs.length
    · obtain ⟨x, hx⟩ := get_some hlt
      obtain ⟨b, off, rfl, hd⟩ := FC.out k x hx
      have e0 : w.cell? ⟨b, off + k, none⟩ = some (.string x) := hd w (Below.refl _ _)
      have k0 : (0 : Int) ≤ (k : Int) := by omega
      have E1 := hid (ET.out x)
      have X := hid hx
      clear hd hx
      cases hq : (s.toList == x.toList) with
      | true =>
        have P := hid (E1.out.trans hq)
        go_wp2_with fail
        go_ret
        exact ⟨⟨_, rfl, by rw [any_hit X.out P.out]; simp⟩, rfl⟩
      | false =>
        have P := hid (E1.out.trans hq)
        go_wp2_with fail
        go_round
        case rel => exact ⟨k + 1, by omega, by go_num, hid (none_next X.out P.out H.out)⟩
        case measure => simp [intOf]; omega
    · have HA := hid (any_end H.out hlt)
      go_wp2_with fail
      go_ret
      exact ⟨⟨_, rfl, by rw [HA.out]; rfl⟩, rfl⟩
theorem containsT_any (xs : List ByteArray) (s : ByteArray) (v : Value) (w : World) (hv : RdE encT w v xs) :
    Calls Try.prog 77 #[v, .string s] w fun e w' => e = .returned (.bool (xs.any (eqT s))) ∧ w = w' := by
  have C := hid (indexT_any xs s v w hv)
  obtain ⟨ao, cap, rfl, -⟩ := hv.split
  clear hv
  go_enter Try.func77, Try.ntmps77
  go_wp2_with fail
  refine C.out.mono ?_
  rintro e w' ⟨⟨n, rfl, hn⟩, rfl⟩
  have HN := hid hn
  clear hn
  go_wp2_with fail
  go_ret
  exact ⟨ret_bool (by rw [← HN.out]), rfl⟩
theorem refAttr_any (xs : List ByteArray) (s : ByteArray) (v : Value) (w : World) (hv : RdE encT w v xs) :
    Calls Try.prog 113 #[v, .string s] w fun e w' => (∃ n : Int, e = .returned (.int .i64 n) ∧ decide (0 ≤ n) = xs.any (eqT s)) ∧ w = w' := by
  obtain ⟨ao, cap, rfl, hl, hc⟩ := hv.split
  have FC := hid hc
  have ET := hid (fun x => show eqT s x = (s.toList == x.toList) from rfl)
  clear hv hc
  go_enter Try.func113, Try.ntmps113
  go_wp2_with fail
  go_loop [5] (fun i => ∃ k : Nat, k ≤ xs.length ∧ i = .int .i64 k ∧ Hid ((xs.take k).any (eqT s) = false)) (fun i => xs.length - (intOf i).toNat)
  case atStart => exact ⟨0, Nat.zero_le _, rfl, hid rfl⟩
  case round =>
    obtain ⟨k, hk, rfl, H⟩ := hrel
    by_cases hlt : k < xs.length
    · obtain ⟨x, hx⟩ := get_some hlt
      obtain ⟨b, off, rfl, hd⟩ := FC.out k x hx
      have e0 : w.cell? ⟨b, off + k, none⟩ = some (.string x) := hd w (Below.refl _ _)
      have k0 : (0 : Int) ≤ (k : Int) := by omega
      have E1 := hid (ET.out x)
      have X := hid hx
      clear hd hx
      cases hq : (s.toList == x.toList) with
      | true =>
        have P := hid (E1.out.trans hq)
        have hq2 : (x.toList == s.toList) = true := by rw [beq_iff_eq] at hq ⊢; exact hq.symm
        go_wp2_with fail
        go_ret
        exact ⟨⟨_, rfl, by rw [any_hit X.out P.out]; simp⟩, rfl⟩
      | false =>
        have P := hid (E1.out.trans hq)
        have hq2 : (x.toList == s.toList) = false := by rw [beq_eq_false_iff_ne] at hq ⊢; exact fun e => hq e.symm
        go_wp2_with fail
        go_round
        case rel => exact ⟨k + 1, by omega, by go_num, hid (none_next X.out P.out H.out)⟩
        case measure => simp [intOf]; omega
    · have HA := hid (any_end H.out hlt)
      go_wp2_with fail
      go_ret
      exact ⟨⟨_, rfl, by rw [HA.out]; rfl⟩, rfl⟩

/-! Values in a list. -/
def badV (x : V3) : Bool := !validV x
theorem validValues1_any (x : V3) (w : World) :
    Calls Try.prog 98 #[.agg #[.int .i64 x.1, .int .i64 x.2.1, .string x.2.2]] w fun e w' => e = .returned (.bool (badV x)) ∧ Below w.heap.size w w' := by
  have hb := hid (below_alloc w (.cells #[.int .i64 x.1, .int .i64 x.2.1, .string x.2.2] 64))
  have C := hid (value_valid x (w.alloc (.cells #[.int .i64 x.1, .int .i64 x.2.1, .string x.2.2] 64)))
  have E := hid (show badV x = !validV x from rfl)
  rw [E.out]
  generalize validV x = r at *
  go_enter Try.func98, Try.ntmps98
  go_wp2_with fail
  refine C.out.mono ?_
  rintro e w1 ⟨rfl, hb1⟩
  have B1 := hid (hb.out.trans (hb1.mono hb.out.size))
  clear hb1
  go_wp2_with fail
  go_ret
  exact ⟨rfl, B1.out⟩
theorem indexFuncV (xs : List V3) (v : Value) (w : World) (hv : RdV w v xs) :
    Calls Try.prog 116 #[v, .func (.func 98) #[] #[]] w fun e w' => (∃ n : Int, e = .returned (.int .i64 n) ∧ decide (0 ≤ n) = xs.any badV) ∧ Below w.heap.size w w' := by
  have G := hid (fun (x : V3) (W : World) => validValues1_any x W)
  have eg := enters _ _ _ Try.func98 (by kernel_rfl) rfl
  obtain ⟨ao, cap, rfl, hl, hc⟩ := RdV.split hv
  have FC := hid hc
  clear hv hc
  go_enter Try.func116, Try.ntmps116
  go_wp2_with fail
  go_loopw [8] (fun i wr => ∃ k : Nat, k ≤ xs.length ∧ i = .int .i64 k ∧ Below w.heap.size w wr ∧ Hid ((xs.take k).any badV = false)) (fun i _ => xs.length - (intOf i).toNat)
  case atStart => exact ⟨0, Nat.zero_le _, rfl, Below.refl _ _, hid rfl⟩
  case round =>
    obtain ⟨k, hk, rfl, hnx, H⟩ := hrel
    by_cases hlt : k < xs.length
    · obtain ⟨x, hx⟩ := get_some hlt
      obtain ⟨b, off, rfl, hd⟩ := FC.out k x hx
      obtain ⟨e0, e1, e2⟩ := hd wr hnx
      have C := hid (G.out x wr)
      have X := hid hx
      have HN := hid hnx
      clear hd hx hnx
      cases hp : badV x with
      | true =>
        rw [hp] at C
        have P1 := hid hp
        clear hp
        go_wp2_with fail
        refine C.out.mono ?_
        rintro e w1 ⟨rfl, hb1⟩
        have B1 := hid (HN.out.trans (hb1.mono HN.out.size))
        clear hb1
        go_wp2_with fail
        go_ret
        exact ⟨⟨_, rfl, by rw [any_hit X.out P1.out]; simp⟩, B1.out⟩
      | false =>
        rw [hp] at C
        have P1 := hid hp
        clear hp
        go_wp2_with fail
        refine C.out.mono ?_
        rintro e w1 ⟨rfl, hb1⟩
        have B1 := hid (HN.out.trans (hb1.mono HN.out.size))
        clear hb1
        go_wp2_with fail
        go_roundw
        case rel => exact ⟨k + 1, by omega, by go_num, B1.out, hid (none_next X.out P1.out H.out)⟩
        case measure => simp [intOf]; omega
    · have HA := hid (any_end H.out hlt)
      have HN := hid hnx
      clear hnx
      go_wp2_with fail
      go_ret
      exact ⟨⟨_, rfl, by rw [HA.out]; rfl⟩, HN.out⟩
theorem validValues_any (xs : List V3) (v : Value) (w : World) (hv : RdV w v xs) :
    Calls Try.prog 78 #[v] w fun e w' => e = .returned (.bool (!xs.any badV)) ∧ Below w.heap.size w w' := by
  have C := hid (indexFuncV xs v w hv)
  have D := hid (show Calls Try.prog 97 #[v, .func (.func 98) #[] #[]] w fun e w' => e = .returned (.bool (xs.any badV)) ∧ Below w.heap.size w w' by
    obtain ⟨ao, cap, rfl, -⟩ := RdV.split hv
    clear hv
    go_enter Try.func97, Try.ntmps97
    go_wp2_with fail
    refine C.out.mono ?_
    rintro e w1 ⟨⟨n, rfl, hn⟩, hb1⟩
    have HN := hid hn
    have B1 := hid hb1
    clear hn hb1
    go_wp2_with fail
    go_ret
    exact ⟨ret_bool (by rw [← HN.out]), B1.out⟩)
  obtain ⟨ao, cap, rfl, -⟩ := RdV.split hv
  clear hv C
  generalize xs.any badV = r at *
  go_enter Try.func78, Try.ntmps78
  go_wp2_with fail
  refine D.out.mono ?_
  rintro e w1 ⟨rfl, hb1⟩
  have B1 := hid hb1
  clear hb1
  go_wp2_with fail
  go_ret
  exact ⟨rfl, B1.out⟩
theorem refValids_any (xs : List V3) (v : Value) (w : World) (hv : RdV w v xs) :
    Calls Try.prog 87 #[v] w fun e w' => e = .returned (.bool (!xs.any badV)) ∧ Below w.heap.size w w' := by
  have G := hid (fun (x : V3) (W : World) => refValue_valid x W)
  have BV := hid (fun x => show badV x = !validV x from rfl)
  obtain ⟨ao, cap, rfl, hl, hc⟩ := RdV.split hv
  have FC := hid hc
  clear hv hc
  go_enter Try.func87, Try.ntmps87
  go_wp2_with fail
  go_loopw [3] (fun i wr => ∃ k : Nat, k ≤ xs.length ∧ i = .int .i64 k ∧ Below w.heap.size w wr ∧ Hid ((xs.take k).any badV = false)) (fun i _ => xs.length - (intOf i).toNat)
  case atStart => exact ⟨0, Nat.zero_le _, rfl, Below.refl _ _, hid rfl⟩
  case round =>
    obtain ⟨k, hk, rfl, hnx, H⟩ := hrel
    by_cases hlt : k < xs.length
    · obtain ⟨x, hx⟩ := get_some hlt
      obtain ⟨b, off, rfl, hd⟩ := FC.out k x hx
      obtain ⟨e0, e1, e2⟩ := hd wr hnx
      have C := hid (G.out x wr)
      have B0 := hid (BV.out x)
      have X := hid hx
      have HN := hid hnx
      have k0 : (0 : Int) ≤ (k : Int) := by omega
      clear hd hx hnx
      cases hp : validV x with
      | false =>
        rw [hp] at C B0
        clear hp
        go_wp2_with fail
        refine C.out.mono ?_
        rintro e w1 ⟨rfl, hb1⟩
        have B1 := hid (HN.out.trans (hb1.mono HN.out.size))
        clear hb1
        go_wp2_with fail
        go_ret
        exact ⟨ret_bool (by rw [any_hit X.out B0.out]; rfl), B1.out⟩
      | true =>
        rw [hp] at C B0
        clear hp
        go_wp2_with fail
        refine C.out.mono ?_
        rintro e w1 ⟨rfl, hb1⟩
        have B1 := hid (HN.out.trans (hb1.mono HN.out.size))
        clear hb1
        go_wp2_with fail
        go_roundw
        case rel => exact ⟨k + 1, by omega, by go_num, B1.out, hid (none_next X.out B0.out H.out)⟩
        case measure => simp [intOf]; omega
    · have HA := hid (any_end H.out hlt)
      have HN := hid hnx
      clear hnx
      go_wp2_with fail
      go_ret
      exact ⟨ret_bool (by rw [HA.out]; rfl), HN.out⟩

end Go.Proofs.Ytkehelplmipenaa
