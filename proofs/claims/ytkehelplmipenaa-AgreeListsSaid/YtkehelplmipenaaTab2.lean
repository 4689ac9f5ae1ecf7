/- Names: the walks of isName and of its reference. -/
import Derived.Test.YtkehelplmipenaaTab1
namespace Go.Proofs.Ytkehelplmipenaa
open Go.RowKit
set_option linter.unusedVariables false

def byteN (s : ByteArray) (k : Nat) : Nat := if h : k < s.size then (s[k]'h).toNat else 0
theorem byteN_at {s : ByteArray} {k : Nat} (h : k < s.size) : (s[k]'h).toNat = byteN s k := by unfold byteN; rw [dif_pos h]
theorem byteN_lt (s : ByteArray) (k : Nat) : byteN s k < 256 := by
  unfold byteN
  split
  · exact UInt8.toNat_lt _
  · omega
def letterB (c : Nat) : Bool := (decide (97 ≤ c) && decide (c ≤ 122)) || (decide (65 ≤ c) && decide (c ≤ 90)) || c == 95
def digitB (c : Nat) : Bool := decide (48 ≤ c) && decide (c ≤ 57)
def charB (k c : Nat) : Bool := letterB c || (k != 0 && digitB c)
/-- What the comparisons of a byte say, range by range. -/
theorem byte_cases (c : Nat) : (97 ≤ c ∧ c ≤ 122) ∨ (122 < c) ∨ (65 ≤ c ∧ c ≤ 90) ∨ (c = 95) ∨ (90 < c ∧ c < 97 ∧ c ≠ 95) ∨ (48 ≤ c ∧ c ≤ 57) ∨ (57 < c ∧ c < 65) ∨ c < 48 := by omega

theorem letter_any (c : Nat) (w : World) :
    Calls Try.prog 112 #[.int .u8 (c : Int)] w fun e w' => e = .returned (.bool (letterB c)) ∧ w = w' := by
  rcases byte_cases c with ⟨h1, h2⟩ | h1 | ⟨h1, h2⟩ | h1 | ⟨h1, h2, h3⟩ | ⟨h1, h2⟩ | ⟨h1, h2⟩ | h1
  · have i1 : (97 : Int) ≤ (c : Int) := by omega
    have i2 : (c : Int) ≤ 122 := by omega
    have i3 : (65 : Int) ≤ (c : Int) := by omega
    have i4 : ¬ ((c : Int) ≤ 90) := by omega
    have i6 : ¬ ((c : Int) < 48) := by omega
    have i7 : (57 : Int) < (c : Int) := by omega
    have j1 : 97 ≤ c := by omega
    have j2 : c ≤ 122 := by omega
    have j3 : 65 ≤ c := by omega
    have j4 : ¬ (c ≤ 90) := by omega
    have j6 : ¬ (c < 48) := by omega
    have j7 : 57 < c := by omega
    have i5 : ((c : Int) == 95) = false := by rw [beq_eq_false_iff_ne]; omega
    have j5 : (c == 95) = false := by rw [beq_eq_false_iff_ne]; omega
    have e : letterB c = true := by unfold letterB; simp [j1, j2, j3, j4, j5]
    rw [e]
    go_enter Try.func112, Try.ntmps112
    go_wp2_with fail
    go_ret
    exact ⟨rfl, rfl⟩
  · have i1 : (97 : Int) ≤ (c : Int) := by omega
    have i2 : ¬ ((c : Int) ≤ 122) := by omega
    have i3 : (65 : Int) ≤ (c : Int) := by omega
    have i4 : ¬ ((c : Int) ≤ 90) := by omega
    have i6 : ¬ ((c : Int) < 48) := by omega
    have i7 : (57 : Int) < (c : Int) := by omega
    have j1 : 97 ≤ c := by omega
    have j2 : ¬ (c ≤ 122) := by omega
    have j3 : 65 ≤ c := by omega
    have j4 : ¬ (c ≤ 90) := by omega
    have j6 : ¬ (c < 48) := by omega
    have j7 : 57 < c := by omega
    have i5 : ((c : Int) == 95) = false := by rw [beq_eq_false_iff_ne]; omega
    have j5 : (c == 95) = false := by rw [beq_eq_false_iff_ne]; omega
    have e : letterB c = false := by unfold letterB; simp [j1, j2, j3, j4, j5]
    rw [e]
    go_enter Try.func112, Try.ntmps112
    go_wp2_with fail
    go_ret
    exact ⟨rfl, rfl⟩
  · have i1 : ¬ ((97 : Int) ≤ (c : Int)) := by omega
    have i2 : (c : Int) ≤ 122 := by omega
    have i3 : (65 : Int) ≤ (c : Int) := by omega
    have i4 : (c : Int) ≤ 90 := by omega
    have i6 : ¬ ((c : Int) < 48) := by omega
    have i7 : (57 : Int) < (c : Int) := by omega
    have j1 : ¬ (97 ≤ c) := by omega
    have j2 : c ≤ 122 := by omega
    have j3 : 65 ≤ c := by omega
    have j4 : c ≤ 90 := by omega
    have j6 : ¬ (c < 48) := by omega
    have j7 : 57 < c := by omega
    have i5 : ((c : Int) == 95) = false := by rw [beq_eq_false_iff_ne]; omega
    have j5 : (c == 95) = false := by rw [beq_eq_false_iff_ne]; omega
    have e : letterB c = true := by unfold letterB; simp [j1, j2, j3, j4, j5]
    rw [e]
    go_enter Try.func112, Try.ntmps112
    go_wp2_with fail
    go_ret
    exact ⟨rfl, rfl⟩
  · have i1 : ¬ ((97 : Int) ≤ (c : Int)) := by omega
    have i2 : (c : Int) ≤ 122 := by omega
    have i3 : (65 : Int) ≤ (c : Int) := by omega
    have i4 : ¬ ((c : Int) ≤ 90) := by omega
    have i6 : ¬ ((c : Int) < 48) := by omega
    have i7 : (57 : Int) < (c : Int) := by omega
    have j1 : ¬ (97 ≤ c) := by omega
    have j2 : c ≤ 122 := by omega
    have j3 : 65 ≤ c := by omega
    have j4 : ¬ (c ≤ 90) := by omega
    have j6 : ¬ (c < 48) := by omega
    have j7 : 57 < c := by omega
    have i5 : ((c : Int) == 95) = true := by rw [beq_iff_eq]; omega
    have j5 : (c == 95) = true := by rw [beq_iff_eq]; omega
    have e : letterB c = true := by unfold letterB; simp [j1, j2, j3, j4, j5]
    rw [e]
    go_enter Try.func112, Try.ntmps112
    go_wp2_with fail
    go_ret
    exact ⟨rfl, rfl⟩
  · have i1 : ¬ ((97 : Int) ≤ (c : Int)) := by omega
    have i2 : (c : Int) ≤ 122 := by omega
    have i3 : (65 : Int) ≤ (c : Int) := by omega
    have i4 : ¬ ((c : Int) ≤ 90) := by omega
    have i6 : ¬ ((c : Int) < 48) := by omega
    have i7 : (57 : Int) < (c : Int) := by omega
    have j1 : ¬ (97 ≤ c) := by omega
    have j2 : c ≤ 122 := by omega
    have j3 : 65 ≤ c := by omega
    have j4 : ¬ (c ≤ 90) := by omega
    have j6 : ¬ (c < 48) := by omega
    have j7 : 57 < c := by omega
    have i5 : ((c : Int) == 95) = false := by rw [beq_eq_false_iff_ne]; omega
    have j5 : (c == 95) = false := by rw [beq_eq_false_iff_ne]; omega
    have e : letterB c = false := by unfold letterB; simp [j1, j2, j3, j4, j5]
    rw [e]
    go_enter Try.func112, Try.ntmps112
    go_wp2_with fail
    go_ret
    exact ⟨rfl, rfl⟩
  · have i1 : ¬ ((97 : Int) ≤ (c : Int)) := by omega
    have i2 : (c : Int) ≤ 122 := by omega
    have i3 : ¬ ((65 : Int) ≤ (c : Int)) := by omega
    have i4 : (c : Int) ≤ 90 := by omega
    have i6 : ¬ ((c : Int) < 48) := by omega
    have i7 : ¬ ((57 : Int) < (c : Int)) := by omega
    have j1 : ¬ (97 ≤ c) := by omega
    have j2 : c ≤ 122 := by omega
    have j3 : ¬ (65 ≤ c) := by omega
    have j4 : c ≤ 90 := by omega
    have j6 : ¬ (c < 48) := by omega
    have j7 : ¬ (57 < c) := by omega
    have i5 : ((c : Int) == 95) = false := by rw [beq_eq_false_iff_ne]; omega
    have j5 : (c == 95) = false := by rw [beq_eq_false_iff_ne]; omega
    have e : letterB c = false := by unfold letterB; simp [j1, j2, j3, j4, j5]
    rw [e]
    go_enter Try.func112, Try.ntmps112
    go_wp2_with fail
    go_ret
    exact ⟨rfl, rfl⟩
  · have i1 : ¬ ((97 : Int) ≤ (c : Int)) := by omega
    have i2 : (c : Int) ≤ 122 := by omega
    have i3 : ¬ ((65 : Int) ≤ (c : Int)) := by omega
    have i4 : (c : Int) ≤ 90 := by omega
    have i6 : ¬ ((c : Int) < 48) := by omega
    have i7 : (57 : Int) < (c : Int) := by omega
    have j1 : ¬ (97 ≤ c) := by omega
    have j2 : c ≤ 122 := by omega
    have j3 : ¬ (65 ≤ c) := by omega
    have j4 : c ≤ 90 := by omega
    have j6 : ¬ (c < 48) := by omega
    have j7 : 57 < c := by omega
    have i5 : ((c : Int) == 95) = false := by rw [beq_eq_false_iff_ne]; omega
    have j5 : (c == 95) = false := by rw [beq_eq_false_iff_ne]; omega
    have e : letterB c = false := by unfold letterB; simp [j1, j2, j3, j4, j5]
    rw [e]
    go_enter Try.func112, Try.ntmps112
    go_wp2_with fail
    go_ret
    exact ⟨rfl, rfl⟩
  · have i1 : ¬ ((97 : Int) ≤ (c : Int)) := by omega
    have i2 : (c : Int) ≤ 122 := by omega
    have i3 : ¬ ((65 : Int) ≤ (c : Int)) := by omega
    have i4 : (c : Int) ≤ 90 := by omega
    have i6 : (c : Int) < 48 := by omega
    have i7 : ¬ ((57 : Int) < (c : Int)) := by omega
    have j1 : ¬ (97 ≤ c) := by omega
    have j2 : c ≤ 122 := by omega
    have j3 : ¬ (65 ≤ c) := by omega
    have j4 : c ≤ 90 := by omega
    have j6 : c < 48 := by omega
    have j7 : ¬ (57 < c) := by omega
    have i5 : ((c : Int) == 95) = false := by rw [beq_eq_false_iff_ne]; omega
    have j5 : (c == 95) = false := by rw [beq_eq_false_iff_ne]; omega
    have e : letterB c = false := by unfold letterB; simp [j1, j2, j3, j4, j5]
    rw [e]
    go_enter Try.func112, Try.ntmps112
    go_wp2_with fail
    go_ret
    exact ⟨rfl, rfl⟩

/-! Names. -/
def nullL : List UInt8 := [110, 117, 108, 108]
def badC (s : ByteArray) (k : Nat) : Bool := !charB k (byteN s k)
def nameB (s : ByteArray) : Bool := !s.toList.isEmpty && decide (s.size ≤ 24) && !(s.toList == nullL) && !(List.range s.size).any (badC s)
theorem empty_size (s : ByteArray) : s.toList.isEmpty = (s.size == 0) := by
  rw [ByteArray.toList_eq]
  have : s.size = s.data.toList.length := by rw [Array.length_toList]; rfl
  rw [this]
  cases s.data.toList <;> rfl
theorem range_at {n k : Nat} (h : k < n) : (List.range n)[k]? = some k := by rw [List.getElem?_range h]

set_option maxHeartbeats 3200000 in
theorem isName_any (s : ByteArray) (w : World) :
    Calls Try.prog 76 #[.string s] w fun e w' => e = .returned (.bool (nameB s)) ∧ w = w' := by
  have NB := hid (show nameB s = (!s.toList.isEmpty && decide (s.size ≤ 24) && !(s.toList == nullL) && !(List.range s.size).any (badC s)) from rfl)
  have go : ∀ r : Bool, nameB s = r → Calls Try.prog 76 #[.string s] w fun e w' => e = .returned (.bool r) ∧ w = w' := by
    intro r hr
    rw [hr] at NB
    clear hr
    cases he : s.toList.isEmpty with
    | true =>
      rw [he] at NB
      go_enter Try.func76, Try.ntmps76
      go_wp2_with fail
      go_ret
      exact ⟨ret_bool NB.out.symm, rfl⟩
    | false =>
      rw [he] at NB
      by_cases h24 : s.size ≤ 24
      · have d24 : decide ((s.size : Int) > 24) = false := by simp; omega
        rw [decide_eq_true h24] at NB
        cases hn : (s.toList == nullL) with
        | true =>
          rw [hn] at NB
          have hn2 : s.toList = [110, 117, 108, 108] := by simpa [nullL] using hn
          go_enter Try.func76, Try.ntmps76
          go_wp2_with fail
          go_ret
          exact ⟨ret_bool NB.out.symm, rfl⟩
        | false =>
          rw [hn] at NB
          have hn2 : (s.toList == [110, 117, 108, 108]) = false := hn
          have NB2 := hid (show r = !(List.range s.size).any (badC s) from NB.out)
          have BC := hid (fun k => show badC s k = !charB k (byteN s k) from rfl)
          have BL := hid (byteN_lt s)
          clear hn NB
          go_enter Try.func76, Try.ntmps76
          go_wp2_with fail
          go_loop [19] (fun i => ∃ k : Nat, k ≤ s.size ∧ i = .int .i64 k ∧ Hid (((List.range s.size).take k).any (badC s) = false)) (fun i => s.size - (intOf i).toNat)
          case atStart => exact ⟨0, Nat.zero_le _, rfl, hid rfl⟩
          case round =>
            obtain ⟨k, hk, rfl, H⟩ := hrel
            by_cases hlt : k < s.size
            · have hb := fun h : k < s.size => byteN_at h
              have BC1 := hid (BC.out k)
              have RA := hid (range_at hlt)
              have hcl := BL.out k
              have k0 : (0 : Int) ≤ (k : Int) := by omega
              have k1 : (k : Int) < (s.size : Int) := by omega
              generalize byteN s k = c at *
              have CB := hid (show charB k c = (letterB c || (k != 0 && digitB c)) from rfl)
              have LB := hid (show letterB c = ((decide (97 ≤ c) && decide (c ≤ 122)) || (decide (65 ≤ c) && decide (c ≤ 90)) || c == 95) from rfl)
              have DB := hid (show digitB c = (decide (48 ≤ c) && decide (c ≤ 57)) from rfl)
              have BAD := hid (fun h : badC s k = true => show false = r by rw [NB2.out, any_hit RA.out h]; rfl)
              have GOOD := hid (fun h : badC s k = false => none_next RA.out h H.out)
              rcases byte_cases c with ⟨h1, h2⟩ | h1 | ⟨h1, h2⟩ | h1 | ⟨h1, h2, h3⟩ | ⟨h1, h2⟩ | ⟨h1, h2⟩ | h1
              · have i1 : (97 : Int) ≤ (c : Int) := by omega
                have i2 : (c : Int) ≤ 122 := by omega
                have i3 : (65 : Int) ≤ (c : Int) := by omega
                have i4 : ¬ ((c : Int) ≤ 90) := by omega
                have i6 : ¬ ((c : Int) < 48) := by omega
                have i7 : (57 : Int) < (c : Int) := by omega
                have j1 : 97 ≤ c := by omega
                have j2 : c ≤ 122 := by omega
                have j3 : 65 ≤ c := by omega
                have j4 : ¬ (c ≤ 90) := by omega
                have j6 : ¬ (c < 48) := by omega
                have j7 : 57 < c := by omega
                have i5 : ((c : Int) == 95) = false := by rw [beq_eq_false_iff_ne]; omega
                have j5 : (c == 95) = false := by rw [beq_eq_false_iff_ne]; omega
                have e : letterB c = true := by rw [LB.out]; simp [j1, j2, j3, j4, j5]
                have G := hid (GOOD.out (by rw [BC1.out, CB.out, e]; rfl))
                clear BAD GOOD e
                go_wp2_with fail
                go_round
                case rel => exact ⟨k + 1, by omega, by go_num, hid G.out⟩
                case measure => simp [intOf]; omega
              · have i1 : (97 : Int) ≤ (c : Int) := by omega
                have i2 : ¬ ((c : Int) ≤ 122) := by omega
                have i3 : (65 : Int) ≤ (c : Int) := by omega
                have i4 : ¬ ((c : Int) ≤ 90) := by omega
                have i6 : ¬ ((c : Int) < 48) := by omega
                have i7 : (57 : Int) < (c : Int) := by omega
                have j1 : 97 ≤ c := by omega
                have j2 : ¬ (c ≤ 122) := by omega
                have j3 : 65 ≤ c := by omega
                have j4 : ¬ (c ≤ 90) := by omega
                have j6 : ¬ (c < 48) := by omega
                have j7 : 57 < c := by omega
                have i5 : ((c : Int) == 95) = false := by rw [beq_eq_false_iff_ne]; omega
                have j5 : (c == 95) = false := by rw [beq_eq_false_iff_ne]; omega
                have e : letterB c = false := by rw [LB.out]; simp [j1, j2, j3, j4, j5]
                have ed : digitB c = false := by rw [DB.out]; simp <;> omega
                by_cases hk0 : k = 0
                · have z0 : ((k : Int) == 0) = true := by rw [beq_iff_eq]; omega
                  have RF := hid (BAD.out (by rw [BC1.out, CB.out, e, hk0]; rfl))
                  clear BAD GOOD e ed hk0
                  go_wp2_with fail
                  go_ret
                  exact ⟨ret_bool RF.out, rfl⟩
                · have z0 : ((k : Int) == 0) = false := by rw [beq_eq_false_iff_ne]; omega
                  have z1 : (k != 0) = true := by simpa using hk0
                  have RF := hid (BAD.out (by rw [BC1.out, CB.out, e, ed]; simp))
                  clear BAD GOOD e ed z1
                  go_wp2_with fail
                  go_ret
                  exact ⟨ret_bool RF.out, rfl⟩
              · have i1 : ¬ ((97 : Int) ≤ (c : Int)) := by omega
                have i2 : (c : Int) ≤ 122 := by omega
                have i3 : (65 : Int) ≤ (c : Int) := by omega
                have i4 : (c : Int) ≤ 90 := by omega
                have i6 : ¬ ((c : Int) < 48) := by omega
                have i7 : (57 : Int) < (c : Int) := by omega
                have j1 : ¬ (97 ≤ c) := by omega
                have j2 : c ≤ 122 := by omega
                have j3 : 65 ≤ c := by omega
                have j4 : c ≤ 90 := by omega
                have j6 : ¬ (c < 48) := by omega
                have j7 : 57 < c := by omega
                have i5 : ((c : Int) == 95) = false := by rw [beq_eq_false_iff_ne]; omega
                have j5 : (c == 95) = false := by rw [beq_eq_false_iff_ne]; omega
                have e : letterB c = true := by rw [LB.out]; simp [j1, j2, j3, j4, j5]
                have G := hid (GOOD.out (by rw [BC1.out, CB.out, e]; rfl))
                clear BAD GOOD e
                go_wp2_with fail
                go_round
                case rel => exact ⟨k + 1, by omega, by go_num, hid G.out⟩
                case measure => simp [intOf]; omega
              · have i1 : ¬ ((97 : Int) ≤ (c : Int)) := by omega
                have i2 : (c : Int) ≤ 122 := by omega
                have i3 : (65 : Int) ≤ (c : Int) := by omega
                have i4 : ¬ ((c : Int) ≤ 90) := by omega
                have i6 : ¬ ((c : Int) < 48) := by omega
                have i7 : (57 : Int) < (c : Int) := by omega
                have j1 : ¬ (97 ≤ c) := by omega
                have j2 : c ≤ 122 := by omega
                have j3 : 65 ≤ c := by omega
                have j4 : ¬ (c ≤ 90) := by omega
                have j6 : ¬ (c < 48) := by omega
                have j7 : 57 < c := by omega
                have i5 : ((c : Int) == 95) = true := by rw [beq_iff_eq]; omega
                have j5 : (c == 95) = true := by rw [beq_iff_eq]; omega
                have e : letterB c = true := by rw [LB.out]; simp [j1, j2, j3, j4, j5]
                have G := hid (GOOD.out (by rw [BC1.out, CB.out, e]; rfl))
                clear BAD GOOD e
                go_wp2_with fail
                go_round
                case rel => exact ⟨k + 1, by omega, by go_num, hid G.out⟩
                case measure => simp [intOf]; omega
              · have i1 : ¬ ((97 : Int) ≤ (c : Int)) := by omega
                have i2 : (c : Int) ≤ 122 := by omega
                have i3 : (65 : Int) ≤ (c : Int) := by omega
                have i4 : ¬ ((c : Int) ≤ 90) := by omega
                have i6 : ¬ ((c : Int) < 48) := by omega
                have i7 : (57 : Int) < (c : Int) := by omega
                have j1 : ¬ (97 ≤ c) := by omega
                have j2 : c ≤ 122 := by omega
                have j3 : 65 ≤ c := by omega
                have j4 : ¬ (c ≤ 90) := by omega
                have j6 : ¬ (c < 48) := by omega
                have j7 : 57 < c := by omega
                have i5 : ((c : Int) == 95) = false := by rw [beq_eq_false_iff_ne]; omega
                have j5 : (c == 95) = false := by rw [beq_eq_false_iff_ne]; omega
                have e : letterB c = false := by rw [LB.out]; simp [j1, j2, j3, j4, j5]
                have ed : digitB c = false := by rw [DB.out]; simp <;> omega
                by_cases hk0 : k = 0
                · have z0 : ((k : Int) == 0) = true := by rw [beq_iff_eq]; omega
                  have RF := hid (BAD.out (by rw [BC1.out, CB.out, e, hk0]; rfl))
                  clear BAD GOOD e ed hk0
                  go_wp2_with fail
                  go_ret
                  exact ⟨ret_bool RF.out, rfl⟩
                · have z0 : ((k : Int) == 0) = false := by rw [beq_eq_false_iff_ne]; omega
                  have z1 : (k != 0) = true := by simpa using hk0
                  have RF := hid (BAD.out (by rw [BC1.out, CB.out, e, ed]; simp))
                  clear BAD GOOD e ed z1
                  go_wp2_with fail
                  go_ret
                  exact ⟨ret_bool RF.out, rfl⟩
              · have i1 : ¬ ((97 : Int) ≤ (c : Int)) := by omega
                have i2 : (c : Int) ≤ 122 := by omega
                have i3 : ¬ ((65 : Int) ≤ (c : Int)) := by omega
                have i4 : (c : Int) ≤ 90 := by omega
                have i6 : ¬ ((c : Int) < 48) := by omega
                have i7 : ¬ ((57 : Int) < (c : Int)) := by omega
                have j1 : ¬ (97 ≤ c) := by omega
                have j2 : c ≤ 122 := by omega
                have j3 : ¬ (65 ≤ c) := by omega
                have j4 : c ≤ 90 := by omega
                have j6 : ¬ (c < 48) := by omega
                have j7 : ¬ (57 < c) := by omega
                have i5 : ((c : Int) == 95) = false := by rw [beq_eq_false_iff_ne]; omega
                have j5 : (c == 95) = false := by rw [beq_eq_false_iff_ne]; omega
                have e : letterB c = false := by rw [LB.out]; simp [j1, j2, j3, j4, j5]
                have ed : digitB c = true := by rw [DB.out]; simp <;> omega
                by_cases hk0 : k = 0
                · have z0 : ((k : Int) == 0) = true := by rw [beq_iff_eq]; omega
                  have RF := hid (BAD.out (by rw [BC1.out, CB.out, e, hk0]; rfl))
                  clear BAD GOOD e ed hk0
                  go_wp2_with fail
                  go_ret
                  exact ⟨ret_bool RF.out, rfl⟩
                · have z0 : ((k : Int) == 0) = false := by rw [beq_eq_false_iff_ne]; omega
                  have z1 : (k != 0) = true := by simpa using hk0
                  have G := hid (GOOD.out (by rw [BC1.out, CB.out, e, ed, z1]; rfl))
                  clear BAD GOOD e ed z1
                  go_wp2_with fail
                  go_round
                  case rel => exact ⟨k + 1, by omega, by go_num, hid G.out⟩
                  case measure => simp [intOf]; omega
              · have i1 : ¬ ((97 : Int) ≤ (c : Int)) := by omega
                have i2 : (c : Int) ≤ 122 := by omega
                have i3 : ¬ ((65 : Int) ≤ (c : Int)) := by omega
                have i4 : (c : Int) ≤ 90 := by omega
                have i6 : ¬ ((c : Int) < 48) := by omega
                have i7 : (57 : Int) < (c : Int) := by omega
                have j1 : ¬ (97 ≤ c) := by omega
                have j2 : c ≤ 122 := by omega
                have j3 : ¬ (65 ≤ c) := by omega
                have j4 : c ≤ 90 := by omega
                have j6 : ¬ (c < 48) := by omega
                have j7 : 57 < c := by omega
                have i5 : ((c : Int) == 95) = false := by rw [beq_eq_false_iff_ne]; omega
                have j5 : (c == 95) = false := by rw [beq_eq_false_iff_ne]; omega
                have e : letterB c = false := by rw [LB.out]; simp [j1, j2, j3, j4, j5]
                have ed : digitB c = false := by rw [DB.out]; simp <;> omega
                by_cases hk0 : k = 0
                · have z0 : ((k : Int) == 0) = true := by rw [beq_iff_eq]; omega
                  have RF := hid (BAD.out (by rw [BC1.out, CB.out, e, hk0]; rfl))
                  clear BAD GOOD e ed hk0
                  go_wp2_with fail
                  go_ret
                  exact ⟨ret_bool RF.out, rfl⟩
                · have z0 : ((k : Int) == 0) = false := by rw [beq_eq_false_iff_ne]; omega
                  have z1 : (k != 0) = true := by simpa using hk0
                  have RF := hid (BAD.out (by rw [BC1.out, CB.out, e, ed]; simp))
                  clear BAD GOOD e ed z1
                  go_wp2_with fail
                  go_ret
                  exact ⟨ret_bool RF.out, rfl⟩
              · have i1 : ¬ ((97 : Int) ≤ (c : Int)) := by omega
                have i2 : (c : Int) ≤ 122 := by omega
                have i3 : ¬ ((65 : Int) ≤ (c : Int)) := by omega
                have i4 : (c : Int) ≤ 90 := by omega
                have i6 : (c : Int) < 48 := by omega
                have i7 : ¬ ((57 : Int) < (c : Int)) := by omega
                have j1 : ¬ (97 ≤ c) := by omega
                have j2 : c ≤ 122 := by omega
                have j3 : ¬ (65 ≤ c) := by omega
                have j4 : c ≤ 90 := by omega
                have j6 : c < 48 := by omega
                have j7 : ¬ (57 < c) := by omega
                have i5 : ((c : Int) == 95) = false := by rw [beq_eq_false_iff_ne]; omega
                have j5 : (c == 95) = false := by rw [beq_eq_false_iff_ne]; omega
                have e : letterB c = false := by rw [LB.out]; simp [j1, j2, j3, j4, j5]
                have ed : digitB c = false := by rw [DB.out]; simp <;> omega
                by_cases hk0 : k = 0
                · have z0 : ((k : Int) == 0) = true := by rw [beq_iff_eq]; omega
                  have RF := hid (BAD.out (by rw [BC1.out, CB.out, e, hk0]; rfl))
                  clear BAD GOOD e ed hk0
                  go_wp2_with fail
                  go_ret
                  exact ⟨ret_bool RF.out, rfl⟩
                · have z0 : ((k : Int) == 0) = false := by rw [beq_eq_false_iff_ne]; omega
                  have z1 : (k != 0) = true := by simpa using hk0
                  have RF := hid (BAD.out (by rw [BC1.out, CB.out, e, ed]; simp))
                  clear BAD GOOD e ed z1
                  go_wp2_with fail
                  go_ret
                  exact ⟨ret_bool RF.out, rfl⟩
            · have HA := hid (any_end H.out (by simpa using hlt))
              have RT := hid (show true = r by rw [NB2.out, HA.out]; rfl)
              go_wp2_with fail
              go_ret
              exact ⟨ret_bool RT.out, rfl⟩
      · have d24 : decide ((s.size : Int) > 24) = true := by simp; omega
        rw [decide_eq_false h24] at NB
        go_enter Try.func76, Try.ntmps76
        go_wp2_with fail
        go_ret
        exact ⟨ret_bool NB.out.symm, rfl⟩
  exact go _ rfl

end Go.Proofs.Ytkehelplmipenaa
