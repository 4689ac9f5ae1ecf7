/- The order of two values: the walks of drossref01's sign, strings and Compare. -/
import Derived.Test.YtkehelplmipenaaTab6
namespace Go.Proofs.Ytkehelplmipenaa
open Go.RowKit

theorem wrap64_byte {c : Nat} (h : c < 256) : wrap64 (c : Int) = (c : Int) := by unfold wrap64; omega
def sgI (a b : Int) : Int := if a < b then -1 else if b < a then 1 else 0
theorem sgI_zero (a b : Int) : sgI a b = 0 ↔ a = b := by
  unfold sgI
  split
  · omega
  · split <;> omega
theorem sign_any (a b : Int) (w : World) :
    Calls Try.prog 93 #[.int .i64 a, .int .i64 b] w fun e w' => e = .returned (.int .i64 (sgI a b)) ∧ w = w' := by
  by_cases h1 : a < b
  · rw [show sgI a b = -1 by unfold sgI; rw [if_pos h1]]
    go_enter Try.func93, Try.ntmps93
    go_wp2_with fail
    go_ret
    exact ⟨rfl, rfl⟩
  · by_cases h2 : b < a
    · rw [show sgI a b = 1 by unfold sgI; rw [if_neg h1, if_pos h2]]
      go_enter Try.func93, Try.ntmps93
      go_wp2_with fail
      go_ret
      exact ⟨rfl, rfl⟩
    · rw [show sgI a b = 0 by unfold sgI; rw [if_neg h1, if_neg h2]]
      go_enter Try.func93, Try.ntmps93
      go_wp2_with fail
      go_ret
      exact ⟨rfl, rfl⟩

def strI (a b : ByteArray) (k : Nat) : Nat → Int
  | 0 => sgI a.size b.size
  | n + 1 => if k < b.size then (if byteN a k = byteN b k then strI a b (k + 1) n else sgI (byteN a k) (byteN b k)) else sgI a.size b.size
theorem strI_zero (a b : ByteArray) : ∀ (n k : Nat), k + n = a.size → (strI a b k n = 0 ↔ a.size = b.size ∧ ∀ j, k ≤ j → j < a.size → byteN a j = byteN b j) := by
  intro n
  induction n with
  | zero =>
    intro k hk
    unfold strI
    rw [sgI_zero]
    constructor
    · intro h; exact ⟨by omega, fun j h1 h2 => by omega⟩
    · rintro ⟨h, -⟩; omega
  | succ n ih =>
    intro k hk
    unfold strI
    split
    · split
      · rename_i h1 h2
        rw [ih (k + 1) (by omega)]
        constructor
        · rintro ⟨h3, h4⟩
          refine ⟨h3, fun j h5 h6 => ?_⟩
          by_cases hj : j = k
          · subst hj; exact h2
          · exact h4 j (by omega) h6
        · rintro ⟨h3, h4⟩
          exact ⟨h3, fun j h5 h6 => h4 j (by omega) h6⟩
      · rename_i h1 h2
        rw [sgI_zero]
        constructor
        · intro h; exact absurd (by omega) h2
        · rintro ⟨-, h4⟩; exact absurd (h4 k (by omega) (by omega)) h2
    · rename_i h1
      rw [sgI_zero]
      constructor
      · intro h; omega
      · rintro ⟨h, -⟩; omega
theorem eqT_iff (a b : ByteArray) : eqT a b = true ↔ a.size = b.size ∧ ∀ j, j < a.size → byteN a j = byteN b j := by
  unfold eqT
  rw [beq_iff_eq, ByteArray.toList_eq, ByteArray.toList_eq]
  constructor
  · intro h
    have e : a = b := ByteArray.ext (Array.toList_inj.1 h)
    subst e
    exact ⟨rfl, fun _ _ => rfl⟩
  · rintro ⟨h1, h2⟩
    congr 1
    refine Array.ext h1 fun i hi hi' => ?_
    have h := h2 i hi
    unfold byteN at h
    rw [dif_pos (show i < a.size from hi), dif_pos (show i < b.size from hi')] at h
    exact UInt8.toNat_inj.1 h
theorem strI_eqT (a b : ByteArray) : decide (strI a b 0 a.size = 0) = eqT a b := by
  rw [Bool.eq_iff_iff, decide_eq_true_iff, strI_zero a b a.size 0 (by omega), eqT_iff]
  simp

theorem drewN_ex {w wr : World} (h : ∃ n, wr = w.drewN n) (q : Nat) : ∃ n, wr.drewN q = w.drewN n := by
  obtain ⟨n, rfl⟩ := h
  exact ⟨n + q, by simp [World.drewN, Nat.add_assoc]⟩
set_option maxRecDepth 100000 in
theorem strings_any (a b : ByteArray) (w : World) (ha : a.size ≤ 200) :
    Calls Try.prog 94 #[.string a, .string b] w fun e w' => e = .returned (.int .i64 (strI a b 0 a.size)) ∧ ∃ n, w' = w.drewN n := by
  have SG := hid (fun (a b : Int) (W : World) => sign_any a b W)
  have SQ := hid (fun (a b : Int) (W : World) (q x : Nat) => show Calls Try.prog 93 #[.int .i64 a, .int .i64 b] (W.drewN (q + x)) fun e w' => e = .returned (.int .i64 (sgI a b)) ∧ ∃ n, w' = W.drewN (q + n) from (sign_any a b _).mono fun _ _ h => ⟨h.1, x, h.2.symm⟩)
  have go : ∀ r : Int, strI a b 0 a.size = r → Calls Try.prog 94 #[.string a, .string b] w fun e w' => e = .returned (.int .i64 r) ∧ ∃ n, w' = w.drewN n := by
    intro r hr
    have R0 := hid hr
    clear hr
    go_enter Try.func94, Try.ntmps94
    go_wp2_with fail
    go_loopw [5] (fun i wr => ∃ k : Nat, k ≤ a.size ∧ i = .int .i64 k ∧ Hid (strI a b k (a.size - k) = r) ∧ Hid (∃ n, wr = w.drewN n)) (fun i _ => a.size - (intOf i).toNat)
    case atStart => exact ⟨0, Nat.zero_le _, rfl, R0, hid ⟨0, rfl⟩⟩
    case round =>
      obtain ⟨k, hk, rfl, H, HW⟩ := hrel
      have k0 : (0 : Int) ≤ (k : Int) := by omega
      by_cases hlt : k < a.size
      · have RR := hid (show (if k < b.size then (if byteN a k = byteN b k then strI a b (k + 1) (a.size - (k + 1)) else sgI (byteN a k) (byteN b k)) else sgI a.size b.size) = r by
          have h := H.out
          rw [show a.size - k = a.size - (k + 1) + 1 by omega] at h
          exact h)
        clear H
        by_cases hlt2 : k < b.size
        · have RS := hid (show (if byteN a k = byteN b k then strI a b (k + 1) (a.size - (k + 1)) else sgI (byteN a k) (byteN b k)) = r by
            have h := RR.out
            rw [if_pos hlt2] at h
            exact h)
          clear RR
          have hb1 := fun h : k < a.size => byteN_at h
          have hb2 := fun h : k < b.size => byteN_at h
          by_cases hq : byteN a k = byteN b k
          · have RF := hid (show strI a b (k + 1) (a.size - (k + 1)) = r by
              have h := RS.out
              rw [if_pos hq] at h
              exact h)
            clear RS
            have q1 : (((a[k]'hlt).toNat : Int) == ((b[k]'hlt2).toNat : Int)) = true := by rw [byteN_at, byteN_at, hq]; simp
            have q2 : (((a[k]'hlt).toNat : Int) != ((b[k]'hlt2).toNat : Int)) = false := by rw [byteN_at, byteN_at, hq]; simp
            have q3 : ((a[k]'hlt).toNat) = ((b[k]'hlt2).toNat) := by rw [byteN_at, byteN_at, hq]
            clear hq hb1 hb2
            go_wp2_with fail
            go_quiet (fail)
            go_wp2_with fail
            go_roundw
            case rel => exact ⟨k + 1, by omega, by go_num, RF, hid (drewN_ex HW.out _)⟩
            case measure => simp [intOf]; omega
          · have RF := hid (show sgI (byteN a k) (byteN b k) = r by
              have h := RS.out
              rw [if_neg hq] at h
              exact h)
            clear RS
            have q1 : (((a[k]'hlt).toNat : Int) == ((b[k]'hlt2).toNat : Int)) = false := by rw [byteN_at, byteN_at]; simp; omega
            have q2 : (((a[k]'hlt).toNat : Int) != ((b[k]'hlt2).toNat : Int)) = true := by rw [byteN_at, byteN_at]; simp; omega
            have q3 : ¬ ((a[k]'hlt).toNat) = ((b[k]'hlt2).toNat) := by rw [byteN_at, byteN_at]; exact hq
            have RW := hid (show sgI (wrap64 ((a[k]'hlt).toNat : Int)) (wrap64 ((b[k]'hlt2).toNat : Int)) = r by
              have l1 := byteN_lt a k
              have l2 := byteN_lt b k
              rw [byteN_at, byteN_at, wrap64_byte l1, wrap64_byte l2]
              exact RF.out)
            clear hq hb1 hb2
            go_wp2_with fail
            go_quiet (fail)
            go_wp2_with fail
            go_quiet ((go_at_call 93; refine (SQ.out _ _ _ _ _).mono ?_; exact fun _ _ h => h))
            go_wp2_with fail
            go_ret
            exact ⟨ret_int RW.out, by first | exact drewN_ex HW.out _ | exact drewN_ex (drewN_ex HW.out _) _⟩
        · have RF := hid (show sgI a.size b.size = r by
            have h := RR.out
            rw [if_neg hlt2] at h
            exact h)
          have S1 := hid (SG.out a.size b.size)
          clear RR
          go_wp2_with fail
          refine (S1.out _).mono ?_
          rintro e w' ⟨rfl, rfl⟩
          go_wp2_with fail
          go_ret
          exact ⟨ret_int RF.out, HW.out⟩
      · have RF := hid (show sgI a.size b.size = r by
          have h := H.out
          rw [show a.size - k = 0 by omega] at h
          exact h)
        have S1 := hid (SG.out a.size b.size)
        clear H
        go_wp2_with fail
        refine (S1.out _).mono ?_
        rintro e w' ⟨rfl, rfl⟩
        go_wp2_with fail
        go_ret
        exact ⟨ret_int RF.out, HW.out⟩
  exact go _ rfl

/-- The order of two values. -/
def cmpV (x y : V3) : Int := if sgI x.1 y.1 ≠ 0 then sgI x.1 y.1 else if sgI x.2.1 y.2.1 ≠ 0 then sgI x.2.1 y.2.1 else strI x.2.2 y.2.2 0 x.2.2.size
def eqV (x y : V3) : Bool := decide (x.1 = y.1) && decide (x.2.1 = y.2.1) && eqT x.2.2 y.2.2
theorem cmpV_zero (x y : V3) : decide (cmpV x y = 0) = eqV x y := by
  unfold cmpV eqV
  rw [← strI_eqT]
  by_cases h1 : x.1 = y.1
  · have e1 := (sgI_zero x.1 y.1).2 h1
    by_cases h2 : x.2.1 = y.2.1
    · have e2 := (sgI_zero x.2.1 y.2.1).2 h2
      rw [if_neg (fun h => h e1), if_neg (fun h => h e2), decide_eq_true h1, decide_eq_true h2]
      simp
    · have e2 : sgI x.2.1 y.2.1 ≠ 0 := fun e => h2 ((sgI_zero _ _).1 e)
      rw [if_neg (fun h => h e1), if_pos e2, decide_eq_false h2, decide_eq_false e2]
      simp
  · have e1 : sgI x.1 y.1 ≠ 0 := fun e => h1 ((sgI_zero _ _).1 e)
    rw [if_pos e1, decide_eq_false h1, decide_eq_false e1]
    simp

end Go.Proofs.Ytkehelplmipenaa
