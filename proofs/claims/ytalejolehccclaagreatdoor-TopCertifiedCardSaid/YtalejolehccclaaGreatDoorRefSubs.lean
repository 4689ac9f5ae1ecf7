/- The walk of the reference's Subsets: all subsets of a set, in order. -/
import Derived.Test.YtalejolehccclaaGreatDoorGWalk
import Derived.Test.YtalejolehccclaaGreatDoorGPlain
namespace Go.Proofs.YtalejolehccclaaGreatDoor
open Go.RowKit

/-! The next subset. -/
def nxt (x s : S) : S := BitVec.ofNat 32 ((x.toNat + 2 ^ 64 - s.toNat) &&& s.toNat)
theorem nxt_nat (x s : S) : (nxt x s).toNat = (x.toNat + 2 ^ 64 - s.toNat) &&& s.toNat := by
  unfold nxt
  have h1 : (x.toNat + 2 ^ 64 - s.toNat) &&& s.toNat ≤ s.toNat := Nat.and_le_right
  have := s.isLt
  rw [BitVec.toNat_ofNat]
  exact Nat.mod_eq_of_lt (by omega)
theorem nxt_sub (x s : S) : sub (nxt x s) s := by
  rw [sub_nat, nxt_nat, Nat.and_assoc, Nat.and_self]
theorem nxt_gt {x s : S} (hx : sub x s) (hne : x ≠ s) : x.toNat < (nxt x s).toNat := by
  rw [nxt_nat]
  exact (succ_sub 64 x.toNat s.toNat s.toNat (by have := s.isLt; omega) (sub_nat.1 hx) (Nat.and_self _) (sub_toNat_lt hx hne)).2
theorem nxt_spec {x s y : S} (hx : sub x s) (hy : sub y s) (hne : x ≠ s) : y.toNat < (nxt x s).toNat ↔ y.toNat < x.toNat ∨ y = x := by
  have h1 := nxt_gt hx hne
  constructor
  · intro h
    by_cases e : x.toNat < y.toNat
    · have h2 := (succ_sub 64 x.toNat y.toNat s.toNat (by have := s.isLt; omega) (sub_nat.1 hx) (sub_nat.1 hy) e).1
      rw [nxt_nat] at h; omega
    · by_cases e2 : y.toNat = x.toNat
      · exact .inr (BitVec.eq_of_toNat_eq e2)
      · exact .inl (by omega)
  · rintro (h | rfl) <;> omega
theorem nxt_bits (x s : S) (h : x.toNat < s.toNat) : bits .and .u64 (IntKind.u64.wrap (iv x - iv s)) (iv s) = iv (nxt x s) := by
  have hs := s.isLt
  have e1 : IntKind.u64.wrap (iv x - iv s) = ((x.toNat + 2 ^ 64 - s.toNat : Nat) : Int) := by
    rw [IntKind.wrap_u64]; unfold iv; omega
  have h2 : (x.toNat + 2 ^ 64 - s.toNat) &&& s.toNat ≤ s.toNat := Nat.and_le_right
  have e2 : bits .and .u64 (IntKind.u64.wrap (iv x - iv s)) (iv s) = IntKind.u64.wrap ((BitVec.ofInt 64 (IntKind.u64.wrap (iv x - iv s)) &&& BitVec.ofInt 64 (iv s)).toNat : Int) := rfl
  have e3 : (BitVec.ofInt 64 (((x.toNat + 2 ^ 64 - s.toNat : Nat) : Int)) &&& BitVec.ofInt 64 (iv s)).toNat = (x.toNat + 2 ^ 64 - s.toNat) &&& s.toNat := by
    rw [BitVec.toNat_and]
    have a1 : (BitVec.ofInt 64 (((x.toNat + 2 ^ 64 - s.toNat : Nat) : Int))).toNat = x.toNat + 2 ^ 64 - s.toNat := by
      rw [BitVec.ofInt_natCast, BitVec.toNat_ofNat]; exact Nat.mod_eq_of_lt (by omega)
    have a2 : (BitVec.ofInt 64 (iv s)).toNat = s.toNat := by
      unfold iv
      rw [BitVec.ofInt_natCast, BitVec.toNat_ofNat]; exact Nat.mod_eq_of_lt (by omega)
    rw [a1, a2]
  rw [e2, e1, e3, IntKind.wrap_u64]
  unfold iv
  rw [nxt_nat]
  omega
theorem u64_iv (s : S) : IntKind.u64.wrap (iv s) = iv s := by
  rw [IntKind.wrap_u64]; have := iv_nonneg s; have := iv_lt s; omega


/-! The lists on the way. -/
theorem subs_step {s x : S} {k : Nat} {ys : List S} (hx : sub x s) (h : IsOrd ys (fun y => sub y s ∧ (pop y < k ∨ pop y = k ∧ y.toNat < x.toNat))) (hk : pop x = k) :
    IsOrd (ys ++ [x]) (fun y => sub y s ∧ (pop y < k ∨ pop y = k ∧ (y.toNat < x.toNat ∨ y = x))) := by
  refine ⟨?_, fun y => ?_⟩
  · rw [List.pairwise_append]
    refine ⟨h.1, by simp, fun a ha b hb => ?_⟩
    rw [List.mem_singleton] at hb
    subst hb
    obtain ⟨_, h2⟩ := (h.2 a).1 ha
    rw [bef_iff]
    omega
  · rw [List.mem_append, List.mem_singleton, h.2 y]
    constructor
    · rintro (⟨h1, h2 | ⟨h2, h3⟩⟩ | rfl)
      · exact ⟨h1, .inl h2⟩
      · exact ⟨h1, .inr ⟨h2, .inl h3⟩⟩
      · exact ⟨hx, .inr ⟨hk, .inr rfl⟩⟩
    · rintro ⟨h1, h2 | ⟨h2, h3 | h3⟩⟩
      · exact .inl ⟨h1, .inl h2⟩
      · exact .inl ⟨h1, .inr ⟨h2, h3⟩⟩
      · exact .inr h3
theorem subs_skip {s x : S} {k : Nat} {ys : List S} (h : IsOrd ys (fun y => sub y s ∧ (pop y < k ∨ pop y = k ∧ y.toNat < x.toNat))) (hk : pop x ≠ k) :
    IsOrd ys (fun y => sub y s ∧ (pop y < k ∨ pop y = k ∧ (y.toNat < x.toNat ∨ y = x))) := by
  refine h.congr fun y => ?_
  constructor
  · rintro ⟨h1, h2 | ⟨h2, h3⟩⟩
    · exact ⟨h1, .inl h2⟩
    · exact ⟨h1, .inr ⟨h2, .inl h3⟩⟩
  · rintro ⟨h1, h2 | ⟨h2, h3 | rfl⟩⟩
    · exact ⟨h1, .inl h2⟩
    · exact ⟨h1, .inr ⟨h2, h3⟩⟩
    · exact absurd h2 hk
/-- Where the search stands: at a subset, or behind the last. -/
def AtX (s : S) (k : Nat) (i : Int) (ys : List S) : Prop :=
  (∃ x : S, i = iv x ∧ sub x s ∧ IsOrd ys (fun y => sub y s ∧ (pop y < k ∨ pop y = k ∧ y.toNat < x.toNat))) ∨ (i = iv s + 1 ∧ IsOrd ys (fun y => sub y s ∧ pop y < k + 1))
theorem atX_zero {s : S} {k : Nat} {ys : List S} (h : IsOrd ys (fun y => sub y s ∧ pop y < k)) : AtX s k 0 ys :=
  .inl ⟨0#32, rfl, sub_zero s, h.congr fun y => by simp⟩
theorem atX_next {s x : S} {k : Nat} {ys : List S} (hx : sub x s) (hne : x ≠ s) (h : IsOrd ys (fun y => sub y s ∧ (pop y < k ∨ pop y = k ∧ (y.toNat < x.toNat ∨ y = x)))) : AtX s k (iv (nxt x s)) ys := by
  refine .inl ⟨nxt x s, rfl, nxt_sub x s, h.congr fun y => ?_⟩
  constructor
  · rintro ⟨h1, h2⟩; exact ⟨h1, by rw [nxt_spec hx h1 hne]; exact h2⟩
  · rintro ⟨h1, h2⟩; exact ⟨h1, by rw [nxt_spec hx h1 hne] at h2; exact h2⟩
theorem atX_last {s : S} {k : Nat} {ys : List S} (h : IsOrd ys (fun y => sub y s ∧ (pop y < k ∨ pop y = k ∧ (y.toNat < s.toNat ∨ y = s)))) : AtX s k (iv s + 1) ys := by
  refine .inr ⟨rfl, h.congr fun y => ?_⟩
  constructor
  · rintro ⟨h1, h2⟩; exact ⟨h1, by omega⟩
  · rintro ⟨h1, h2⟩
    refine ⟨h1, ?_⟩
    have h3 := sub_toNat h1
    by_cases e : pop y < k
    · exact .inl e
    · refine .inr ⟨by omega, ?_⟩
      by_cases e2 : y.toNat = s.toNat
      · exact .inr (BitVec.eq_of_toNat_eq e2)
      · exact .inl (by omega)


end Go.Proofs.YtalejolehccclaaGreatDoor
